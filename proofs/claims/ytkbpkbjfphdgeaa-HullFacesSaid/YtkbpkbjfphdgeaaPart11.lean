/- Turns in the plane: laws.
   Conditions: none. -/
import Derived.KernelRfl
import Derived.Test.YtkbpkbjfphdgeaaPart10
section
set_option linter.unusedVariables false
namespace Go.Hull

def Lp (u : Pt) : Prop := 0 < u.1 ∨ (u.1 = 0 ∧ 0 < u.2)
theorem before_iff {p q : Pt} : before p q = true ↔ Lp (sub q p) := by
  simp only [before, Lp, sub, Bool.or_eq_true, Bool.and_eq_true, decide_eq_true_eq, beq_iff_eq]
  omega
theorem before_irrefl (p : Pt) : before p p = false := by
  cases h : before p p with
  | false => rfl
  | true => rw [before_iff] at h; simp only [Lp, sub] at h; omega
theorem before_trans {p q r : Pt} (h1 : before p q = true) (h2 : before q r = true) : before p r = true := by
  rw [before_iff] at *; simp only [Lp, sub] at *; omega
theorem before_asymm {p q : Pt} (h1 : before p q = true) : before q p = false := by
  cases h : before q p with
  | false => rfl
  | true => have := before_trans h1 h; rw [before_irrefl] at this; cases this
theorem before_total (p q : Pt) : p = q ∨ before p q = true ∨ before q p = true := by
  simp only [before, Bool.or_eq_true, Bool.and_eq_true, decide_eq_true_eq, beq_iff_eq]
  by_cases h1 : p.1 = q.1
  · by_cases h2 : p.2 = q.2
    · exact .inl (Prod.ext h1 h2)
    · omega
  · omega
theorem turn_trans {u v w : Pt} (hu : Lp u) (hv : Lp v) (hw : Lp w) (h1 : 0 ≤ turn u v) (h2 : 0 ≤ turn v w) : 0 ≤ turn u w := by
  obtain ⟨a, b⟩ := u
  obtain ⟨c, d⟩ := v
  obtain ⟨e, f⟩ := w
  simp only [Lp, turn] at *
  have ha : 0 ≤ a := by omega
  have he : 0 ≤ e := by omega
  rcases hv with hc | ⟨hc, hd⟩
  · have e1 : c * (a * f - b * e) = a * (c * f - d * e) + e * (a * d - b * c) := by grind
    have e2 := Int.mul_nonneg ha h2
    have e3 := Int.mul_nonneg he h1
    have e4 : 0 ≤ c * (a * f - b * e) := by omega
    exact Int.nonneg_of_mul_nonneg_right e4 hc
  · subst hc
    have e0 : e = 0 := by
      rcases Int.lt_or_eq_of_le he with h | h
      · have := Int.mul_pos hd h
        simp only [Int.zero_mul] at h2
        omega
      · exact h.symm
    subst e0
    have hf : 0 < f := by omega
    have := Int.mul_nonneg ha (Int.le_of_lt hf)
    simp only [Int.mul_zero]
    omega
theorem turn_zero {u v w : Pt} (hu : Lp u) (h1 : turn u v = 0) (h2 : turn u w = 0) : turn v w = 0 := by
  obtain ⟨a, b⟩ := u
  obtain ⟨c, d⟩ := v
  obtain ⟨e, f⟩ := w
  simp only [Lp, turn] at *
  have e1 : a * (c * f - d * e) = 0 := by grind
  have e2 : b * (c * f - d * e) = 0 := by grind
  rcases Int.mul_eq_zero.1 e1 with h | h
  · rcases Int.mul_eq_zero.1 e2 with h' | h'
    · omega
    · exact h'
  · exact h
theorem turn_anti (u v : Pt) : turn u v = - turn v u := by simp only [turn]; grind
theorem left_self2 (a b : Pt) : left a b b = 0 := by simp only [left, turn, sub]; grind
theorem left_self1 (a b : Pt) : left a b a = 0 := by simp only [left, turn, sub]; grind
theorem left_swap (a b c : Pt) : left b a c = - left a b c := by simp only [left, turn, sub]; grind
theorem left_eq (a b c : Pt) : left a b c = turn (sub b a) (sub c b) := by simp only [left, turn, sub]; grind
theorem left_eq' (a b c : Pt) : left a b c = - turn (sub b a) (sub b c) := by simp only [left, turn, sub]; grind
/-- A chain: from its last point back to its first. -/
inductive Chn (D : Pt → Prop) : List Pt → Prop where
  | one (p : Pt) : Chn D [p]
  | two {a b : Pt} : before a b = true → (∀ q, D q → 0 ≤ left a b q) → Chn D [b, a]
  | more {a b c : Pt} {r : List Pt} : before b c = true → (∀ q, D q → 0 ≤ left b c q) → 0 < left a b c → Chn D (b :: a :: r) → Chn D (c :: b :: a :: r)
theorem Chn.ext {D : Pt → Prop} {p : Pt} : ∀ {r : List Pt} {a b : Pt}, Chn D (b :: a :: r) → 0 ≤ left a b p → before b p = true → Chn (fun q => D q ∨ q = p) (b :: a :: r) := by
  intro r
  induction r with
  | nil =>
    intro a b h hl hb
    cases h with
    | two h1 h2 =>
      refine .two h1 fun q hq => ?_
      rcases hq with hq | rfl
      · exact h2 q hq
      · exact hl
  | cons c r ih =>
    intro a b h hl hb
    cases h with
    | more h1 h2 h3 h4 =>
      have h4' := h4
      have hca : before c a = true := by
        cases h4 with
        | two h _ => exact h
        | more h _ _ _ => exact h
      refine .more h1 (fun q hq => ?_) h3 (ih h4' ?_ (before_trans h1 hb))
      · rcases hq with hq | rfl
        · exact h2 q hq
        · exact hl
      · have k := turn_trans (u := sub a c) (v := sub b a) (w := sub p b) (before_iff.1 hca) (before_iff.1 h1) (before_iff.1 hb) (by rw [← left_eq]; omega) (by rw [← left_eq]; exact hl)
        have e : left c a p = left c a b + turn (sub a c) (sub p b) := by simp only [left, turn, sub]; grind
        omega
def popP (p : Pt) : List Pt → List Pt
  | b :: a :: r => if left a b p ≤ 0 then popP p (a :: r) else b :: a :: r
  | st => st
theorem popP_getLast (p : Pt) : ∀ (st : List Pt), (popP p st).getLast? = st.getLast? := by
  intro st
  induction st with
  | nil => rfl
  | cons b st ih =>
    cases st with
    | nil => rfl
    | cons a r =>
      simp only [popP]
      split
      · rw [ih, List.getLast?_cons_cons]
      · rfl
theorem popP_mem (p : Pt) : ∀ (st : List Pt), ∀ x ∈ popP p st, x ∈ st := by
  intro st
  induction st with
  | nil => intro x hx; exact hx
  | cons b st ih =>
    cases st with
    | nil => intro x hx; exact hx
    | cons a r =>
      intro x hx
      simp only [popP] at hx
      split at hx
      · exact List.mem_cons_of_mem _ (ih x hx)
      · exact hx
theorem Chn.push {D : Pt → Prop} {p : Pt} (hp : ∀ q, D q → before q p = true) : ∀ {st : List Pt}, Chn D st → (∀ x ∈ st, D x) →
    (∀ t, st.getLast? = some t → ∀ q, D q → q = t ∨ before t q = true) →
    (∀ t, st.head? = some t → ∀ q, D q → q = t ∨ before t q = true → 0 ≤ left t p q) →
    Chn (fun q => D q ∨ q = p) (p :: popP p st) := by
  intro st
  induction st with
  | nil => intro h; cases h
  | cons b st ih =>
    intro h hm hlast hT
    cases st with
    | nil =>
      simp only [popP]
      refine .two (hp b (hm b (by simp))) fun q hq => ?_
      rcases hq with hq | rfl
      · exact hT b rfl q hq (hlast b rfl q hq)
      · rw [left_self2]; exact Int.le_refl _
    | cons a r =>
      have hab : before a b = true ∧ (∀ q, D q → 0 ≤ left a b q) ∧ Chn D (a :: r) := by
        cases h with
        | two h1 h2 => exact ⟨h1, h2, .one a⟩
        | more h1 h2 h3 h4 => exact ⟨h1, h2, h4⟩
      obtain ⟨h1, h2, h3⟩ := hab
      have ha := hm a (by simp)
      have hb := hm b (by simp)
      simp only [popP]
      split
      · rename_i hc
        refine ih h3 (fun x hx => hm x (List.mem_cons_of_mem _ hx)) (fun t ht => hlast t (by rw [List.getLast?_cons_cons]; exact ht)) fun t ht q hq hqt => ?_
        simp only [List.head?_cons, Option.some.injEq] at ht
        subst ht
        rcases hqt with rfl | hqt
        · rw [left_self1]; exact Int.le_refl _
        · exact turn_trans (u := sub p a) (v := sub b a) (w := sub q a) (before_iff.1 (hp a ha)) (before_iff.1 h1) (before_iff.1 hqt) (by rw [turn_anti]; simp only [left] at hc; omega) (h2 q hq)
      · rename_i hc
        refine .more (hp b hb) (fun q hq => ?_) (by omega) (h.ext (by omega) (hp b hb))
        rcases hq with hq | rfl
        · rcases before_total q b with hqb | hqb | hqb
          · exact hT b rfl q hq (.inl hqb)
          · have e1 := h2 q hq
            have k := turn_trans (u := sub b q) (v := sub b a) (w := sub p b) (before_iff.1 hqb) (before_iff.1 h1) (before_iff.1 (hp b hb)) (by rw [left_eq'] at e1; rw [turn_anti]; exact e1) (by rw [← left_eq]; omega)
            have e : left b p q = turn (sub b q) (sub p b) := by simp only [left, turn, sub]; grind
            rw [e]; exact k
          · exact hT b rfl q hq (.inr hqb)
        · rw [left_self2]; exact Int.le_refl _
theorem Chn.mono {D D' : Pt → Prop} (h : ∀ q, D' q → D q) : ∀ {st : List Pt}, Chn D st → Chn D' st := by
  intro st hc
  induction hc with
  | one p => exact .one p
  | two h1 h2 => exact .two h1 fun q hq => h2 q (h q hq)
  | more h1 h2 h3 _ ih => exact .more h1 (fun q hq => h2 q (h q hq)) h3 ih
def chainP (ps : List Pt) : List Pt := ps.foldl (fun st p => p :: popP p st) []
structure Ready (don st : List Pt) : Prop where
  chn : Chn (· ∈ don) st
  mem : ∀ x ∈ st, x ∈ don
  last : ∀ t, st.getLast? = some t → ∀ q ∈ don, q = t ∨ before t q = true
  top : ∀ t, st.head? = some t → ∀ q ∈ don, q = t ∨ before q t = true
theorem Ready.push {don st : List Pt} {p : Pt} (h : Ready don st) (hp : ∀ q ∈ don, before q p = true) : Ready (don ++ [p]) (p :: popP p st) := by
  have hne : st ≠ [] := by intro e; have := h.chn; rw [e] at this; cases this
  refine ⟨?_, ?_, ?_, ?_⟩
  · refine (Chn.push (D := (· ∈ don)) hp h.chn h.mem h.last fun t ht q hq hqt => ?_).mono fun q hq => by simpa using hq
    rcases hqt with rfl | hqt
    · rw [left_self1]; exact Int.le_refl _
    · rcases h.top t ht q hq with rfl | h2
      · rw [left_self1]; exact Int.le_refl _
      · rw [before_asymm h2] at hqt; cases hqt
  · intro x hx
    rcases List.mem_cons.1 hx with rfl | hx
    · simp
    · exact List.mem_append_left _ (h.mem x (popP_mem p st x hx))
  · intro t ht q hq
    cases hpp : popP p st with
    | nil =>
      have := popP_getLast p st
      rw [hpp] at this
      exact absurd (List.getLast?_eq_none_iff.1 this.symm) hne
    | cons y ys =>
      rw [hpp, List.getLast?_cons_cons, ← hpp, popP_getLast] at ht
      rcases List.mem_append.1 hq with hq | hq
      · exact h.last t ht q hq
      · rw [List.mem_singleton.1 hq]
        exact .inr (hp t (h.mem t (List.mem_of_getLast? ht)))
  · intro t ht q hq
    simp only [List.head?_cons, Option.some.injEq] at ht
    subst ht
    rcases List.mem_append.1 hq with hq | hq
    · exact .inr (hp q hq)
    · exact .inl (List.mem_singleton.1 hq)
theorem ready_fold : ∀ (rest don st : List Pt), Ready don st → (don ++ rest).Pairwise (fun p q => before p q = true) → Ready (don ++ rest) (rest.foldl (fun st p => p :: popP p st) st) := by
  intro rest
  induction rest with
  | nil => intro don st h _; simpa using h
  | cons p rest ih =>
    intro don st h hp
    have e : don ++ p :: rest = (don ++ [p]) ++ rest := by simp
    rw [e] at hp ⊢
    exact ih (don ++ [p]) _ (h.push fun q hq => (List.pairwise_append.1 (List.pairwise_append.1 hp).1).2.2 q hq p (by simp)) hp
theorem ready_chain {ps : List Pt} (hne : ps ≠ []) (hp : ps.Pairwise (fun p q => before p q = true)) : Ready ps (chainP ps) := by
  cases ps with
  | nil => exact absurd rfl hne
  | cons p rest =>
    refine ready_fold rest [p] [p] ⟨.one p, fun x hx => hx, fun t ht q hq => ?_, fun t ht q hq => ?_⟩ hp
    · simp only [List.getLast?_singleton, Option.some.injEq] at ht
      exact .inl (by rw [List.mem_singleton.1 hq, ht])
    · simp only [List.head?_cons, Option.some.injEq] at ht
      exact .inl (by rw [List.mem_singleton.1 hq, ht])
end Go.Hull
end
section
set_option linter.unusedVariables false
namespace Go.Hull

structure Ch (D : Pt → Prop) (A : Nat → Pt) (x : Nat) : Prop where
  up : ∀ i, i < x → before (A i) (A (i + 1)) = true
  edge : ∀ i, i < x → ∀ q, D q → 0 ≤ left (A i) (A (i + 1)) q
  turns : ∀ i, i + 1 < x → 0 < left (A i) (A (i + 1)) (A (i + 2))
  mem : ∀ i, i ≤ x → D (A i)
  first : ∀ q, D q → q = A 0 ∨ before (A 0) q = true
  last : ∀ q, D q → q = A x ∨ before q (A x) = true
theorem Ch.lt {D : Pt → Prop} {A : Nat → Pt} {x : Nat} (h : Ch D A x) {i : Nat} : ∀ {k : Nat}, i < k → k ≤ x → before (A i) (A k) = true := by
  intro k
  induction k with
  | zero => intro h1; omega
  | succ k ih =>
    intro h1 h2
    by_cases hk : i = k
    · subst hk; exact h.up i (by omega)
    · exact before_trans (ih (by omega) (by omega)) (h.up k (by omega))
theorem Chn.ix {D : Pt → Prop} {st : List Pt} (h : Chn D st) : (∀ i, i + 1 < st.length → before (st.getD (st.length - 1 - i) (0, 0)) (st.getD (st.length - 1 - (i + 1)) (0, 0)) = true ∧ ∀ q, D q → 0 ≤ left (st.getD (st.length - 1 - i) (0, 0)) (st.getD (st.length - 1 - (i + 1)) (0, 0)) q) ∧
    (∀ i, i + 2 < st.length → 0 < left (st.getD (st.length - 1 - i) (0, 0)) (st.getD (st.length - 1 - (i + 1)) (0, 0)) (st.getD (st.length - 1 - (i + 2)) (0, 0))) := by
  induction h with
  | one p => exact ⟨fun i hi => by simp at hi, fun i hi => by simp at hi⟩
  | @two a b h1 h2 =>
    refine ⟨fun i hi => ?_, fun i hi => by simp only [List.length_cons, List.length_nil] at hi; omega⟩
    simp only [List.length_cons, List.length_nil] at hi
    obtain rfl : i = 0 := by omega
    exact ⟨h1, h2⟩
  | @more a b c r h1 h2 h3 h4 ih =>
    simp only [List.length_cons] at ih ⊢
    obtain ⟨i1, i2⟩ := ih
    have sh : ∀ i, i < r.length + 1 + 1 → (c :: b :: a :: r).getD (r.length + 1 + 1 + 1 - 1 - i) (0, 0) = (b :: a :: r).getD (r.length + 1 + 1 - 1 - i) (0, 0) := by
      intro i hi
      rw [show r.length + 1 + 1 + 1 - 1 - i = (r.length + 1 + 1 - 1 - i) + 1 by omega]
      simp
    have tp : (c :: b :: a :: r).getD (r.length + 1 + 1 + 1 - 1 - (r.length + 1 + 1)) (0, 0) = c := by
      rw [show r.length + 1 + 1 + 1 - 1 - (r.length + 1 + 1) = 0 by omega]; rfl
    have tb : (b :: a :: r).getD (r.length + 1 + 1 - 1 - (r.length + 1)) (0, 0) = b := by
      rw [show r.length + 1 + 1 - 1 - (r.length + 1) = 0 by omega]; rfl
    have ta : (b :: a :: r).getD (r.length + 1 + 1 - 1 - r.length) (0, 0) = a := by
      rw [show r.length + 1 + 1 - 1 - r.length = 1 by omega]; rfl
    refine ⟨fun i hi => ?_, fun i hi => ?_⟩
    · by_cases hk : i = r.length + 1
      · subst hk
        rw [sh _ (by omega), tb, tp]
        exact ⟨h1, h2⟩
      · rw [sh _ (by omega), sh _ (by omega)]
        exact i1 i (by omega)
    · by_cases hk : i = r.length
      · subst hk
        rw [sh _ (by omega), sh _ (by omega), tp, ta, tb]
        exact h3
      · rw [sh _ (by omega), sh _ (by omega), sh _ (by omega)]
        exact i2 i (by omega)
theorem Ready.ch {ps st : List Pt} (h : Ready ps st) : Ch (· ∈ ps) (fun i => st.getD (st.length - 1 - i) (0, 0)) (st.length - 1) := by
  have hne : 0 < st.length := by
    cases st with
    | nil => have := h.chn; cases this
    | cons a r => simp
  obtain ⟨i1, i2⟩ := h.chn.ix
  have gm : ∀ k, k < st.length → st.getD k (0, 0) ∈ st := fun k hk => by rw [List.getD_eq_getElem?_getD, List.getElem?_eq_getElem hk]; simp
  refine ⟨fun i hi => (i1 i (by omega)).1, fun i hi => (i1 i (by omega)).2, fun i hi => i2 i (by omega), fun i hi => h.mem _ (gm _ (by omega)), fun q hq => ?_, fun q hq => ?_⟩
  · refine h.last _ ?_ q hq
    simp only [Nat.sub_zero]
    rw [List.getLast?_eq_getElem?, List.getD_eq_getElem?_getD, List.getElem?_eq_getElem (by omega)]
    simp
  · refine h.top _ ?_ q hq
    simp only [Nat.sub_self]
    cases st with
    | nil => simp at hne
    | cons a r => rfl
def neg (p : Pt) : Pt := (-p.1, -p.2)
theorem neg_neg' (p : Pt) : neg (neg p) = p := by simp [neg]
theorem left_neg (a b c : Pt) : left (neg a) (neg b) (neg c) = left a b c := by simp only [left, turn, sub, neg]; grind
theorem before_neg (a b : Pt) : before (neg a) (neg b) = before b a := by
  have : ∀ x y : Bool, (x = true ↔ y = true) → x = y := by decide
  apply this
  rw [before_iff, before_iff]
  simp only [Lp, sub, neg]; omega
/-- The lower chain A, the upper chain B (taken from the greatest point on), and all points D. -/
structure Two (D : Pt → Prop) (A B : Nat → Pt) (x y : Nat) : Prop where
  lo : Ch D A x
  hi : Ch (fun q => D (neg q)) (fun i => neg (B i)) y
  x1 : 0 < x
  y1 : 0 < y
variable {D : Pt → Prop} {A B : Nat → Pt} {x y : Nat}

theorem Two.memB (h : Two D A B x y) {j : Nat} (hj : j ≤ y) : D (B j) := by have := h.hi.mem j hj; simpa only [neg_neg'] using this
theorem Two.edgeB (h : Two D A B x y) {j : Nat} (hj : j < y) {q : Pt} (hq : D q) : 0 ≤ left (B j) (B (j + 1)) q := by
  have := h.hi.edge j hj (neg q) (by simpa only [neg_neg'] using hq)
  simpa only [left_neg] using this
theorem Two.turnB (h : Two D A B x y) {j : Nat} (hj : j + 1 < y) : 0 < left (B j) (B (j + 1)) (B (j + 2)) := by
  have := h.hi.turns j hj
  simpa only [left_neg] using this
theorem Two.ltB (h : Two D A B x y) {i j : Nat} (hij : i < j) (hj : j ≤ y) : before (B j) (B i) = true := by
  have := h.hi.lt hij hj
  simpa only [before_neg] using this
theorem Two.join1 (h : Two D A B x y) : A x = B 0 := by
  rcases h.lo.last _ (h.memB (Nat.zero_le _)) with e | e
  · exact e.symm
  · rcases h.hi.first (neg (A x)) (by simpa only [neg_neg'] using h.lo.mem x (Nat.le_refl _)) with e' | e'
    · have := congrArg neg e'; simpa only [neg_neg'] using this
    · rw [before_neg] at e'; rw [before_asymm e] at e'; cases e'
theorem Two.join2 (h : Two D A B x y) : B y = A 0 := by
  rcases h.lo.first _ (h.memB (Nat.le_refl _)) with e | e
  · exact e
  · rcases h.hi.last (neg (A 0)) (by simpa only [neg_neg'] using h.lo.mem 0 (Nat.zero_le _)) with e' | e'
    · have := congrArg neg e'; simpa only [neg_neg'] using this.symm
    · rw [before_neg] at e'; rw [before_asymm e] at e'; cases e'
/-- At the greatest point: a left turn, or all on one line. -/
theorem junction {a p b : Pt} (ha : before a p = true) (hb : before b p = true) (hp : ∀ q, D q → q = p ∨ before q p = true) (h1 : ∀ q, D q → 0 ≤ left a p q) (h2 : ∀ q, D q → 0 ≤ left p b q) (hD : D b) :
    0 < left a p b ∨ ∀ q, D q → turn (sub p a) (sub p q) = 0 := by
  rcases Int.lt_or_eq_of_le (h1 b hD) with h | h
  · exact .inl h
  · refine .inr fun q hq => ?_
    rcases hp q hq with rfl | hqp
    · simp only [turn, sub]; grind
    · have e1 : left a p q = - turn (sub p a) (sub p q) := left_eq' a p q
      have e2 : left p b q = turn (sub p b) (sub p q) := by simp only [left, turn, sub]; grind
      have e3 : left a p b = - turn (sub p a) (sub p b) := left_eq' a p b
      have k1 := h1 q hq
      have k2 := h2 q hq
      have k := turn_trans (u := sub p a) (v := sub p b) (w := sub p q) (before_iff.1 ha) (before_iff.1 hb) (before_iff.1 hqp) (by omega) (by omega)
      omega
theorem flat_left {u p : Pt} (hu : Lp u) (h : ∀ q, D q → turn u (sub p q) = 0) {a b c : Pt} (ha : D a) (hb : D b) (hc : D c) : left a b c = 0 := by
  have e1 : turn u (sub b a) = turn u (sub p a) - turn u (sub p b) := by simp only [turn, sub]; grind
  have e2 : turn u (sub c a) = turn u (sub p a) - turn u (sub p c) := by simp only [turn, sub]; grind
  exact turn_zero hu (by rw [e1, h a ha, h b hb]; rfl) (by rw [e2, h a ha, h c hc]; rfl)
theorem Two.not_flat (h : Two D A B x y) (hn : 2 < x + y) (hf : ∀ a b c, D a → D b → D c → left a b c = 0) : False := by
  by_cases hx : 1 < x
  · have := h.lo.turns 0 (by omega)
    rw [hf _ _ _ (h.lo.mem _ (by omega)) (h.lo.mem _ (by omega)) (h.lo.mem _ (by omega))] at this
    omega
  · have hy : 1 < y := by omega
    have := h.turnB (j := 0) (by omega)
    rw [hf _ _ _ (h.memB (by omega)) (h.memB (by omega)) (h.memB (by omega))] at this
    omega
theorem Two.turn1 (h : Two D A B x y) (hn : 2 < x + y) : 0 < left (A (x - 1)) (A x) (B 1) := by
  have x1 := h.x1
  have y1 := h.y1
  have e : x - 1 + 1 = x := by omega
  have hb : before (A (x - 1)) (A x) = true := h.lo.lt (by omega) (Nat.le_refl _)
  have hb' : before (B 1) (A x) = true := by rw [h.join1]; exact h.ltB (by omega) y1
  rcases junction (D := D) hb hb' h.lo.last (fun q hq => by have := h.lo.edge (x - 1) (by omega) q hq; rwa [e] at this) (fun q hq => by have := h.edgeB (j := 0) y1 hq; rwa [← h.join1] at this) (h.memB y1) with k | k
  · exact k
  · exact (h.not_flat hn fun a b c ha hb' hc => flat_left (before_iff.1 hb) k ha hb' hc).elim
theorem Two.turn2 (h : Two D A B x y) (hn : 2 < x + y) : 0 < left (B (y - 1)) (B y) (A 1) := by
  have x1 := h.x1
  have y1 := h.y1
  have e : y - 1 + 1 = y := by omega
  have hb : before (neg (B (y - 1))) (neg (B y)) = true := by rw [before_neg]; exact h.ltB (by omega) (Nat.le_refl _)
  have hb' : before (neg (A 1)) (neg (B y)) = true := by rw [before_neg, h.join2]; exact h.lo.lt (by omega) x1
  rcases junction (D := fun q => D (neg q)) hb hb' h.hi.last (fun q hq => by have := h.hi.edge (y - 1) (by omega) q hq; rwa [e] at this) (fun q hq => by have := h.lo.edge 0 x1 (neg q) hq; rw [← left_neg, neg_neg', ← h.join2] at this; exact this) (by simpa only [neg_neg'] using h.lo.mem 1 x1) with k | k
  · rwa [left_neg] at k
  · exact (h.not_flat hn fun a b c ha hb' hc => by
      have := flat_left (D := fun q => D (neg q)) (before_iff.1 hb) k (a := neg a) (b := neg b) (c := neg c) (by simpa only [neg_neg'] using ha) (by simpa only [neg_neg'] using hb') (by simpa only [neg_neg'] using hc)
      rwa [left_neg] at this).elim
/-- No point belongs to both chains but the ends. -/
theorem Two.apart (h : Two D A B x y) {i j : Nat} (hi : i < x) (hj : j < y) : A i ≠ B j := by
  intro e
  by_cases hi0 : i = 0
  · subst hi0
    have := h.ltB hj (Nat.le_refl _)
    rw [h.join2, ← e, before_irrefl] at this
    cases this
  by_cases hj0 : j = 0
  · subst hj0
    have := h.lo.lt hi (Nat.le_refl _)
    rw [h.join1, ← e, before_irrefl] at this
    cases this
  obtain ⟨i, rfl⟩ : ∃ k, i = k + 1 := ⟨i - 1, by omega⟩
  obtain ⟨j, rfl⟩ : ∃ k, j = k + 1 := ⟨j - 1, by omega⟩
  have u1 := h.lo.up i (by omega)
  have u2 := h.lo.up (i + 1) hi
  have w1 := h.ltB (i := j) (j := j + 1) (by omega) (by omega)
  have w2 := h.ltB (i := j + 1) (j := j + 1 + 1) (by omega) (by omega)
  have t1 := h.lo.turns i (by omega)
  have t2 := h.turnB (j := j) (by omega)
  have f1 := h.lo.edge i (by omega) _ (h.memB (j := j + 1 + 1) (by omega))
  have f2 := h.lo.edge (i + 1) hi _ (h.memB (j := j) (by omega))
  rw [show i + 1 + 1 = i + 2 by omega] at *
  rw [show j + 1 + 1 = j + 2 by omega] at *
  obtain ⟨p, hp⟩ : ∃ p, p = A (i + 1) := ⟨_, rfl⟩
  rw [← e] at w1 w2 t2
  rw [← hp] at u1 u2 w1 w2 t1 t2 f1 f2
  have k1 := turn_trans (u := sub p (B (j + 2))) (v := sub p (A i)) (w := sub (A (i + 2)) p) (before_iff.1 w2) (before_iff.1 u1) (before_iff.1 u2)
    (by rw [left_eq'] at f1; rw [turn_anti]; exact f1) (by rw [← left_eq]; omega)
  have k2 := turn_trans (u := sub p (B (j + 2))) (v := sub (A (i + 2)) p) (w := sub (B j) p) (before_iff.1 w2) (before_iff.1 u2) (before_iff.1 w1) k1 (by simp only [left] at f2; exact f2)
  have e2 : left (B j) p (B (j + 2)) = - turn (sub p (B (j + 2))) (sub (B j) p) := by simp only [left, turn, sub]; grind
  omega
end Go.Hull
end
section
set_option linter.unusedVariables false
namespace Go.Hull

variable {D : Pt → Prop} {A B V : Nat → Pt} {x y : Nat}

theorem Two.vA (h : Two D A B x y) (hA : ∀ i, i < x → V i = A i) (hB : ∀ j, j < y → V (x + j) = B j) {i : Nat} (hi : i ≤ x) : V (i % (x + y)) = A i := by
  have y1 := h.y1
  rw [Nat.mod_eq_of_lt (by omega)]
  by_cases hx : i = x
  · subst hx; rw [h.join1]; exact hB 0 y1
  · exact hA i (by omega)
theorem Two.vB (h : Two D A B x y) (hA : ∀ i, i < x → V i = A i) (hB : ∀ j, j < y → V (x + j) = B j) {j : Nat} (hj : j ≤ y) : V ((x + j) % (x + y)) = B j := by
  have x1 := h.x1
  by_cases hy : j = y
  · subst hy; rw [Nat.mod_self, h.join2]; exact hA 0 x1
  · rw [Nat.mod_eq_of_lt (by omega)]; exact hB j (by omega)
theorem Two.edges (h : Two D A B x y) (hA : ∀ i, i < x → V i = A i) (hB : ∀ j, j < y → V (x + j) = B j) {i : Nat} (hi : i < x + y) {q : Pt} (hq : D q) : 0 ≤ left (V i) (V ((i + 1) % (x + y))) q := by
  by_cases hx : i < x
  · rw [hA i hx, h.vA hA hB (by omega)]
    exact h.lo.edge i hx q hq
  · obtain ⟨j, rfl⟩ : ∃ j, i = x + j := ⟨i - x, by omega⟩
    rw [hB j (by omega), show x + j + 1 = x + (j + 1) by omega, h.vB hA hB (by omega)]
    exact h.edgeB (by omega) hq
theorem Two.turning (h : Two D A B x y) (hA : ∀ i, i < x → V i = A i) (hB : ∀ j, j < y → V (x + j) = B j) (hn : 2 < x + y) {i : Nat} (hi : i < x + y) : 0 < left (V i) (V ((i + 1) % (x + y))) (V ((i + 2) % (x + y))) := by
  have x1 := h.x1
  have y1 := h.y1
  by_cases hx : i < x
  · rw [hA i hx, h.vA hA hB (by omega)]
    by_cases hx2 : i + 1 < x
    · rw [h.vA hA hB (by omega)]
      exact h.lo.turns i hx2
    · have t := h.turn1 hn
      rw [show i + 2 = x + 1 by omega, h.vB hA hB (by omega), show i + 1 = x by omega, show i = x - 1 by omega]
      exact t
  · obtain ⟨j, rfl⟩ : ∃ j, i = x + j := ⟨i - x, by omega⟩
    rw [hB j (by omega), show x + j + 1 = x + (j + 1) by omega, h.vB hA hB (by omega)]
    by_cases hy2 : j + 1 < y
    · rw [show x + j + 2 = x + (j + 2) by omega, h.vB hA hB (by omega)]
      exact h.turnB hy2
    · have t := h.turn2 hn
      rw [show x + j + 2 = 1 + (x + y) by omega, Nat.add_mod_right, h.vA hA hB (by omega), show j + 1 = y by omega, show j = y - 1 by omega]
      exact t
theorem Two.apart' (h : Two D A B x y) (hA : ∀ i, i < x → V i = A i) (hB : ∀ j, j < y → V (x + j) = B j) {i k : Nat} (hik : i < k) (hk : k < x + y) : V i ≠ V k := by
  intro e
  by_cases hx : k < x
  · rw [hA i (by omega), hA k hx] at e
    have := h.lo.lt hik (by omega)
    rw [e, before_irrefl] at this
    cases this
  · obtain ⟨j, rfl⟩ : ∃ j, k = x + j := ⟨k - x, by omega⟩
    rw [hB j (by omega)] at e
    by_cases hx2 : i < x
    · rw [hA i hx2] at e
      exact h.apart hx2 (by omega) e
    · obtain ⟨j', rfl⟩ : ∃ j, i = x + j := ⟨i - x, by omega⟩
      rw [hB j' (by omega)] at e
      have := h.ltB (i := j') (j := j) (by omega) (by omega)
      rw [e, before_irrefl] at this
      cases this
theorem length_le_of_nodup {α : Type} [BEq α] [LawfulBEq α] : ∀ (xs ys : List α), xs.Nodup → (∀ a ∈ xs, a ∈ ys) → xs.length ≤ ys.length := by
  intro xs
  induction xs with
  | nil => intro ys _ _; simp
  | cons a xs ih =>
    intro ys hn hs
    have ha := hs a (by simp)
    have hn' := List.nodup_cons.1 hn
    have := ih (ys.erase a) hn'.2 fun b hb => (List.mem_erase_of_ne (fun e => hn'.1 (by rw [← e]; exact hb))).2 (hs b (by simp [hb]))
    rw [List.length_erase_of_mem ha] at this
    have hp := List.length_pos_of_mem ha
    simp only [List.length_cons]; omega
theorem nodup_of_getD {d : Pt} {xs : List Pt} (h : ∀ i k, i < k → k < xs.length → xs.getD i d ≠ xs.getD k d) : xs.Nodup := by
  rw [List.nodup_iff_pairwise_ne, List.pairwise_iff_getElem]
  intro i j hi hj hij
  have := h i j hij hj
  simpa [List.getD_eq_getElem?_getD, List.getElem?_eq_getElem hi, List.getElem?_eq_getElem hj] using this
end Go.Hull
end
section
set_option linter.unusedVariables false
namespace Go.Hull

section sort
variable (lt : Nat → Nat → Bool)

/-- One more, from the right; the list stands the other way round. -/
def insR (x : Nat) : List Nat → List Nat
  | [] => [x]
  | y :: r => if lt x y = true then y :: insR x r else x :: y :: r
theorem inner_insR : ∀ (r : List Nat) (x : Nat) (post : List Nat), inner lt r.length (r.reverse ++ x :: post) = (insR lt x r).reverse ++ post := by
  intro r
  induction r with
  | nil => intro x post; rfl
  | cons y r ih =>
    intro x post
    have e : (y :: r).reverse ++ x :: post = r.reverse ++ y :: x :: post := by simp
    have g1 : (r.reverse ++ y :: x :: post).getD (r.length + 1) 0 = x := by simp [List.getD_eq_getElem?_getD]
    have g0 : (r.reverse ++ y :: x :: post).getD r.length 0 = y := by simp [List.getD_eq_getElem?_getD]
    have s : ((r.reverse ++ y :: x :: post).set (r.length + 1) y).set r.length x = r.reverse ++ x :: y :: post := by
      rw [List.set_append_right _ _ (by simp), List.set_append_right _ _ (by simp)]
      simp [show r.length + 1 - r.length = 1 by omega]
    rw [e]
    simp only [List.length_cons, inner, g1, g0, insR]
    split
    · rw [s, ih]; simp
    · simp
theorem insR_length (x : Nat) : ∀ (r : List Nat), (insR lt x r).length = r.length + 1 := by
  intro r
  induction r with
  | nil => rfl
  | cons y r ih => simp only [insR]; split <;> simp [ih]
theorem outer_insR : ∀ (rest r : List Nat), outer lt rest.length r.length (r.reverse ++ rest) = (rest.foldl (fun r x => insR lt x r) r).reverse := by
  intro rest
  induction rest with
  | nil => intro r; simp [outer]
  | cons x rest ih =>
    intro r
    simp only [List.length_cons, outer, List.foldl_cons]
    rw [inner_insR, ← ih (insR lt x r), insR_length]
theorem insort_eq (a : Nat) (rest : List Nat) : insort lt (a :: rest) = (rest.foldl (fun r x => insR lt x r) [a]).reverse := by
  have := outer_insR lt rest [a]
  simpa [insort] using this
theorem insR_mem (x z : Nat) : ∀ (r : List Nat), z ∈ insR lt x r ↔ z = x ∨ z ∈ r := by
  intro r
  induction r with
  | nil => simp [insR]
  | cons y r ih =>
    simp only [insR]
    split
    · simp only [List.mem_cons, ih]
      constructor
      · rintro (h | h | h) <;> simp [h]
      · rintro (h | h | h) <;> simp [h]
    · simp only [List.mem_cons]
theorem fold_mem (z : Nat) : ∀ (rest r : List Nat), z ∈ rest.foldl (fun r x => insR lt x r) r ↔ z ∈ rest ∨ z ∈ r := by
  intro rest
  induction rest with
  | nil => intro r; simp
  | cons x rest ih =>
    intro r
    simp only [List.foldl_cons, ih, insR_mem, List.mem_cons]
    constructor
    · rintro (h | h | h) <;> simp [h]
    · rintro ((h | h) | h) <;> simp [h]
theorem insort_mem (z : Nat) (xs : List Nat) : z ∈ insort lt xs ↔ z ∈ xs := by
  cases xs with
  | nil => simp [insort, outer]
  | cons a rest => rw [insort_eq, List.mem_reverse, fold_mem]; simp only [List.mem_cons, List.not_mem_nil, or_false]; exact or_comm
variable (asym : ∀ a b, lt a b = true → lt b a = false) (ntrans : ∀ a b c, lt a b = false → lt b c = false → lt a c = false)

include asym ntrans in
theorem insR_sorted (x : Nat) : ∀ (r : List Nat), r.Pairwise (fun a b => lt a b = false) → (insR lt x r).Pairwise (fun a b => lt a b = false) := by
  intro r
  induction r with
  | nil => intro _; simp [insR]
  | cons y r ih =>
    intro h
    obtain ⟨h1, h2⟩ := List.pairwise_cons.1 h
    simp only [insR]
    split
    · rename_i hc
      refine List.pairwise_cons.2 ⟨fun z hz => ?_, ih h2⟩
      rcases (insR_mem lt x z r).1 hz with rfl | hz
      · exact asym _ _ hc
      · exact h1 z hz
    · rename_i hc
      have hc' : lt x y = false := by simpa using hc
      refine List.pairwise_cons.2 ⟨fun z hz => ?_, h⟩
      rcases List.mem_cons.1 hz with rfl | hz
      · exact hc'
      · exact ntrans _ _ _ hc' (h1 z hz)
include asym ntrans in
theorem fold_sorted : ∀ (rest r : List Nat), r.Pairwise (fun a b => lt a b = false) → (rest.foldl (fun r x => insR lt x r) r).Pairwise (fun a b => lt a b = false) := by
  intro rest
  induction rest with
  | nil => intro r h; exact h
  | cons x rest ih => intro r h; exact ih _ (insR_sorted lt asym ntrans x r h)
include asym ntrans in
theorem insort_sorted (xs : List Nat) : (insort lt xs).Pairwise (fun a b => lt b a = false) := by
  cases xs with
  | nil => simp [insort, outer]
  | cons a rest =>
    rw [insort_eq, List.pairwise_reverse]
    exact fold_sorted lt asym ntrans rest [a] (by simp)
end sort

section comp
variable (eq : Nat → Nat → Bool)

/-- The first one of each run that follows a. -/
def squash : Nat → List Nat → List Nat
  | _, [] => []
  | a, b :: r => if eq b a = true then squash b r else b :: squash b r
theorem compIn_take (k0 : Nat) : ∀ (rest : List Nat) (k2 k : Nat) (xs : List Nat) (a : Nat), 1 ≤ k0 + k2 → k < k0 + k2 → xs.drop (k0 + k2 - 1) = a :: rest →
    (compIn eq k0 rest.length k2 k xs).1.take (compIn eq k0 rest.length k2 k xs).2 = xs.take k ++ squash eq a rest := by
  intro rest
  induction rest with
  | nil => intro k2 k xs a _ _ _; simp [compIn, squash]
  | cons b rest ih =>
    intro k2 k xs a h1 hk hd
    have ga : xs[k0 + k2 - 1]? = some a := by
      have := congrArg (fun l => l[0]?) hd
      simpa using this
    have gb : xs[k0 + k2]? = some b := by
      have := congrArg (fun l => l[1]?) hd
      simp only [List.getElem?_drop, List.getElem?_cons_succ, List.getElem?_cons_zero] at this
      rwa [show k0 + k2 - 1 + 1 = k0 + k2 by omega] at this
    have hd' : xs.drop (k0 + k2) = b :: rest := by
      have := congrArg (List.drop 1) hd
      rw [List.drop_drop, show k0 + k2 - 1 + 1 = k0 + k2 by omega] at this
      simpa using this
    have hlen : k0 + k2 < xs.length := (List.getElem?_eq_some_iff.1 gb).1
    simp only [List.length_cons, compIn, List.getD_eq_getElem?_getD, ga, gb, Option.getD_some, squash]
    split
    · exact ih (k2 + 1) k xs b (by omega) (by omega) (by rw [show k0 + (k2 + 1) - 1 = k0 + k2 by omega]; exact hd')
    · have := ih (k2 + 1) (k + 1) (xs.set k b) b (by omega) (by omega) (by rw [show k0 + (k2 + 1) - 1 = k0 + k2 by omega, List.drop_set_of_lt (by omega)]; exact hd')
      rw [this, List.take_add_one, List.getElem?_set_self (by omega), List.take_set_of_le (by omega)]
      simp
theorem compOut_take : ∀ (rest : List Nat) (k : Nat) (xs : List Nat) (a : Nat), 1 ≤ k → xs.drop (k - 1) = a :: rest →
    (compOut eq rest.length k xs).1.take (compOut eq rest.length k xs).2 = xs.take k ++ squash eq a rest := by
  intro rest
  induction rest with
  | nil =>
    intro k xs a h1 hd
    have := congrArg List.length hd
    simp only [List.length_drop, List.length_cons, List.length_nil] at this
    simp only [List.length_nil, compOut, squash, List.append_nil]
    rw [List.take_of_length_le (Nat.le_refl _), List.take_of_length_le (by omega)]
  | cons b rest ih =>
    intro k xs a h1 hd
    have ga : xs[k - 1]? = some a := by
      have := congrArg (fun l => l[0]?) hd
      simpa using this
    have gb : xs[k]? = some b := by
      have := congrArg (fun l => l[1]?) hd
      simp only [List.getElem?_drop, List.getElem?_cons_succ, List.getElem?_cons_zero] at this
      rwa [show k - 1 + 1 = k by omega] at this
    have hd' : xs.drop k = b :: rest := by
      have := congrArg (List.drop 1) hd
      rw [List.drop_drop, show k - 1 + 1 = k by omega] at this
      simpa using this
    have hlen : k < xs.length := (List.getElem?_eq_some_iff.1 gb).1
    have hlr := congrArg List.length hd'
    simp only [List.length_drop, List.length_cons] at hlr
    simp only [List.length_cons, compOut, List.getD_eq_getElem?_getD, ga, gb, Option.getD_some, squash]
    split
    · have := compIn_take eq k rest 1 k xs b (by omega) (by omega) (by rw [show k + 1 - 1 = k by omega]; exact hd')
      rw [show xs.length - k - 1 = rest.length by omega, ← this]
      simp only [zeroed]
      have hle : (compIn eq k rest.length 1 k xs).2 ≤ (compIn eq k rest.length 1 k xs).1.length := by
        have h := compIn_spec eq (n := xs.foldl max 0 + 1) k rest.length 1 k xs (by omega) (by omega) (fun x hx => by
          have : ∀ (l : List Nat) (m : Nat), m ≤ l.foldl max m ∧ ∀ x ∈ l, x ≤ l.foldl max m := by
            intro l
            induction l with
            | nil => intro m; simp
            | cons y l ih => intro m; obtain ⟨i1, i2⟩ := ih (max m y); refine ⟨by simp only [List.foldl_cons]; omega, fun x hx => ?_⟩; rcases List.mem_cons.1 hx with rfl | hx; (· simp only [List.foldl_cons]; omega); exact i2 x hx
          have := (this xs 0).2 x hx; omega)
        omega
      rw [List.take_append_of_le_length (by rw [List.length_take]; omega), List.take_take, Nat.min_self]
    · have := ih (k + 1) xs b (by omega) (by rw [show k + 1 - 1 = k by omega]; exact hd')
      rw [this, List.take_add_one, gb]
      simp
theorem compact_take (a : Nat) (rest : List Nat) : (compact eq (a :: rest)).1.take (compact eq (a :: rest)).2 = a :: squash eq a rest := by
  unfold compact
  split
  · rename_i h
    simp only [List.length_cons] at h
    have : rest = [] := List.eq_nil_of_length_eq_zero (by omega)
    subst this
    simp [squash]
  · have := compOut_take eq rest 1 (a :: rest) a (Nat.le_refl _) rfl
    simpa using this
end comp

theorem rv_get (n : Nat) : ∀ (f i : Nat) (xs : List Nat), n ≤ xs.length → n ≤ i + f → ∀ k, (rv n f i xs)[k]? = if i ≤ k ∧ k < n - i then xs[n - 1 - k]? else xs[k]? := by
  intro f
  induction f with
  | zero => intro i xs hn hf k; simp only [rv]; rw [if_neg (by omega)]
  | succ f ih =>
    intro i xs hn hf k
    simp only [rv]
    split
    · rename_i hi
      have e1 : xs[n - 1 - i]? = some (xs.getD (n - 1 - i) 0) := by rw [List.getD_eq_getElem?_getD, List.getElem?_eq_getElem (by omega)]; rfl
      have e2 : xs[i]? = some (xs.getD i 0) := by rw [List.getD_eq_getElem?_getD, List.getElem?_eq_getElem (by omega)]; rfl
      have g : ∀ k, ((xs.set i (xs.getD (n - 1 - i) 0)).set (n - 1 - i) (xs.getD i 0))[k]? = if k = i then xs[n - 1 - i]? else if k = n - 1 - i then xs[i]? else xs[k]? := by
        intro k
        rw [List.getElem?_set, List.getElem?_set, e1, e2]
        simp only [List.length_set]
        by_cases h1 : n - 1 - i = k
        · rw [if_pos h1, if_pos (by omega), if_neg (by omega), if_pos (by omega)]
        · rw [if_neg h1]
          by_cases h2 : i = k
          · rw [if_pos h2, if_pos (by omega), if_pos (by omega)]
          · rw [if_neg h2, if_neg (by omega), if_neg (by omega)]
      rw [ih (i + 1) _ (by simp; omega) (by omega) k, g, g]
      by_cases c1 : i + 1 ≤ k ∧ k < n - (i + 1)
      · rw [if_pos c1, if_neg (by omega), if_neg (by omega), if_pos (by omega)]
      · rw [if_neg c1]
        by_cases c2 : k = i
        · rw [if_pos c2, if_pos (by omega), c2]
        · rw [if_neg c2]
          by_cases c3 : k = n - 1 - i
          · rw [if_pos c3, if_pos (by omega), c3, show n - 1 - (n - 1 - i) = i by omega]
          · rw [if_neg c3, if_neg (by omega)]
    · by_cases c : i ≤ k ∧ k < n - i
      · rw [if_pos c, show n - 1 - k = k by omega]
      · rw [if_neg c]
theorem rv_take {n : Nat} {xs : List Nat} (hn : n ≤ xs.length) : (rv n n 0 xs).take n = (xs.take n).reverse := by
  apply List.ext_getElem?
  intro k
  by_cases hk : k < n
  · rw [List.getElem?_take_of_lt hk, rv_get n n 0 xs hn (by omega), if_pos (by omega), List.getElem?_reverse (by rw [List.length_take]; omega), List.getElem?_take_of_lt (by rw [List.length_take]; omega), List.length_take, Nat.min_eq_left hn]
  · rw [List.getElem?_eq_none (by rw [List.length_take, rv_length]; omega), List.getElem?_eq_none (by rw [List.length_reverse, List.length_take]; omega)]
end Go.Hull
end
section
set_option linter.unusedSimpArgs false
set_option linter.unusedVariables false
set_option maxHeartbeats 2000000
namespace Go.Hull
open Go Go.Am Go.Proofs

def ixV (v : List Nat) : AV := .sv false 1 (ix v)
theorem flat_ixV (v : List Nat) (i : Nat) : flatN true (i + 3) (ixV v) = true := by
  unfold ixV
  simp only [flatN]
  induction v with
  | nil => rfl
  | cons n v ih => exact ih
theorem lt_ixV (m : Nat) (v : List Nat) : (ixV v).lt m = true := by simp only [ixV, AV.lt, ltL_ix]
end Go.Hull
end
section
namespace Go.Hull.Aw
open Go Go.Am Go.Proofs

def nm (f : Nat) : Bool := natIn f [87, 104, 114, 127, 84, 64, 99, 67, 93, 109, 116]
def tb : AV := .sv false 2 [.agg [.int .i64 0, .int .i64 0], .agg [.int .i64 4, .int .i64 0], .agg [.int .i64 2, .int .i64 1], .agg [.int .i64 4, .int .i64 4], .agg [.int .i64 0, .int .i64 4], .agg [.int .i64 2, .int .i64 0]]
def ms0 : List Memo := []
theorem ok0 : MemoOk Try.prog ms0 := memoOk_nil
theorem x_check : CallsF Try.prog 50 [tb] [] (.int .i64 0) [] := xFm_sound hm tOk ok0 20 _ _ _ _ _ (by kernel_rfl : xFm nm T ms0 1000 20 50 [tb] [] = some (.int .i64 0, []))
def ms1 : List Memo := ⟨50, [tb], .int .i64 0, []⟩ :: ms0
theorem ok1 : MemoOk Try.prog ms1 := memoOk_cons x_check ok0
theorem x_order : CallsF Try.prog 83 [tb] [] (.tup [.sl 0 0 0 6, .int .i64 0]) [.row false 0 false 1 [.int .i64 0, .int .i64 4, .int .i64 5, .int .i64 2, .int .i64 1, .int .i64 3]] := xFm_sound hm tOk ok1 20 _ _ _ _ _ (by kernel_rfl : xFm nm T ms1 1000 20 83 [tb] [] = some (.tup [.sl 0 0 0 6, .int .i64 0], [.row false 0 false 1 [.int .i64 0, .int .i64 4, .int .i64 5, .int .i64 2, .int .i64 1, .int .i64 3]]))
def ms2 : List Memo := ⟨83, [tb], .tup [.sl 0 0 0 6, .int .i64 0], [.row false 0 false 1 [.int .i64 0, .int .i64 4, .int .i64 5, .int .i64 2, .int .i64 1, .int .i64 3]]⟩ :: ms1
theorem ok2 : MemoOk Try.prog ms2 := memoOk_cons x_order ok1
theorem x_around : CallsF Try.prog 51 [tb] [] (.sl 0 0 0 4) [.row false 0 false 1 [.int .i64 0, .int .i64 1, .int .i64 3, .int .i64 4]] := xFm_sound hm tOk ok2 20 _ _ _ _ _ (by kernel_rfl : xFm nm T ms2 1000 20 51 [tb] [] = some (.sl 0 0 0 4, [.row false 0 false 1 [.int .i64 0, .int .i64 1, .int .i64 3, .int .i64 4]]))
def ms3 : List Memo := ⟨51, [tb], .sl 0 0 0 4, [.row false 0 false 1 [.int .i64 0, .int .i64 1, .int .i64 3, .int .i64 4]]⟩ :: ms2
theorem ok3 : MemoOk Try.prog ms3 := memoOk_cons x_around ok2
theorem x_hull : CallsF Try.prog 13 [tb] [] (.tup [.sl 0 0 0 4, .int .i64 0]) [.row false 0 false 1 [.int .i64 0, .int .i64 1, .int .i64 3, .int .i64 4]] := xFm_sound hm tOk ok3 20 _ _ _ _ _ (by kernel_rfl : xFm nm T ms3 1000 20 13 [tb] [] = some (.tup [.sl 0 0 0 4, .int .i64 0], [.row false 0 false 1 [.int .i64 0, .int .i64 1, .int .i64 3, .int .i64 4]]))
def ms4 : List Memo := ⟨13, [tb], .tup [.sl 0 0 0 4, .int .i64 0], [.row false 0 false 1 [.int .i64 0, .int .i64 1, .int .i64 3, .int .i64 4]]⟩ :: ms3
theorem ok4 : MemoOk Try.prog ms4 := memoOk_cons x_hull ok3
theorem x_in : CallsF Try.prog 15 [tb, .agg [.int .i64 2, .int .i64 1]] [] (.tup [.int .i64 1, .int .i64 0]) [] := xFm_sound hm tOk ok4 20 _ _ _ _ _ (by kernel_rfl : xFm nm T ms4 1000 20 15 [tb, .agg [.int .i64 2, .int .i64 1]] [] = some (.tup [.int .i64 1, .int .i64 0], []))
def ms5 : List Memo := ⟨15, [tb, .agg [.int .i64 2, .int .i64 1]], .tup [.int .i64 1, .int .i64 0], []⟩ :: ms4
theorem ok5 : MemoOk Try.prog ms5 := memoOk_cons x_in ok4
theorem x_on : CallsF Try.prog 15 [tb, .agg [.int .i64 2, .int .i64 0]] [] (.tup [.int .i64 0, .int .i64 0]) [] := xFm_sound hm tOk ok5 20 _ _ _ _ _ (by kernel_rfl : xFm nm T ms5 1000 20 15 [tb, .agg [.int .i64 2, .int .i64 0]] [] = some (.tup [.int .i64 0, .int .i64 0], []))
def ms6 : List Memo := ⟨15, [tb, .agg [.int .i64 2, .int .i64 0]], .tup [.int .i64 0, .int .i64 0], []⟩ :: ms5
theorem ok6 : MemoOk Try.prog ms6 := memoOk_cons x_on ok5
theorem x_ext : CallsF Try.prog 17 [tb, .agg [.int .i64 1, .int .i64 0]] [] (.tup [.sl 0 0 0 2, .int .i64 0]) [.row false 0 false 1 [.int .i64 1, .int .i64 3]] := xFm_sound hm tOk ok6 20 _ _ _ _ _ (by kernel_rfl : xFm nm T ms6 1000 20 17 [tb, .agg [.int .i64 1, .int .i64 0]] [] = some (.tup [.sl 0 0 0 2, .int .i64 0], [.row false 0 false 1 [.int .i64 1, .int .i64 3]]))
def ms7 : List Memo := ⟨17, [tb, .agg [.int .i64 1, .int .i64 0]], .tup [.sl 0 0 0 2, .int .i64 0], [.row false 0 false 1 [.int .i64 1, .int .i64 3]]⟩ :: ms6
theorem ok7 : MemoOk Try.prog ms7 := memoOk_cons x_ext ok6
theorem x_opp01 : CallsF Try.prog 65 [.sv false 2 [.agg [.int .i64 0, .int .i64 0], .agg [.int .i64 4, .int .i64 0], .agg [.int .i64 4, .int .i64 4], .agg [.int .i64 0, .int .i64 4]], .agg [.int .i64 0, .int .i64 0], .agg [.int .i64 4, .int .i64 0]] [] (.bool true) [] := xFm_sound hm tOk ok7 20 _ _ _ _ _ (by kernel_rfl : xFm nm T ms7 1000 20 65 [.sv false 2 [.agg [.int .i64 0, .int .i64 0], .agg [.int .i64 4, .int .i64 0], .agg [.int .i64 4, .int .i64 4], .agg [.int .i64 0, .int .i64 4]], .agg [.int .i64 0, .int .i64 0], .agg [.int .i64 4, .int .i64 0]] [] = some (.bool true, []))
def ms8 : List Memo := ⟨65, [.sv false 2 [.agg [.int .i64 0, .int .i64 0], .agg [.int .i64 4, .int .i64 0], .agg [.int .i64 4, .int .i64 4], .agg [.int .i64 0, .int .i64 4]], .agg [.int .i64 0, .int .i64 0], .agg [.int .i64 4, .int .i64 0]], .bool true, []⟩ :: ms7
theorem ok8 : MemoOk Try.prog ms8 := memoOk_cons x_opp01 ok7
theorem x_opp02 : CallsF Try.prog 65 [.sv false 2 [.agg [.int .i64 0, .int .i64 0], .agg [.int .i64 4, .int .i64 0], .agg [.int .i64 4, .int .i64 4], .agg [.int .i64 0, .int .i64 4]], .agg [.int .i64 0, .int .i64 0], .agg [.int .i64 4, .int .i64 4]] [] (.bool true) [] := xFm_sound hm tOk ok8 20 _ _ _ _ _ (by kernel_rfl : xFm nm T ms8 1000 20 65 [.sv false 2 [.agg [.int .i64 0, .int .i64 0], .agg [.int .i64 4, .int .i64 0], .agg [.int .i64 4, .int .i64 4], .agg [.int .i64 0, .int .i64 4]], .agg [.int .i64 0, .int .i64 0], .agg [.int .i64 4, .int .i64 4]] [] = some (.bool true, []))
def ms9 : List Memo := ⟨65, [.sv false 2 [.agg [.int .i64 0, .int .i64 0], .agg [.int .i64 4, .int .i64 0], .agg [.int .i64 4, .int .i64 4], .agg [.int .i64 0, .int .i64 4]], .agg [.int .i64 0, .int .i64 0], .agg [.int .i64 4, .int .i64 4]], .bool true, []⟩ :: ms8
theorem ok9 : MemoOk Try.prog ms9 := memoOk_cons x_opp02 ok8
theorem x_opp03 : CallsF Try.prog 65 [.sv false 2 [.agg [.int .i64 0, .int .i64 0], .agg [.int .i64 4, .int .i64 0], .agg [.int .i64 4, .int .i64 4], .agg [.int .i64 0, .int .i64 4]], .agg [.int .i64 0, .int .i64 0], .agg [.int .i64 0, .int .i64 4]] [] (.bool true) [] := xFm_sound hm tOk ok9 20 _ _ _ _ _ (by kernel_rfl : xFm nm T ms9 1000 20 65 [.sv false 2 [.agg [.int .i64 0, .int .i64 0], .agg [.int .i64 4, .int .i64 0], .agg [.int .i64 4, .int .i64 4], .agg [.int .i64 0, .int .i64 4]], .agg [.int .i64 0, .int .i64 0], .agg [.int .i64 0, .int .i64 4]] [] = some (.bool true, []))
def ms10 : List Memo := ⟨65, [.sv false 2 [.agg [.int .i64 0, .int .i64 0], .agg [.int .i64 4, .int .i64 0], .agg [.int .i64 4, .int .i64 4], .agg [.int .i64 0, .int .i64 4]], .agg [.int .i64 0, .int .i64 0], .agg [.int .i64 0, .int .i64 4]], .bool true, []⟩ :: ms9
theorem ok10 : MemoOk Try.prog ms10 := memoOk_cons x_opp03 ok9
theorem x_opp12 : CallsF Try.prog 65 [.sv false 2 [.agg [.int .i64 0, .int .i64 0], .agg [.int .i64 4, .int .i64 0], .agg [.int .i64 4, .int .i64 4], .agg [.int .i64 0, .int .i64 4]], .agg [.int .i64 4, .int .i64 0], .agg [.int .i64 4, .int .i64 4]] [] (.bool true) [] := xFm_sound hm tOk ok10 20 _ _ _ _ _ (by kernel_rfl : xFm nm T ms10 1000 20 65 [.sv false 2 [.agg [.int .i64 0, .int .i64 0], .agg [.int .i64 4, .int .i64 0], .agg [.int .i64 4, .int .i64 4], .agg [.int .i64 0, .int .i64 4]], .agg [.int .i64 4, .int .i64 0], .agg [.int .i64 4, .int .i64 4]] [] = some (.bool true, []))
def ms11 : List Memo := ⟨65, [.sv false 2 [.agg [.int .i64 0, .int .i64 0], .agg [.int .i64 4, .int .i64 0], .agg [.int .i64 4, .int .i64 4], .agg [.int .i64 0, .int .i64 4]], .agg [.int .i64 4, .int .i64 0], .agg [.int .i64 4, .int .i64 4]], .bool true, []⟩ :: ms10
theorem ok11 : MemoOk Try.prog ms11 := memoOk_cons x_opp12 ok10
theorem x_opp13 : CallsF Try.prog 65 [.sv false 2 [.agg [.int .i64 0, .int .i64 0], .agg [.int .i64 4, .int .i64 0], .agg [.int .i64 4, .int .i64 4], .agg [.int .i64 0, .int .i64 4]], .agg [.int .i64 4, .int .i64 0], .agg [.int .i64 0, .int .i64 4]] [] (.bool true) [] := xFm_sound hm tOk ok11 20 _ _ _ _ _ (by kernel_rfl : xFm nm T ms11 1000 20 65 [.sv false 2 [.agg [.int .i64 0, .int .i64 0], .agg [.int .i64 4, .int .i64 0], .agg [.int .i64 4, .int .i64 4], .agg [.int .i64 0, .int .i64 4]], .agg [.int .i64 4, .int .i64 0], .agg [.int .i64 0, .int .i64 4]] [] = some (.bool true, []))
def ms12 : List Memo := ⟨65, [.sv false 2 [.agg [.int .i64 0, .int .i64 0], .agg [.int .i64 4, .int .i64 0], .agg [.int .i64 4, .int .i64 4], .agg [.int .i64 0, .int .i64 4]], .agg [.int .i64 4, .int .i64 0], .agg [.int .i64 0, .int .i64 4]], .bool true, []⟩ :: ms11
theorem ok12 : MemoOk Try.prog ms12 := memoOk_cons x_opp13 ok11
theorem x_opp23 : CallsF Try.prog 65 [.sv false 2 [.agg [.int .i64 0, .int .i64 0], .agg [.int .i64 4, .int .i64 0], .agg [.int .i64 4, .int .i64 4], .agg [.int .i64 0, .int .i64 4]], .agg [.int .i64 4, .int .i64 4], .agg [.int .i64 0, .int .i64 4]] [] (.bool true) [] := xFm_sound hm tOk ok12 20 _ _ _ _ _ (by kernel_rfl : xFm nm T ms12 1000 20 65 [.sv false 2 [.agg [.int .i64 0, .int .i64 0], .agg [.int .i64 4, .int .i64 0], .agg [.int .i64 4, .int .i64 4], .agg [.int .i64 0, .int .i64 4]], .agg [.int .i64 4, .int .i64 4], .agg [.int .i64 0, .int .i64 4]] [] = some (.bool true, []))
def ms13 : List Memo := ⟨65, [.sv false 2 [.agg [.int .i64 0, .int .i64 0], .agg [.int .i64 4, .int .i64 0], .agg [.int .i64 4, .int .i64 4], .agg [.int .i64 0, .int .i64 4]], .agg [.int .i64 4, .int .i64 4], .agg [.int .i64 0, .int .i64 4]], .bool true, []⟩ :: ms12
theorem ok13 : MemoOk Try.prog ms13 := memoOk_cons x_opp23 ok12
theorem x_sorted : CallsF Try.prog 63 [.clo 94 [.rp true [.sv false 1 [.int .i64 0, .int .i64 1, .int .i64 3, .int .i64 4]]]] [] (.sl 0 0 0 4) [.row false 0 false 1 [.int .i64 0, .int .i64 1, .int .i64 3, .int .i64 4]] := xFm_sound hm tOk ok13 20 _ _ _ _ _ (by kernel_rfl : xFm nm T ms13 1000 20 63 [.clo 94 [.rp true [.sv false 1 [.int .i64 0, .int .i64 1, .int .i64 3, .int .i64 4]]]] [] = some (.sl 0 0 0 4, [.row false 0 false 1 [.int .i64 0, .int .i64 1, .int .i64 3, .int .i64 4]]))
def ms14 : List Memo := ⟨63, [.clo 94 [.rp true [.sv false 1 [.int .i64 0, .int .i64 1, .int .i64 3, .int .i64 4]]]], .sl 0 0 0 4, [.row false 0 false 1 [.int .i64 0, .int .i64 1, .int .i64 3, .int .i64 4]]⟩ :: ms13
theorem ok14 : MemoOk Try.prog ms14 := memoOk_cons x_sorted ok13
theorem x_anti : CallsF Try.prog 20 [tb] [] (.tup [.sl 0 0 0 6, .int .i64 0]) [.row false 0 false 2 [.agg [.int .i64 0, .int .i64 1], .agg [.int .i64 0, .int .i64 3], .agg [.int .i64 0, .int .i64 4], .agg [.int .i64 1, .int .i64 3], .agg [.int .i64 1, .int .i64 4], .agg [.int .i64 3, .int .i64 4]]] := xFm_sound hm tOk ok14 20 _ _ _ _ _ (by kernel_rfl : xFm nm T ms14 1000 20 20 [tb] [] = some (.tup [.sl 0 0 0 6, .int .i64 0], [.row false 0 false 2 [.agg [.int .i64 0, .int .i64 1], .agg [.int .i64 0, .int .i64 3], .agg [.int .i64 0, .int .i64 4], .agg [.int .i64 1, .int .i64 3], .agg [.int .i64 1, .int .i64 4], .agg [.int .i64 3, .int .i64 4]]]))
def ms15 : List Memo := ⟨20, [tb], .tup [.sl 0 0 0 6, .int .i64 0], [.row false 0 false 2 [.agg [.int .i64 0, .int .i64 1], .agg [.int .i64 0, .int .i64 3], .agg [.int .i64 0, .int .i64 4], .agg [.int .i64 1, .int .i64 3], .agg [.int .i64 1, .int .i64 4], .agg [.int .i64 3, .int .i64 4]]]⟩ :: ms14
theorem ok15 : MemoOk Try.prog ms15 := memoOk_cons x_anti ok14
theorem x_far : CallsF Try.prog 44 [tb] [] (.tup [.int .i64 32, .agg [.int .i64 0, .int .i64 3], .int .i64 0]) [] := xFm_sound hm tOk ok15 20 _ _ _ _ _ (by kernel_rfl : xFm nm T ms15 1000 20 44 [tb] [] = some (.tup [.int .i64 32, .agg [.int .i64 0, .int .i64 3], .int .i64 0], []))
def ms16 : List Memo := ⟨44, [tb], .tup [.int .i64 32, .agg [.int .i64 0, .int .i64 3], .int .i64 0], []⟩ :: ms15
theorem ok16 : MemoOk Try.prog ms16 := memoOk_cons x_far ok15
theorem x_sep : CallsF Try.prog 23 [.sv false 2 [.agg [.int .i64 0, .int .i64 0], .agg [.int .i64 0, .int .i64 5]], .sv false 2 [.agg [.int .i64 1, .int .i64 0]]] [] (.tup [.bool true, .agg [.int .i64 1, .int .i64 0], .int .i64 0, .int .i64 0]) [] := xFm_sound hm tOk ok16 20 _ _ _ _ _ (by kernel_rfl : xFm nm T ms16 1000 20 23 [.sv false 2 [.agg [.int .i64 0, .int .i64 0], .agg [.int .i64 0, .int .i64 5]], .sv false 2 [.agg [.int .i64 1, .int .i64 0]]] [] = some (.tup [.bool true, .agg [.int .i64 1, .int .i64 0], .int .i64 0, .int .i64 0], []))
def ms17 : List Memo := ⟨23, [.sv false 2 [.agg [.int .i64 0, .int .i64 0], .agg [.int .i64 0, .int .i64 5]], .sv false 2 [.agg [.int .i64 1, .int .i64 0]]], .tup [.bool true, .agg [.int .i64 1, .int .i64 0], .int .i64 0, .int .i64 0], []⟩ :: ms16
theorem ok17 : MemoOk Try.prog ms17 := memoOk_cons x_sep ok16
theorem x_awake : CallsF Try.prog 12 [] [] (.bool true) [] := xFm_sound hm tOk ok17 20 _ _ _ _ _ (by kernel_rfl : xFm nm T ms17 1000 20 12 [] [] = some (.bool true, []))
end Go.Hull.Aw
end
section
set_option linter.unusedSimpArgs false
set_option linter.unusedVariables false
set_option maxHeartbeats 4000000
namespace Go.Hull
open Go Go.Am Go.Proofs

def P (l : List Pt) (i : Nat) : Pt := l.getD i (0, 0)
structure HullT (l : List Pt) (v : List Nat) : Prop where
  ne : 0 < v.length
  le : v.length ≤ l.length
  mem : ∀ x ∈ v, x < l.length
  first : ∀ p ∈ l, before p (P l (v.getD 0 0)) = false
  big : 2 < v.length → ∀ i, i < v.length → ∀ p ∈ l, 0 ≤ left (P l (v.getD i 0)) (P l (v.getD ((i + 1) % v.length) 0)) p
  turns : 2 < v.length → ∀ i, i < v.length → 0 < left (P l (v.getD i 0)) (P l (v.getD ((i + 1) % v.length) 0)) (P l (v.getD ((i + 2) % v.length) 0))
  two : v.length = 2 → ∀ i, i < 2 → ∀ p ∈ l, left (P l (v.getD i 0)) (P l (v.getD ((i + 1) % v.length) 0)) p = 0
  two' : v.length = 2 → ∀ p ∈ l, before (P l (v.getD 1 0)) p = false
  one : v.length = 1 → ∀ p ∈ l, p = P l (v.getD 0 0)
theorem viewArgs1 {hl : List Blk} {x x' : AV} {T : List Nat} (h1 : viewG hl 6 x = some (x', T)) : viewArgs hl [x] = some ([x'], T) := by
  simp only [viewArgs, h1, List.append_nil]
end Go.Hull
end
section
set_option linter.unusedVariables false
namespace Go.Hull

theorem lessB_eq (l : List Pt) (a b : Nat) : lessB l a b = before (P l a) (P l b) := by
  have : ∀ x y : Bool, (x = true ↔ y = true) → x = y := by decide
  apply this
  unfold lessB P
  generalize l.getD a (0, 0) = p
  generalize l.getD b (0, 0) = q
  simp only [before, Bool.or_eq_true, Bool.and_eq_true, decide_eq_true_eq, beq_iff_eq, cmpP, cmpI]
  by_cases h1 : p.1 < q.1
  · simp [h1]
  · by_cases h2 : q.1 < p.1
    · simp [h1, h2]; omega
    · have e : p.1 = q.1 := by omega
      by_cases h3 : p.2 < q.2
      · simp [e, h3]
      · by_cases h4 : q.2 < p.2
        · simp [e, h3, h4]
        · simp [e, h3, h4]
theorem sameB_iff (l : List Pt) (a b : Nat) : sameB l a b = true ↔ P l a = P l b := by
  unfold sameB eqP P
  generalize l.getD a (0, 0) = p
  generalize l.getD b (0, 0) = q
  simp only [Bool.and_true, Bool.and_eq_true, beq_iff_eq]
  exact ⟨fun h => Prod.ext h.1 h.2, fun h => by rw [h]; exact ⟨rfl, rfl⟩⟩
theorem before_false {p q : Pt} (h : before p q = false) : q = p ∨ before q p = true := by
  rcases before_total q p with h1 | h1 | h1
  · exact .inl h1
  · exact .inr h1
  · rw [h] at h1; cases h1
theorem squash_spec (l : List Pt) : ∀ (r : List Nat) (a : Nat), (a :: r).Pairwise (fun x y => before (P l y) (P l x) = false) →
    ((a :: squash (sameB l) a r).Pairwise (fun x y => before (P l x) (P l y) = true)) ∧ (∀ x ∈ a :: r, ∃ y ∈ a :: squash (sameB l) a r, P l y = P l x) ∧ (∀ y ∈ squash (sameB l) a r, y ∈ r) := by
  intro r
  induction r with
  | nil => intro a _; exact ⟨by simp [squash], fun x hx => ⟨x, by simpa [squash] using hx, rfl⟩, fun y hy => by simp [squash] at hy⟩
  | cons b r ih =>
    intro a h
    obtain ⟨h1, h2⟩ := List.pairwise_cons.1 h
    obtain ⟨i1, i2, i3⟩ := ih b h2
    simp only [squash]
    split
    · rename_i he
      have he' : P l b = P l a := (sameB_iff l b a).1 he
      refine ⟨?_, fun x hx => ?_, fun y hy => List.mem_cons_of_mem _ (i3 y hy)⟩
      · obtain ⟨j1, j2⟩ := List.pairwise_cons.1 i1
        exact List.pairwise_cons.2 ⟨fun y hy => by rw [← he']; exact j1 y hy, j2⟩
      · rcases List.mem_cons.1 hx with rfl | hx
        · exact ⟨x, by simp, rfl⟩
        · obtain ⟨y, hy, e⟩ := i2 x hx
          rcases List.mem_cons.1 hy with rfl | hy
          · exact ⟨a, by simp, by rw [← he', e]⟩
          · exact ⟨y, by simp [hy], e⟩
    · rename_i he
      have he' : ¬ P l b = P l a := fun e => he ((sameB_iff l b a).2 e)
      have hab : before (P l a) (P l b) = true := by
        rcases before_false (h1 b (by simp)) with e | e
        · exact absurd e.symm he'
        · exact e
      refine ⟨List.pairwise_cons.2 ⟨fun y hy => ?_, i1⟩, fun x hx => ?_, fun y hy => ?_⟩
      · rcases List.mem_cons.1 hy with rfl | hy
        · exact hab
        · exact before_trans hab ((List.pairwise_cons.1 i1).1 y hy)
      · rcases List.mem_cons.1 hx with rfl | hx
        · exact ⟨x, by simp, rfl⟩
        · obtain ⟨y, hy, e⟩ := i2 x hx
          exact ⟨y, List.mem_cons_of_mem _ hy, e⟩
      · rcases List.mem_cons.1 hy with rfl | hy
        · simp
        · exact List.mem_cons_of_mem _ (i3 y hy)
structure Dist (l : List Pt) (d : List Nat) : Prop where
  inc : (d.map (P l)).Pairwise (fun p q => before p q = true)
  cover : ∀ p ∈ l, p ∈ d.map (P l)
  mem : ∀ i ∈ d, i < l.length
theorem orderI_sorted (l : List Pt) : (orderI l).Pairwise (fun x y => before (P l y) (P l x) = false) := by
  have := insort_sorted (lessB l) (fun a b h => by rw [lessB_eq] at *; exact before_asymm h) (fun a b c h1 h2 => by
    rw [lessB_eq] at *
    cases h : before (P l a) (P l c) with
    | false => rfl
    | true =>
      rcases before_false h1 with e | e
      · rw [← e, h2] at h; cases h
      · have := before_trans e h; rw [h2] at this; cases this) (List.range l.length)
  unfold orderI
  exact this.imp fun {a b} h => by rw [← lessB_eq]; exact h
theorem dist (l : List Pt) : Dist l (distI l) := by
  have hs := orderI_sorted l
  have hm : ∀ i, i ∈ orderI l ↔ i < l.length := fun i => by unfold orderI; rw [insort_mem, List.mem_range]
  have key : ∀ p ∈ l, ∃ i, i ∈ orderI l ∧ P l i = p := fun p hp => by
    obtain ⟨i, hi, e⟩ := List.getElem_of_mem hp
    exact ⟨i, (hm i).2 hi, by unfold P; rw [List.getD_eq_getElem?_getD, List.getElem?_eq_getElem hi, e]; rfl⟩
  unfold distI compI
  cases ho : orderI l with
  | nil =>
    rw [ho] at hm key
    refine ⟨by simp [compact], fun p hp => ?_, fun i hi => by simp [compact] at hi⟩
    obtain ⟨i, hi, -⟩ := key p hp
    simp at hi
  | cons a r =>
    rw [ho] at hs hm key
    rw [compact_take]
    obtain ⟨i1, i2, i3⟩ := squash_spec l r a hs
    refine ⟨List.pairwise_map.2 i1, fun p hp => ?_, fun i hi => (hm i).1 ?_⟩
    · obtain ⟨i, hi, e⟩ := key p hp
      obtain ⟨y, hy, e2⟩ := i2 i hi
      exact List.mem_map.2 ⟨y, hy, by rw [e2, e]⟩
    · rcases List.mem_cons.1 hi with rfl | hi
      · simp
      · exact List.mem_cons_of_mem _ (i3 i hi)
theorem pop_map (l : List Pt) (i : Nat) : ∀ (st : List Nat), (pop l i st).map (P l) = popP (P l i) (st.map (P l)) := by
  intro st
  induction st with
  | nil => rfl
  | cons b st ih =>
    cases st with
    | nil => rfl
    | cons a r =>
      simp only [pop, List.map_cons, popP]
      simp only [List.map_cons] at ih
      by_cases h : left (l.getD a (0, 0)) (l.getD b (0, 0)) (l.getD i (0, 0)) ≤ 0
      · rw [if_pos h, if_pos (show left (P l a) (P l b) (P l i) ≤ 0 from h), ih]
      · rw [if_neg h, if_neg (show ¬ left (P l a) (P l b) (P l i) ≤ 0 from h)]
        rfl
theorem chain_map (l : List Pt) (ord : List Nat) : (chainS l ord).map (P l) = chainP (ord.map (P l)) := by
  have : ∀ (ord st : List Nat), (ord.foldl (fun st i => i :: pop l i st) st).map (P l) = (ord.map (P l)).foldl (fun st p => p :: popP p st) (st.map (P l)) := by
    intro ord
    induction ord with
    | nil => intro st; rfl
    | cons o ord ih => intro st; simp only [List.foldl_cons, List.map_cons]; rw [ih, List.map_cons, pop_map]
  exact this ord []
theorem popP_neg (p : Pt) : ∀ (st : List Pt), (popP p st).map neg = popP (neg p) (st.map neg) := by
  intro st
  induction st with
  | nil => rfl
  | cons b st ih =>
    cases st with
    | nil => rfl
    | cons a r =>
      simp only [popP, List.map_cons, left_neg]
      simp only [List.map_cons] at ih
      split
      · rw [ih]
      · rfl
theorem chainP_neg (ps : List Pt) : (chainP ps).map neg = chainP (ps.map neg) := by
  have : ∀ (ps st : List Pt), (ps.foldl (fun st p => p :: popP p st) st).map neg = (ps.map neg).foldl (fun st p => p :: popP p st) (st.map neg) := by
    intro ps
    induction ps with
    | nil => intro st; rfl
    | cons o ps ih => intro st; simp only [List.foldl_cons, List.map_cons]; rw [ih, List.map_cons, popP_neg]
  exact this ps []
theorem revI_eq {l : List Pt} (hl : 0 < l.length) : revI l = (distI l).reverse := by
  obtain ⟨a1, a2, a3, a4⟩ := compI_spec hl
  unfold revI distI
  exact rv_take (by omega)
end Go.Hull
end
section
set_option linter.unusedVariables false
namespace Go.Hull

theorem chainS_mem {l : List Pt} {n : Nat} : ∀ (ord st : List Nat), (∀ x ∈ ord, x < n) → (∀ x ∈ st, x < n) → ∀ x ∈ ord.foldl (fun st i => i :: pop l i st) st, x < n := by
  intro ord
  induction ord with
  | nil => intro st _ h; exact h
  | cons o ord ih =>
    intro st h1 h2
    refine ih _ (fun x hx => h1 x (by simp [hx])) fun x hx => ?_
    rcases List.mem_cons.1 hx with rfl | hx
    · exact h1 _ (by simp)
    · exact pop_mem st h2 x hx
theorem getD_map_P (l : List Pt) (s : List Nat) {i : Nat} (hi : i < s.length) : (s.map (P l)).getD i (0, 0) = P l (s.getD i 0) := by
  simp [List.getD_eq_getElem?_getD, List.getElem?_eq_getElem hi]
theorem getD_rev (s : List Nat) {i : Nat} (hi : i < s.length) : s.reverse.getD i 0 = s.getD (s.length - 1 - i) 0 := by
  rw [List.getD_eq_getElem?_getD, List.getElem?_reverse hi, List.getD_eq_getElem?_getD]
theorem getD_map_neg (s : List Pt) (i : Nat) : (s.map neg).getD i (0, 0) = neg (s.getD i (0, 0)) := by
  simp only [List.getD_eq_getElem?_getD, List.getElem?_map]
  cases s[i]? <;> rfl
theorem Ch.congr {D D' : Pt → Prop} {A A' : Nat → Pt} {x x' : Nat} (h : Ch D A x) (hD : ∀ q, D' q ↔ D q) (hA : ∀ i, A' i = A i) (hx : x' = x) : Ch D' A' x' := by
  have e1 : D' = D := funext fun q => propext (hD q)
  have e2 : A' = A := funext hA
  rw [e1, e2, hx]; exact h
theorem Ch.pos {D : Pt → Prop} {A : Nat → Pt} {x : Nat} (h : Ch D A x) {p q : Pt} (hp : D p) (hq : D q) (hpq : before p q = true) : 0 < x := by
  cases x with
  | succ x => omega
  | zero =>
    have e : ∀ q, D q → q = A 0 := fun q hq => by
      rcases h.first q hq with e | e
      · exact e
      · rcases h.last q hq with e' | e'
        · exact e'
        · rw [before_asymm e] at e'; cases e'
    rw [e p hp, e q hq, before_irrefl] at hpq
    cases hpq
theorem two_of (ps : List Pt) (hne : ps ≠ []) (hp : ps.Pairwise (fun p q => before p q = true)) {p q : Pt} (h1 : p ∈ ps) (h2 : q ∈ ps) (hpq : before p q = true) :
    Two (· ∈ ps) (fun i => (chainP ps).getD ((chainP ps).length - 1 - i) (0, 0)) (fun i => (chainP ps.reverse).getD ((chainP ps.reverse).length - 1 - i) (0, 0)) ((chainP ps).length - 1) ((chainP ps.reverse).length - 1) := by
  have lo := (ready_chain hne hp).ch
  have hp' : (ps.reverse.map neg).Pairwise (fun p q => before p q = true) := by
    rw [List.pairwise_map, List.pairwise_reverse]
    exact hp.imp fun {a b} h => by rw [before_neg]; exact h
  have hi0 := (ready_chain (ps := ps.reverse.map neg) (by simpa using hne) hp').ch
  rw [← chainP_neg] at hi0
  have hi : Ch (fun q => neg q ∈ ps) (fun i => neg ((chainP ps.reverse).getD ((chainP ps.reverse).length - 1 - i) (0, 0))) ((chainP ps.reverse).length - 1) := by
    refine hi0.congr (fun q => ?_) (fun i => ?_) (by rw [List.length_map])
    · rw [List.mem_map]
      constructor
      · exact fun h => ⟨neg q, by simpa using h, neg_neg' q⟩
      · rintro ⟨a, ha, rfl⟩
        rw [neg_neg']; simpa using ha
    · rw [getD_map_neg, List.length_map]
  exact ⟨lo, hi, lo.pos h1 h2 hpq, hi.pos (p := neg q) (q := neg p) (by rw [neg_neg']; exact h2) (by rw [neg_neg']; exact h1) (by rw [before_neg]; exact hpq)⟩
theorem hullTN (l : List Pt) (hl : 0 < l.length) : HullT l (hullI l) ∧ ((hullI l).map (P l)).Nodup := by
  obtain ⟨a1, a2, a3, a4⟩ := compI_spec hl
  obtain ⟨d1, d2, d3⟩ := dist l
  have dl := distI_length hl
  by_cases h3 : (compI l).2 < 3
  · have hh : hullI l = distI l := by unfold hullI; rw [if_pos h3]
    rw [hh]
    refine ⟨?_, List.nodup_iff_pairwise_ne.2 (d1.imp fun {a b} h e => by rw [e, before_irrefl] at h; cases h)⟩
    obtain ⟨d, hd⟩ : ∃ d, d = distI l := ⟨_, rfl⟩
    rw [← hd] at d1 d2 d3 dl ⊢
    match d, d1, d2, d3, dl with
    | [], _, _, _, dl => simp at dl; omega
    | [a], d1, d2, d3, dl =>
      have e : ∀ p ∈ l, p = P l a := fun p hp => by have := d2 p hp; simpa using this
      exact ⟨by simp, by simp; omega, d3, fun p hp => by rw [e p hp]; exact before_irrefl _, fun h => by simp at h, fun h => by simp at h, fun h => by simp at h, fun h => by simp at h, fun _ => e⟩
    | [a, b], d1, d2, d3, dl =>
      have e : ∀ p ∈ l, p = P l a ∨ p = P l b := fun p hp => by have := d2 p hp; simpa using this
      have hab : before (P l a) (P l b) = true := by simpa using d1
      refine ⟨by simp, by simp at dl ⊢; omega, d3, fun p hp => ?_, fun h => by simp at h, fun h => by simp at h, fun _ i hi p hp => ?_, fun _ p hp => ?_, fun h => by simp at h⟩
      · rcases e p hp with rfl | rfl
        · exact before_irrefl _
        · exact before_asymm hab
      · match i, hi with
        | 0, _ =>
          show left (P l a) (P l b) p = 0
          rcases e p hp with rfl | rfl
          · exact left_self1 _ _
          · exact left_self2 _ _
        | 1, _ =>
          rw [show (1 + 1) % [a, b].length = 0 from by simp]
          show left (P l b) (P l a) p = 0
          rcases e p hp with rfl | rfl
          · exact left_self2 _ _
          · exact left_self1 _ _
      · show before (P l b) p = false
        rcases e p hp with rfl | rfl
        · exact before_asymm hab
        · exact before_irrefl _
    | a :: b :: c :: r, _, _, _, dl => simp at dl; omega
  · have hh : hullI l = ((chainS l (distI l)).reverse.take ((chainS l (distI l)).length - 1)) ++ ((chainS l (distI l).reverse).reverse.take ((chainS l (distI l).reverse).length - 1)) := by
      unfold hullI; rw [if_neg h3, revI_eq hl]
    obtain ⟨ps, hps⟩ : ∃ ps, ps = (distI l).map (P l) := ⟨_, rfl⟩
    obtain ⟨S, hS⟩ : ∃ S, S = chainS l (distI l) := ⟨_, rfl⟩
    obtain ⟨W, hW⟩ : ∃ W, W = chainS l (distI l).reverse := ⟨_, rfl⟩
    have hSp : S.map (P l) = chainP ps := by rw [hS, chain_map, hps]
    have hWp : W.map (P l) = chainP ps.reverse := by rw [hW, chain_map, hps, List.map_reverse]
    have hSm : ∀ x ∈ S, x < l.length := by rw [hS]; exact chainS_mem _ _ d3 (by simp)
    have hWm : ∀ x ∈ W, x < l.length := by rw [hW]; exact chainS_mem _ _ (fun x hx => d3 x (by simpa using hx)) (by simp)
    rw [← hS, ← hW] at hh
    rw [← hps] at d1 d2
    have pl : ps.length = (compI l).2 := by rw [hps, List.length_map, dl]
    have hne : ps ≠ [] := by intro e; rw [e] at pl; simp at pl; omega
    obtain ⟨p, q, hp, hq, hpq⟩ : ∃ p q, p ∈ ps ∧ q ∈ ps ∧ before p q = true := by
      match ps, pl, d1 with
      | [], pl, _ => simp at pl; omega
      | [a], pl, _ => simp at pl; omega
      | a :: b :: r, _, d1 => exact ⟨a, b, by simp, by simp, (List.pairwise_cons.1 d1).1 b (by simp)⟩
    have T := two_of ps hne d1 hp hq hpq
    rw [← hSp, ← hWp] at T
    simp only [List.length_map] at T
    obtain ⟨A, hA⟩ : ∃ A : Nat → Pt, A = fun i => (S.map (P l)).getD (S.length - 1 - i) (0, 0) := ⟨_, rfl⟩
    obtain ⟨B, hB⟩ : ∃ B : Nat → Pt, B = fun i => (W.map (P l)).getD (W.length - 1 - i) (0, 0) := ⟨_, rfl⟩
    rw [← hA, ← hB] at T
    obtain ⟨x, hx⟩ : ∃ x, x = S.length - 1 := ⟨_, rfl⟩
    obtain ⟨y, hy⟩ : ∃ y, y = W.length - 1 := ⟨_, rfl⟩
    rw [← hx, ← hy] at T hh
    have x1 := T.x1
    have y1 := T.y1
    obtain ⟨v, hv⟩ : ∃ v, v = hullI l := ⟨_, rfl⟩
    rw [← hv] at hh ⊢
    have l1 : (S.reverse.take x).length = x := by rw [List.length_take, List.length_reverse]; omega
    have l2 : (W.reverse.take y).length = y := by rw [List.length_take, List.length_reverse]; omega
    have hvl : v.length = x + y := by rw [hh, List.length_append, l1, l2]
    have vA : ∀ i, i < x → P l (v.getD i 0) = A i := fun i hi => by
      have : v.getD i 0 = S.reverse.getD i 0 := by
        rw [hh, List.getD_eq_getElem?_getD, List.getElem?_append_left (by omega), List.getElem?_take_of_lt hi, List.getD_eq_getElem?_getD]
      rw [this, getD_rev S (by omega), hA]
      exact (getD_map_P l S (by omega)).symm
    have vB : ∀ j, j < y → P l (v.getD (x + j) 0) = B j := fun j hj => by
      have : v.getD (x + j) 0 = W.reverse.getD j 0 := by
        rw [hh, List.getD_eq_getElem?_getD, List.getElem?_append_right (by omega), l1, show x + j - x = j by omega, List.getElem?_take_of_lt hj, List.getD_eq_getElem?_getD]
      rw [this, getD_rev W (by omega), hB]
      exact (getD_map_P l W (by omega)).symm
    have vm : ∀ z ∈ v, z < l.length := fun z hz => by
      rw [hh] at hz
      rcases List.mem_append.1 hz with h | h
      · exact hSm z (List.mem_reverse.1 (List.mem_of_mem_take h))
      · exact hWm z (List.mem_reverse.1 (List.mem_of_mem_take h))
    have lows : ∀ q, q ∈ ps → before q (A 0) = false := fun q hq => by
      rcases T.lo.first q hq with e | e
      · rw [e]; exact before_irrefl _
      · exact before_asymm e
    have V0 := vA 0 x1
    have n1 : (v.map (P l)).Nodup := nodup_of_getD (d := (0, 0)) fun i k hik hk => by
      rw [List.length_map] at hk
      rw [getD_map_P l v (by omega), getD_map_P l v hk]
      exact T.apart' (V := fun i => P l (v.getD i 0)) vA vB hik (by omega)
    refine ⟨⟨by omega, ?_, vm, fun p hp => by rw [V0]; exact lows p (d2 p hp), fun h i hi p hp => ?_, fun h i hi => ?_, fun h i hi p hp => ?_, fun h p hp => ?_, fun h => by omega⟩, n1⟩
    · have n2 := length_le_of_nodup (v.map (P l)) ps n1 fun a ha => by
        obtain ⟨z, hz, rfl⟩ := List.mem_map.1 ha
        have := vm z hz
        exact d2 _ (by unfold P; rw [List.getD_eq_getElem?_getD, List.getElem?_eq_getElem this]; simp)
      rw [List.length_map, pl] at n2
      omega
    · rw [hvl] at hi ⊢
      exact T.edges (V := fun i => P l (v.getD i 0)) vA vB hi (d2 p hp)
    · rw [hvl] at hi h ⊢
      exact T.turning (V := fun i => P l (v.getD i 0)) vA vB h hi
    · rw [hvl] at h
      have e0 := T.edges (V := fun i => P l (v.getD i 0)) vA vB (i := 0) (by omega) (d2 p hp)
      have e1 := T.edges (V := fun i => P l (v.getD i 0)) vA vB (i := 1) (by omega) (d2 p hp)
      rw [h] at e0 e1
      simp only [Nat.zero_add, show 1 % 2 = 1 from rfl, show (1 + 1) % 2 = 0 from rfl] at e0 e1
      rw [left_swap] at e1
      have ee : left (P l (v.getD 0 0)) (P l (v.getD 1 0)) p = 0 := by omega
      rw [hvl, h]
      match i, hi with
      | 0, _ => exact ee
      | 1, _ =>
        show left (P l (v.getD 1 0)) (P l (v.getD 0 0)) p = 0
        rw [left_swap, ee]; rfl
    · rw [hvl] at h
      have V1 := vB 0 y1
      rw [show x + 0 = 1 by omega, ← T.join1] at V1
      rw [V1]
      rcases T.lo.last p (d2 p hp) with e | e
      · rw [e]; exact before_irrefl _
      · exact before_asymm e
theorem hullT (l : List Pt) (hl : 0 < l.length) : HullT l (hullI l) := (hullTN l hl).1
end Go.Hull
end
section
set_option linter.unusedVariables false
namespace Go.Hull

def dot (u v : Pt) : Int := u.1 * v.1 + u.2 * v.2
structure HullV (l : List Pt) (v : List Nat) : Prop where
  T : HullT l v
  nd : (v.map (P l)).Nodup
  fst : ∀ i ∈ v, ∀ k, k < i → P l k ≠ P l i
theorem P_mem {l : List Pt} {i : Nat} (h : i < l.length) : P l i ∈ l := by
  unfold P; rw [List.getD_eq_getElem?_getD, List.getElem?_eq_getElem h]; simp
theorem HullT.pmem {l : List Pt} {v : List Nat} (h : HullT l v) {i : Nat} (hi : i < v.length) : P l (v.getD i 0) ∈ l := P_mem (getD_lt h.mem hi)
theorem HullV.inj {l : List Pt} {v : List Nat} (h : HullV l v) {i k : Nat} (hi : i < v.length) (hk : k < v.length) (e : P l (v.getD i 0) = P l (v.getD k 0)) : i = k := by
  have hn := h.nd
  rw [List.nodup_iff_pairwise_ne, List.pairwise_iff_getElem] at hn
  have g : ∀ (i k : Nat) (hi : i < v.length) (hk : k < v.length), i < k → P l (v.getD i 0) ≠ P l (v.getD k 0) := fun i k hi hk hik => by
    have := hn i k (by simpa using hi) (by simpa using hk) hik
    simpa [List.getD_eq_getElem?_getD, List.getElem?_eq_getElem hi, List.getElem?_eq_getElem hk] using this
  rcases Nat.lt_trichotomy i k with h1 | h1 | h1
  · exact absurd e (g i k hi hk h1)
  · exact h1
  · exact absurd e.symm (g k i hk hi h1)
theorem dot_self_pos {u : Pt} (h : u ≠ (0, 0)) : 0 < dot u u := by
  obtain ⟨a, b⟩ := u
  simp only [dot]
  have h1 : 0 ≤ a * a := by rcases Int.le_total 0 a with h | h; exact Int.mul_nonneg h h; exact Int.mul_nonneg_of_nonpos_of_nonpos h h
  have h2 : 0 ≤ b * b := by rcases Int.le_total 0 b with h | h; exact Int.mul_nonneg h h; exact Int.mul_nonneg_of_nonpos_of_nonpos h h
  by_cases ha : a = 0
  · by_cases hb : b = 0
    · exact absurd (by rw [ha, hb]) h
    · have : b * b ≠ 0 := fun e => by rcases Int.mul_eq_zero.1 e with e | e <;> exact hb e
      omega
  · have : a * a ≠ 0 := fun e => by rcases Int.mul_eq_zero.1 e with e | e <;> exact ha e
    omega
theorem left_self1' (a c : Pt) : left a a c = 0 := by simp only [left, turn, sub]; grind
theorem sub_zero {p q : Pt} : sub p q = (0, 0) → p = q := fun h => by
  simp only [sub, Prod.mk.injEq] at h
  exact Prod.ext (by omega) (by omega)
end Go.Hull
end
section
set_option linter.unusedVariables false
namespace Go.Hull

theorem HullV.two_ne {l : List Pt} {v : List Nat} (h : HullV l v) (h2 : v.length = 2) : before (P l (v.getD 0 0)) (P l (v.getD 1 0)) = true := by
  rcases before_false (h.T.first _ (h.T.pmem (i := 1) (by omega))) with e | e
  · have := h.inj (i := 0) (k := 1) (by omega) (by omega) e; omega
  · exact e
/-- Firstness: of equal points the one that stands first is kept. -/
theorem insR_stable (l : List Pt) (x : Nat) : ∀ (r : List Nat), (∀ y ∈ r, y < x) → r.Pairwise (fun a b => P l a = P l b → b < a) → (insR (lessB l) x r).Pairwise (fun a b => P l a = P l b → b < a) := by
  intro r
  induction r with
  | nil => intro _ _; simp [insR]
  | cons y r ih =>
    intro hx h
    obtain ⟨h1, h2⟩ := List.pairwise_cons.1 h
    simp only [insR]
    split
    · rename_i hc
      refine List.pairwise_cons.2 ⟨fun z hz e => ?_, ih (fun z hz => hx z (by simp [hz])) h2⟩
      rcases (insR_mem _ x z r).1 hz with rfl | hz
      · rw [lessB_eq, e, before_irrefl] at hc; cases hc
      · exact h1 z hz e
    · exact List.pairwise_cons.2 ⟨fun z hz _ => hx z hz, h⟩
theorem fold_stable (l : List Pt) : ∀ (rest r : List Nat), (∀ y ∈ r, ∀ x ∈ rest, y < x) → rest.Pairwise (· < ·) → r.Pairwise (fun a b => P l a = P l b → b < a) → (rest.foldl (fun r x => insR (lessB l) x r) r).Pairwise (fun a b => P l a = P l b → b < a) := by
  intro rest
  induction rest with
  | nil => intro r _ _ h; exact h
  | cons x rest ih =>
    intro r h1 h2 h3
    obtain ⟨p1, p2⟩ := List.pairwise_cons.1 h2
    refine ih _ (fun y hy z hz => ?_) p2 (insR_stable l x r (fun y hy => h1 y hy x (by simp)) h3)
    rcases (insR_mem _ x y r).1 hy with rfl | hy
    · exact p1 z hz
    · exact h1 y hy z (by simp [hz])
theorem orderI_stable (l : List Pt) : (orderI l).Pairwise (fun a b => P l a = P l b → a < b) := by
  unfold orderI
  cases hr : List.range l.length with
  | nil => simp [insort, outer]
  | cons a rest =>
    rw [insort_eq, List.pairwise_reverse]
    have hp : (List.range l.length).Pairwise (· < ·) := List.pairwise_lt_range
    rw [hr] at hp
    obtain ⟨p1, p2⟩ := List.pairwise_cons.1 hp
    exact (fold_stable l rest [a] (fun y hy x hx => by rw [List.mem_singleton.1 hy]; exact p1 x hx) p2 (by simp)).imp fun {a b} h e => h e.symm
theorem squash_first (l : List Pt) : ∀ (r : List Nat) (a : Nat), (a :: r).Pairwise (fun x y => before (P l y) (P l x) = false) → (a :: r).Pairwise (fun x y => P l x = P l y → x < y) →
    ∀ y ∈ a :: squash (sameB l) a r, ∀ x ∈ a :: r, P l x = P l y → y ≤ x := by
  intro r
  induction r with
  | nil =>
    intro a _ _ y hy x hx _
    simp only [squash, List.mem_singleton] at hy hx
    omega
  | cons b r ih =>
    intro a h g y hy x hx e
    obtain ⟨h1, h2⟩ := List.pairwise_cons.1 h
    obtain ⟨g1, g2⟩ := List.pairwise_cons.1 g
    have ib := ih b h2 g2
    have ha : ∀ x ∈ a :: b :: r, P l x = P l a → a ≤ x := fun x hx e => by
      rcases List.mem_cons.1 hx with rfl | hx
      · exact Nat.le_refl _
      · exact Nat.le_of_lt (g1 x hx e.symm)
    rcases List.mem_cons.1 hy with rfl | hy
    · exact ha x hx e
    · have sp := squash_spec l (b :: r) a h
      have lt := (List.pairwise_cons.1 sp.1).1 y hy
      rcases List.mem_cons.1 hx with rfl | hx
      · rw [e, before_irrefl] at lt; cases lt
      · simp only [squash] at hy
        split at hy
        · exact ib y (List.mem_cons_of_mem _ hy) x hx e
        · exact ib y hy x hx e
theorem distI_first (l : List Pt) : ∀ y ∈ distI l, ∀ k, k < y → P l k ≠ P l y := by
  have hs := orderI_sorted l
  have ht := orderI_stable l
  have hm : ∀ i, i ∈ orderI l ↔ i < l.length := fun i => by unfold orderI; rw [insort_mem, List.mem_range]
  have hd := (dist l).mem
  unfold distI compI at hd ⊢
  cases ho : orderI l with
  | nil => intro y hy; simp [compact] at hy
  | cons a r =>
    rw [ho] at hs ht hm hd
    rw [compact_take] at hd ⊢
    intro y hy k hk e
    have := squash_first l r a hs ht y hy k ((hm k).2 (by have := hd y hy; omega)) e
    omega
theorem chainS_sub {l : List Pt} {d : Nat → Prop} : ∀ (ord st : List Nat), (∀ x ∈ ord, d x) → (∀ x ∈ st, d x) → ∀ x ∈ ord.foldl (fun st i => i :: pop l i st) st, d x := by
  intro ord
  induction ord with
  | nil => intro st _ h; exact h
  | cons o ord ih =>
    intro st h1 h2
    refine ih _ (fun x hx => h1 x (by simp [hx])) fun x hx => ?_
    rcases List.mem_cons.1 hx with rfl | hx
    · exact h1 _ (by simp)
    · have : ∀ (st : List Nat), (∀ x ∈ st, d x) → ∀ x ∈ pop l o st, d x := by
        intro st
        induction st with
        | nil => intro h; exact h
        | cons b st ih =>
          intro h
          cases st with
          | nil => exact h
          | cons a r =>
            simp only [pop]
            split
            · exact ih fun x hx => h x (List.mem_cons_of_mem _ hx)
            · exact h
      exact this st h2 x hx
theorem hullI_sub {l : List Pt} (hl : 0 < l.length) : ∀ x ∈ hullI l, x ∈ distI l := by
  intro x hx
  unfold hullI at hx
  split at hx
  · exact hx
  · rw [revI_eq hl] at hx
    rcases List.mem_append.1 hx with h | h
    · exact chainS_sub _ _ (fun x hx => hx) (by simp) x (List.mem_reverse.1 (List.mem_of_mem_take h))
    · exact chainS_sub (d := (· ∈ distI l)) _ _ (fun x hx => List.mem_reverse.1 hx) (by simp) x (List.mem_reverse.1 (List.mem_of_mem_take h))
theorem hullV (l : List Pt) (hl : 0 < l.length) : HullV l (hullI l) := by
  obtain ⟨h1, h2⟩ := hullTN l hl
  exact ⟨h1, h2, fun i hi k hk => distI_first l i (hullI_sub hl i hi) k hk⟩
/-- Moved points. -/
def addP (d p : Pt) : Pt := (p.1 + d.1, p.2 + d.2)
theorem left_add (d a b c : Pt) : left (addP d a) (addP d b) (addP d c) = left a b c := by simp only [left, turn, sub, addP]; grind
theorem before_add (d a b : Pt) : before (addP d a) (addP d b) = before a b := by
  have : ∀ x y : Bool, (x = true ↔ y = true) → x = y := by decide
  apply this
  rw [before_iff, before_iff]
  simp only [Lp, sub, addP]; omega
theorem addP_inj {d a b : Pt} (h : addP d a = addP d b) : a = b := by
  simp only [addP, Prod.mk.injEq] at h
  exact Prod.ext (by omega) (by omega)
theorem P_add (d : Pt) (l : List Pt) {i : Nat} (hi : i < l.length) : P (l.map (addP d)) i = addP d (P l i) := by
  simp [P, List.getD_eq_getElem?_getD, List.getElem?_eq_getElem hi]
theorem HullV.moved {l : List Pt} {v : List Nat} (h : HullV l v) (d : Pt) : HullV (l.map (addP d)) v := by
  have T := h.T
  have e : ∀ i, i < v.length → P (l.map (addP d)) (v.getD i 0) = addP d (P l (v.getD i 0)) := fun i hi => P_add d l (getD_lt T.mem hi)
  have md : ∀ k, k % v.length < v.length := fun k => Nat.mod_lt _ T.ne
  have pm : ∀ {Q : Pt → Prop}, (∀ p ∈ l, Q (addP d p)) → ∀ p ∈ l.map (addP d), Q p := fun {Q} hq p hp => by
    obtain ⟨a, ha, rfl⟩ := List.mem_map.1 hp
    exact hq a ha
  refine ⟨⟨T.ne, by rw [List.length_map]; exact T.le, fun x hx => by rw [List.length_map]; exact T.mem x hx, pm fun p hp => ?_, fun h2 i hi => pm fun p hp => ?_, fun h2 i hi => ?_, fun h2 i hi => pm fun p hp => ?_, fun h2 => pm fun p hp => ?_, fun h1 => pm fun p hp => ?_⟩, ?_, fun i hi k hk hh => ?_⟩
  · rw [e 0 T.ne, before_add]; exact T.first p hp
  · rw [e i hi, e _ (md _), left_add]; exact T.big h2 i hi p hp
  · rw [e i hi, e _ (md _), e _ (md _), left_add]; exact T.turns h2 i hi
  · rw [e i (by omega), e _ (md _), left_add]; exact T.two h2 i hi p hp
  · rw [e 1 (by omega), before_add]; exact T.two' h2 p hp
  · rw [e 0 (by omega), T.one h1 p hp]
  · have : v.map (P (l.map (addP d))) = (v.map (P l)).map (addP d) := by
      rw [List.map_map]
      exact List.map_congr_left fun x hx => P_add d l (T.mem x hx)
    rw [this, List.nodup_iff_pairwise_ne, List.pairwise_map]
    exact (List.nodup_iff_pairwise_ne.1 h.nd).imp fun {a b} hab hh => hab (addP_inj hh)
  · have hil := T.mem i hi
    rw [P_add d l hil, P_add d l (by omega)] at hh
    exact h.fst i hi k hk (addP_inj hh)
theorem getD_range {n i : Nat} (h : i < n) : (List.range n).getD i 0 = i := by
  rw [List.getD_eq_getElem?_getD, List.getElem?_range h]; rfl
theorem HullV.alone {l : List Pt} {v : List Nat} (h : HullV l v) : HullV (v.map (P l)) (List.range v.length) := by
  have T := h.T
  have al : (v.map (P l)).length = v.length := List.length_map ..
  have e : ∀ i, i < v.length → P (v.map (P l)) ((List.range v.length).getD i 0) = P l (v.getD i 0) := fun i hi => by
    rw [getD_range hi]; exact getD_map_P l v hi
  have md : ∀ k, k % v.length < v.length := fun k => Nat.mod_lt _ T.ne
  have pm : ∀ p ∈ v.map (P l), p ∈ l := fun p hp => by
    obtain ⟨a, ha, rfl⟩ := List.mem_map.1 hp
    exact P_mem (T.mem a ha)
  have rl : (List.range v.length).length = v.length := List.length_range
  refine ⟨⟨by rw [rl]; exact T.ne, by rw [rl, al]; exact Nat.le_refl _, fun x hx => by rw [al]; exact List.mem_range.1 hx, fun p hp => ?_, fun h2 i hi p hp => ?_, fun h2 i hi => ?_, fun h2 i hi p hp => ?_, fun h2 p hp => ?_, fun h1 p hp => ?_⟩, ?_, fun i hi k hk hh => ?_⟩
  · rw [e 0 T.ne]; exact T.first p (pm p hp)
  · rw [rl] at h2 hi ⊢; rw [e i hi, e _ (md _)]; exact T.big h2 i hi p (pm p hp)
  · rw [rl] at h2 hi ⊢; rw [e i hi, e _ (md _), e _ (md _)]; exact T.turns h2 i hi
  · rw [rl] at h2 ⊢; rw [e i (by omega), e _ (md _)]; exact T.two h2 i hi p (pm p hp)
  · rw [rl] at h2; rw [e 1 (by omega)]; exact T.two' h2 p (pm p hp)
  · rw [rl] at h1; rw [e 0 (by omega)]; exact T.one h1 p (pm p hp)
  · have : (List.range v.length).map (P (v.map (P l))) = v.map (P l) := by
      refine List.ext_getElem (by simp) fun i h1 h2 => ?_
      have hi : i < v.length := by simpa using h2
      have := getD_map_P l v hi
      simp only [List.getElem_map, List.getElem_range]
      have gv : v.getD i 0 = v[i] := by rw [List.getD_eq_getElem?_getD, List.getElem?_eq_getElem hi]; rfl
      rw [gv] at this
      exact this
    rw [this]; exact h.nd
  · have hi' := List.mem_range.1 hi
    have e1 := e i hi'
    have e2 := e k (by omega)
    rw [getD_range hi'] at e1
    rw [getD_range (by omega)] at e2
    rw [e1, e2] at hh
    have := h.inj (i := k) (k := i) (by omega) hi' hh
    omega
end Go.Hull
end
section
set_option linter.unusedSimpArgs false
set_option linter.unusedVariables false
set_option maxHeartbeats 2000000
namespace Go.Hull
open Go Go.Am Go.Proofs

theorem viewG_pts {hl : List Blk} {b g i k : Nat} {nil frz : Bool} {xs : List Pt} (hb : hget hl b = .row nil g frz 2 (xs.map pt)) (h : i + k ≤ xs.length) : viewG hl 6 (.sl b g i k) = some (pts ((xs.drop i).take k), [b]) := by
  have he : ((xs.map pt).drop i).take k = ((xs.drop i).take k).map pt := by rw [List.map_take, List.map_drop]
  have h1 : optL (viewG hl 5) (((xs.drop i).take k).map pt) = some ((((xs.drop i).take k).map pt).map fun x => (x, [])) := optL_self _ fun x hx => by
    obtain ⟨n, -, rfl⟩ := List.mem_map.1 hx
    exact viewG_flat rfl 4
  have h2 : (((((xs.drop i).take k).map pt).map fun x => (x, ([] : List Nat))).all fun y => Nat.beq y.1.cells.length 2) = true := by
    rw [List.all_eq_true]
    intro y hy
    obtain ⟨x, hx, rfl⟩ := List.mem_map.1 hy
    obtain ⟨n, -, rfl⟩ := List.mem_map.1 hx
    rfl
  have hc : True ∧ i + k ≤ (xs.map pt).length := ⟨trivial, by rw [List.length_map]; exact h⟩
  unfold viewG
  simp only [flatN, AV.lt, Nat.not_lt_zero, decide_false, Bool.false_eq_true, if_false, hb]
  rw [if_pos hc]
  simp only [he, h1, h2, if_true, catT_nil]
  simp only [List.map_map, Function.comp_def, pts]
theorem clean_pts (l : List Pt) : cleanL (l.map pt) = true := by
  induction l with
  | nil => rfl
  | cons p l ih => simp only [List.map_cons, cleanL, ih, pt, AV.clean, Bool.and_self]
theorem c56' {u v : Pt} (hu : smallV u) (hv : smallV v) : CallsF Try.prog 56 [pt u, pt v] [] (.int .i64 (dot u v)) [] := by
  obtain ⟨⟨a1, a2⟩, a3, a4⟩ := hu
  obtain ⟨⟨b1, b2⟩, b3, b4⟩ := hv
  have m1 := mul_bd a1 a2 b1 b2
  have m2 := mul_bd a3 a4 b3 b4
  have e1 := wr (u.1 * v.1) (by omega) (by omega)
  have e2 := wr (u.2 * v.2) (by omega) (by omega)
  have e3 := wr (u.1 * v.1 + u.2 * v.2) (by omega) (by omega)
  refine callsF_cwx hm hf56 (by simp [cf56]) ?_
  simp only [cf56, argsAl]
  unfold pt
  refine CWx.r fun K hK => ?_
  simp (maxSteps := 4000000) only [amC, amX, dr3, dr4, AV.elem, AV.cells, AV.one, loadAV, faddrAV, binAV, storeAV, AV.putCells, AV.ref, if_true, if_false, Nat.reduceEqDiff, Nat.reduceAdd, Nat.reduceLT, Nat.reduceLeDiff, reduceCtorEq, ↓reduceIte, pickAV, lenAV, intAV, slcA, slcAV, iaddrAV, extAV, fldAV, eqCell, contAV, appendAV, maxI, minI, Option.some.injEq, catT, AV.cells, AV.elem, AV.one, List.all_cons, List.all_nil]
  refine hK _ _ _ nofun ?_
  clear hK K
  refine CWx.r fun K hK => ?_
  simp (maxSteps := 4000000) only [amC, amX, dr3, dr4, AV.elem, AV.cells, AV.one, loadAV, faddrAV, binAV, storeAV, AV.putCells, AV.ref, if_true, if_false, Nat.reduceEqDiff, Nat.reduceAdd, Nat.reduceLT, Nat.reduceLeDiff, reduceCtorEq, ↓reduceIte, pickAV, lenAV, intAV, slcA, slcAV, iaddrAV, extAV, fldAV, eqCell, contAV, appendAV, maxI, minI, Option.some.injEq, catT, AV.cells, e1, e2, e3]
  refine hK _ _ _ nofun ?_
  clear hK K
  exact CWx.ret fun al hal => finK_ext hal (finK_pure (.inr rfl) (xs := [.int .i64 (dot u v)]) (by simp [resRV, Am.get, dot]) rfl rfl)
end Go.Hull
end
