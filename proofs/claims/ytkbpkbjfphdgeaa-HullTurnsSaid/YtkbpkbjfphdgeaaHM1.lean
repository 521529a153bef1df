/- Turns in the plane: laws.
   Conditions: none. -/
import Derived.Test.YtkbpkbjfphdgeaaHW3
set_option linter.unusedVariables false
namespace Go.Hull

def Lp (u : Pt) : Prop := 0 < u.1 ∨ (u.1 = 0 ∧ 0 < u.2)

theorem before_iff {p q : Pt} : before p q = true ↔ Lp (sub q p) := by
  simp only [before, Lp, sub, Bool.or_eq_true, Bool.and_eq_true, decide_eq_true_eq, beq_iff_eq]
  omega
theorem before_irrefl (p : Pt) : before p p = false := by
  cases h : before p p with
  | false => rfl
  | true => rw [before_iff] at h; simp only [Lp, sub] at h; omega
theorem before_trans {p q r : Pt} (h1 : before p q = true) (h2 : before q r = true) : before p r = true := by
  rw [before_iff] at *; simp only [Lp, sub] at *; omega
theorem before_asymm {p q : Pt} (h1 : before p q = true) : before q p = false := by
  cases h : before q p with
  | false => rfl
  | true => have := before_trans h1 h; rw [before_irrefl] at this; cases this
theorem before_total (p q : Pt) : p = q ∨ before p q = true ∨ before q p = true := by
  simp only [before, Bool.or_eq_true, Bool.and_eq_true, decide_eq_true_eq, beq_iff_eq]
  by_cases h1 : p.1 = q.1
  · by_cases h2 : p.2 = q.2
    · exact .inl (Prod.ext h1 h2)
    · omega
  · omega

theorem turn_trans {u v w : Pt} (hu : Lp u) (hv : Lp v) (hw : Lp w) (h1 : 0 ≤ turn u v) (h2 : 0 ≤ turn v w) : 0 ≤ turn u w := by
  obtain ⟨a, b⟩ := u
  obtain ⟨c, d⟩ := v
  obtain ⟨e, f⟩ := w
  simp only [Lp, turn] at *
  have ha : 0 ≤ a := by omega
  have he : 0 ≤ e := by omega
  rcases hv with hc | ⟨hc, hd⟩
  · have e1 : c * (a * f - b * e) = a * (c * f - d * e) + e * (a * d - b * c) := by grind
    have e2 := Int.mul_nonneg ha h2
    have e3 := Int.mul_nonneg he h1
    have e4 : 0 ≤ c * (a * f - b * e) := by omega
    exact Int.nonneg_of_mul_nonneg_right e4 hc
  · subst hc
    have e0 : e = 0 := by
      rcases Int.lt_or_eq_of_le he with h | h
      · have := Int.mul_pos hd h
        simp only [Int.zero_mul] at h2
        omega
      · exact h.symm
    subst e0
    have hf : 0 < f := by omega
    have := Int.mul_nonneg ha (Int.le_of_lt hf)
    simp only [Int.mul_zero]
    omega

theorem turn_zero {u v w : Pt} (hu : Lp u) (h1 : turn u v = 0) (h2 : turn u w = 0) : turn v w = 0 := by
  obtain ⟨a, b⟩ := u
  obtain ⟨c, d⟩ := v
  obtain ⟨e, f⟩ := w
  simp only [Lp, turn] at *
  have e1 : a * (c * f - d * e) = 0 := by grind
  have e2 : b * (c * f - d * e) = 0 := by grind
  rcases Int.mul_eq_zero.1 e1 with h | h
  · rcases Int.mul_eq_zero.1 e2 with h' | h'
    · omega
    · exact h'
  · exact h

theorem turn_anti (u v : Pt) : turn u v = - turn v u := by simp only [turn]; grind
theorem left_self2 (a b : Pt) : left a b b = 0 := by simp only [left, turn, sub]; grind
theorem left_self1 (a b : Pt) : left a b a = 0 := by simp only [left, turn, sub]; grind
theorem left_swap (a b c : Pt) : left b a c = - left a b c := by simp only [left, turn, sub]; grind
theorem left_eq (a b c : Pt) : left a b c = turn (sub b a) (sub c b) := by simp only [left, turn, sub]; grind
theorem left_eq' (a b c : Pt) : left a b c = - turn (sub b a) (sub b c) := by simp only [left, turn, sub]; grind

/-- A chain: from its last point back to its first. -/
inductive Chn (D : Pt → Prop) : List Pt → Prop where
  | one (p : Pt) : Chn D [p]
  | two {a b : Pt} : before a b = true → (∀ q, D q → 0 ≤ left a b q) → Chn D [b, a]
  | more {a b c : Pt} {r : List Pt} : before b c = true → (∀ q, D q → 0 ≤ left b c q) → 0 < left a b c → Chn D (b :: a :: r) → Chn D (c :: b :: a :: r)

theorem Chn.ext {D : Pt → Prop} {p : Pt} : ∀ {r : List Pt} {a b : Pt}, Chn D (b :: a :: r) → 0 ≤ left a b p → before b p = true → Chn (fun q => D q ∨ q = p) (b :: a :: r) := by
  intro r
  induction r with
  | nil =>
    intro a b h hl hb
    cases h with
    | two h1 h2 =>
      refine .two h1 fun q hq => ?_
      rcases hq with hq | rfl
      · exact h2 q hq
      · exact hl
  | cons c r ih =>
    intro a b h hl hb
    cases h with
    | more h1 h2 h3 h4 =>
      have h4' := h4
      have hca : before c a = true := by
        cases h4 with
        | two h _ => exact h
        | more h _ _ _ => exact h
      refine .more h1 (fun q hq => ?_) h3 (ih h4' ?_ (before_trans h1 hb))
      · rcases hq with hq | rfl
        · exact h2 q hq
        · exact hl
      · have k := turn_trans (u := sub a c) (v := sub b a) (w := sub p b) (before_iff.1 hca) (before_iff.1 h1) (before_iff.1 hb) (by rw [← left_eq]; omega) (by rw [← left_eq]; exact hl)
        have e : left c a p = left c a b + turn (sub a c) (sub p b) := by simp only [left, turn, sub]; grind
        omega

def popP (p : Pt) : List Pt → List Pt
  | b :: a :: r => if left a b p ≤ 0 then popP p (a :: r) else b :: a :: r
  | st => st

theorem popP_getLast (p : Pt) : ∀ (st : List Pt), (popP p st).getLast? = st.getLast? := by
  intro st
  induction st with
  | nil => rfl
  | cons b st ih =>
    cases st with
    | nil => rfl
    | cons a r =>
      simp only [popP]
      split
      · rw [ih, List.getLast?_cons_cons]
      · rfl
theorem popP_mem (p : Pt) : ∀ (st : List Pt), ∀ x ∈ popP p st, x ∈ st := by
  intro st
  induction st with
  | nil => intro x hx; exact hx
  | cons b st ih =>
    cases st with
    | nil => intro x hx; exact hx
    | cons a r =>
      intro x hx
      simp only [popP] at hx
      split at hx
      · exact List.mem_cons_of_mem _ (ih x hx)
      · exact hx

theorem Chn.push {D : Pt → Prop} {p : Pt} (hp : ∀ q, D q → before q p = true) : ∀ {st : List Pt}, Chn D st → (∀ x ∈ st, D x) →
    (∀ t, st.getLast? = some t → ∀ q, D q → q = t ∨ before t q = true) →
    (∀ t, st.head? = some t → ∀ q, D q → q = t ∨ before t q = true → 0 ≤ left t p q) →
    Chn (fun q => D q ∨ q = p) (p :: popP p st) := by
  intro st
  induction st with
  | nil => intro h; cases h
  | cons b st ih =>
    intro h hm hlast hT
    cases st with
    | nil =>
      simp only [popP]
      refine .two (hp b (hm b (by simp))) fun q hq => ?_
      rcases hq with hq | rfl
      · exact hT b rfl q hq (hlast b rfl q hq)
      · rw [left_self2]; exact Int.le_refl _
    | cons a r =>
      have hab : before a b = true ∧ (∀ q, D q → 0 ≤ left a b q) ∧ Chn D (a :: r) := by
        cases h with
        | two h1 h2 => exact ⟨h1, h2, .one a⟩
        | more h1 h2 h3 h4 => exact ⟨h1, h2, h4⟩
      obtain ⟨h1, h2, h3⟩ := hab
      have ha := hm a (by simp)
      have hb := hm b (by simp)
      simp only [popP]
      split
      · rename_i hc
        refine ih h3 (fun x hx => hm x (List.mem_cons_of_mem _ hx)) (fun t ht => hlast t (by rw [List.getLast?_cons_cons]; exact ht)) fun t ht q hq hqt => ?_
        simp only [List.head?_cons, Option.some.injEq] at ht
        subst ht
        rcases hqt with rfl | hqt
        · rw [left_self1]; exact Int.le_refl _
        · exact turn_trans (u := sub p a) (v := sub b a) (w := sub q a) (before_iff.1 (hp a ha)) (before_iff.1 h1) (before_iff.1 hqt) (by rw [turn_anti]; simp only [left] at hc; omega) (h2 q hq)
      · rename_i hc
        refine .more (hp b hb) (fun q hq => ?_) (by omega) (h.ext (by omega) (hp b hb))
        rcases hq with hq | rfl
        · rcases before_total q b with hqb | hqb | hqb
          · exact hT b rfl q hq (.inl hqb)
          · have e1 := h2 q hq
            have k := turn_trans (u := sub b q) (v := sub b a) (w := sub p b) (before_iff.1 hqb) (before_iff.1 h1) (before_iff.1 (hp b hb)) (by rw [left_eq'] at e1; rw [turn_anti]; exact e1) (by rw [← left_eq]; omega)
            have e : left b p q = turn (sub b q) (sub p b) := by simp only [left, turn, sub]; grind
            rw [e]; exact k
          · exact hT b rfl q hq (.inr hqb)
        · rw [left_self2]; exact Int.le_refl _

theorem Chn.mono {D D' : Pt → Prop} (h : ∀ q, D' q → D q) : ∀ {st : List Pt}, Chn D st → Chn D' st := by
  intro st hc
  induction hc with
  | one p => exact .one p
  | two h1 h2 => exact .two h1 fun q hq => h2 q (h q hq)
  | more h1 h2 h3 _ ih => exact .more h1 (fun q hq => h2 q (h q hq)) h3 ih

def chainP (ps : List Pt) : List Pt := ps.foldl (fun st p => p :: popP p st) []

structure Ready (don st : List Pt) : Prop where
  chn : Chn (· ∈ don) st
  mem : ∀ x ∈ st, x ∈ don
  last : ∀ t, st.getLast? = some t → ∀ q ∈ don, q = t ∨ before t q = true
  top : ∀ t, st.head? = some t → ∀ q ∈ don, q = t ∨ before q t = true

theorem Ready.push {don st : List Pt} {p : Pt} (h : Ready don st) (hp : ∀ q ∈ don, before q p = true) : Ready (don ++ [p]) (p :: popP p st) := by
  have hne : st ≠ [] := by intro e; have := h.chn; rw [e] at this; cases this
  refine ⟨?_, ?_, ?_, ?_⟩
  · refine (Chn.push (D := (· ∈ don)) hp h.chn h.mem h.last fun t ht q hq hqt => ?_).mono fun q hq => by simpa using hq
    rcases hqt with rfl | hqt
    · rw [left_self1]; exact Int.le_refl _
    · rcases h.top t ht q hq with rfl | h2
      · rw [left_self1]; exact Int.le_refl _
      · rw [before_asymm h2] at hqt; cases hqt
  · intro x hx
    rcases List.mem_cons.1 hx with rfl | hx
    · simp
    · exact List.mem_append_left _ (h.mem x (popP_mem p st x hx))
  · intro t ht q hq
    cases hpp : popP p st with
    | nil =>
      have := popP_getLast p st
      rw [hpp] at this
      exact absurd (List.getLast?_eq_none_iff.1 this.symm) hne
    | cons y ys =>
      rw [hpp, List.getLast?_cons_cons, ← hpp, popP_getLast] at ht
      rcases List.mem_append.1 hq with hq | hq
      · exact h.last t ht q hq
      · rw [List.mem_singleton.1 hq]
        exact .inr (hp t (h.mem t (List.mem_of_getLast? ht)))
  · intro t ht q hq
    simp only [List.head?_cons, Option.some.injEq] at ht
    subst ht
    rcases List.mem_append.1 hq with hq | hq
    · exact .inr (hp q hq)
    · exact .inl (List.mem_singleton.1 hq)

theorem ready_fold : ∀ (rest don st : List Pt), Ready don st → (don ++ rest).Pairwise (fun p q => before p q = true) → Ready (don ++ rest) (rest.foldl (fun st p => p :: popP p st) st) := by
  intro rest
  induction rest with
  | nil => intro don st h _; simpa using h
  | cons p rest ih =>
    intro don st h hp
    have e : don ++ p :: rest = (don ++ [p]) ++ rest := by simp
    rw [e] at hp ⊢
    exact ih (don ++ [p]) _ (h.push fun q hq => (List.pairwise_append.1 (List.pairwise_append.1 hp).1).2.2 q hq p (by simp)) hp

theorem ready_chain {ps : List Pt} (hne : ps ≠ []) (hp : ps.Pairwise (fun p q => before p q = true)) : Ready ps (chainP ps) := by
  cases ps with
  | nil => exact absurd rfl hne
  | cons p rest =>
    refine ready_fold rest [p] [p] ⟨.one p, fun x hx => hx, fun t ht q hq => ?_, fun t ht q hq => ?_⟩ hp
    · simp only [List.getLast?_singleton, Option.some.injEq] at ht
      exact .inl (by rw [List.mem_singleton.1 hq, ht])
    · simp only [List.head?_cons, Option.some.injEq] at ht
      exact .inl (by rw [List.mem_singleton.1 hq, ht])
end Go.Hull
