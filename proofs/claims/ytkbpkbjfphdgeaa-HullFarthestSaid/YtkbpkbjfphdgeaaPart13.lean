/- In the hull: what lies on the inner sides of all sides is in a triangle of vertices; laws.
   Conditions: none. -/
import Derived.Test.YtkbpkbjfphdgeaaPart12
section
set_option linter.unusedVariables false
namespace Go.Hull

theorem col_mid {a b c : Pt} (h : left a b c = 0) (ab : a ≠ b) (bc : b ≠ c) (ac : a ≠ c) : betw a b c = true ∨ betw b a c = true ∨ betw c a b = true := by
  have key : ∀ x m y : Pt, left x y m = 0 → before x m = true → before m y = true → betw m x y = true ∧ betw m y x = true := fun x m y h h1 h2 => by
    have := seg_dot h (before_asymm h1) (before_asymm h2)
    simp only [betw, Bool.and_eq_true, decide_eq_true_eq]
    refine ⟨⟨h, this⟩, ?_, ?_⟩
    · have e : left y x m = - left x y m := by simp only [left, turn, sub]; grind
      rw [e, h]; rfl
    · have e : dot (sub y m) (sub x m) = dot (sub x m) (sub y m) := by simp only [dot, sub]; grind
      rw [e]; exact this
  have p1 : left b c a = 0 := by rw [← h]; simp only [left, turn, sub]; grind
  have p2 : left a c b = 0 := by have : left a c b = - left a b c := by simp only [left, turn, sub]; grind
                                 rw [this, h]; rfl
  have p3 : left c b a = 0 := by have : left c b a = - left a b c := by simp only [left, turn, sub]; grind
                                 rw [this, h]; rfl
  have p4 : left c a b = 0 := by rw [← h]; simp only [left, turn, sub]; grind
  have p5 : left b a c = 0 := by have : left b a c = - left a b c := by simp only [left, turn, sub]; grind
                                 rw [this, h]; rfl
  rcases (before_total a b).resolve_left ab with h1 | h1 <;> rcases (before_total b c).resolve_left bc with h2 | h2 <;> rcases (before_total a c).resolve_left ac with h3 | h3
  · exact .inr (.inl (key a b c p2 h1 h2).1)
  · exact .inr (.inl (key a b c p2 h1 h2).1)
  · exact .inr (.inr (key a c b h h3 h2).1)
  · exact .inl (key c a b p3 h3 h1).2
  · exact .inl (key b a c p1 h1 h3).1
  · exact .inr (.inr (key b c a p5 h2 h3).2)
  · exact .inr (.inl (key c b a p4 h2 h1).2)
  · exact .inr (.inl (key c b a p4 h2 h1).2)
section
variable {l : List Pt} {v : List Nat}
theorem vx_inj (V : HullV l v) {i k : Nat} (hi : i < v.length) (hk : k < v.length) (h : vx l v i = vx l v k) : i = k := by
  rw [vx_lt hi, vx_lt hk] at h
  exact V.inj hi hk h
theorem vx_add (i : Nat) : vx l v (i + v.length) = vx l v i := by unfold vx; rw [Nat.add_mod_right]
theorem extreme_at (V : HullV l v) (hn : 2 < v.length) (i : Nat) : ∃ A B C, aff A B C (vx l v i) = 0 ∧ ∀ q ∈ l, q ≠ vx l v i → 0 < aff A B C q := by
  have := extreme_big V.T hn (i + v.length - 1)
  rw [show i + v.length - 1 + 1 = i + v.length by omega, vx_add] at this
  exact this
/-- No vertex lies between two other points. -/
theorem not_betw (V : HullV l v) (hn : 2 < v.length) (i : Nat) {a b : Pt} (ha : a ∈ l) (hb : b ∈ l) (na : a ≠ vx l v i) (nb : b ≠ vx l v i) : ¬ betw (vx l v i) a b = true := fun h => by
  obtain ⟨A, B, C, h0, h1⟩ := extreme_at V hn i
  have := InP.pos (D := fun q => q = a ∨ q = b) (.inr (.inl ⟨a, b, .inl rfl, .inr rfl, h⟩)) (A := A) (B := B) (C := C) fun q hq => by
    rcases hq with rfl | rfl
    · exact h1 _ ha na
    · exact h1 _ hb nb
  omega
theorem fan_pos (V : HullV l v) (hn : 2 < v.length) {i : Nat} (hi : 1 ≤ i) (hi2 : i + 1 < v.length) : 0 < left (vx l v 0) (vx l v i) (vx l v (i + 1)) := by
  have e : left (vx l v 0) (vx l v i) (vx l v (i + 1)) = left (vx l v i) (vx l v (i + 1)) (vx l v 0) := by simp only [left, turn, sub]; grind
  have g := vx_big V.T hn i (vx_mem V.T 0)
  rcases Int.lt_or_eq_of_le g with h | h
  · omega
  · have n01 : vx l v 0 ≠ vx l v i := fun h => by have := vx_inj V (by omega) (by omega) h; omega
    have n02 : vx l v 0 ≠ vx l v (i + 1) := fun h => by have := vx_inj V (by omega) (by omega) h; omega
    have n12 : vx l v i ≠ vx l v (i + 1) := fun h => by have := vx_inj V (by omega) (by omega) h; omega
    have m0 := vx_mem V.T 0
    have m1 := vx_mem V.T i
    have m2 := vx_mem V.T (i + 1)
    rcases col_mid (a := vx l v 0) (b := vx l v i) (c := vx l v (i + 1)) (by rw [e, ← h]) n01 n12 n02 with h | h | h
    · exact absurd h (not_betw V hn 0 m1 m2 (Ne.symm n01) (Ne.symm n02))
    · exact absurd h (not_betw V hn i m0 m2 n01 (Ne.symm n12))
    · exact absurd h (not_betw V hn (i + 1) m0 m1 n02 n12)
/-- On the inner side of all sides. -/
def inH (l : List Pt) (v : List Nat) (p : Pt) : Prop :=
  if v.length ≤ 2 then left (vx l v 0) (vx l v (v.length - 1)) p = 0 ∧ dot (sub (vx l v 0) p) (sub (vx l v (v.length - 1)) p) ≤ 0
  else ∀ i, i < v.length → 0 ≤ left (vx l v i) (vx l v (i + 1)) p
/-- The vertices' points. -/
def isV (l : List Pt) (v : List Nat) (q : Pt) : Prop := ∃ i, i < v.length ∧ q = vx l v i
theorem lagr (w x y : Pt) : dot w w * dot x y = dot w x * dot w y + turn w x * turn w y := by simp only [dot, turn]; grind
theorem inH_of_in (V : HullV l v) {p : Pt} (h : InP (· ∈ l) p) : inH l v p := by
  have T := V.T
  have ne := T.ne
  unfold inH
  split
  · rename_i h2
    by_cases h1 : v.length = 1
    · have one : ∀ q ∈ l, q = vx l v 0 := fun q hq => by rw [vx_lt ne]; exact T.one h1 q hq
      have e0 : vx l v (v.length - 1) = vx l v 0 := by rw [h1]
      rw [e0]
      have a1 := h.aff (A := 1) (B := 0) (C := -(vx l v 0).1) fun q hq => by rw [one q hq]; simp only [aff]; omega
      have a2 := h.aff (A := -1) (B := 0) (C := (vx l v 0).1) fun q hq => by rw [one q hq]; simp only [aff]; omega
      have a3 := h.aff (A := 0) (B := 1) (C := -(vx l v 0).2) fun q hq => by rw [one q hq]; simp only [aff]; omega
      have a4 := h.aff (A := 0) (B := -1) (C := (vx l v 0).2) fun q hq => by rw [one q hq]; simp only [aff]; omega
      simp only [aff] at a1 a2 a3 a4
      have e : p = vx l v 0 := Prod.ext (by omega) (by omega)
      rw [← e]
      exact ⟨left_self1' p p, by simp [dot, sub]⟩
    · have h22 : v.length = 2 := by omega
      rw [h22]
      obtain ⟨a, ha⟩ : ∃ a, a = vx l v 0 := ⟨_, rfl⟩
      obtain ⟨b, hb⟩ : ∃ b, b = vx l v (2 - 1) := ⟨_, rfl⟩
      rw [← ha, ← hb]
      have fl : ∀ q ∈ l, left a b q = 0 := fun q hq => by
        have := T.two h22 0 (by omega) q hq
        rw [h22] at this
        rw [ha, hb, vx_lt (by omega), vx_lt (by omega)]
        exact this
      have b0 : ∀ q ∈ l, before q a = false := fun q hq => by rw [ha, vx_lt (by omega)]; exact T.first q hq
      have b1 : ∀ q ∈ l, before b q = false := fun q hq => by rw [hb, vx_lt (by omega)]; exact T.two' h22 q hq
      have hab : Lp (sub b a) := by
        have := V.two_ne h22
        rw [ha, hb, vx_lt (by omega), vx_lt (by omega)]
        exact before_iff.1 this
      have z1 : 0 ≤ left a b p := by rw [left_aff]; exact h.aff fun q hq => by rw [← left_aff, fl q hq]; exact Int.le_refl _
      have z2 : 0 ≤ - left a b p := by rw [left_aff, aff_neg]; exact h.aff fun q hq => by rw [← aff_neg, ← left_aff, fl q hq]; decide
      have z : left a b p = 0 := by omega
      refine ⟨z, ?_⟩
      obtain ⟨w, hw⟩ : ∃ w, w = sub b a := ⟨_, rfl⟩
      rw [← hw] at hab
      have d1 : 0 ≤ dot w (sub p a) := by
        have e : ∀ q, dot w (sub q a) = aff w.1 w.2 (-(w.1 * a.1) - w.2 * a.2) q := fun q => by simp only [dot, sub, aff]; grind
        rw [e]
        refine h.aff fun q hq => ?_
        rw [← e]
        rcases before_false (b0 q hq) with h | h
        · rw [← h]; simp [dot, sub]
        · refine lp_dot hab (before_iff.1 h) ?_
          rw [hw]; exact fl q hq
      have d2 : 0 ≤ dot w (sub b p) := by
        have e : ∀ q, dot w (sub b q) = aff (-w.1) (-w.2) (w.1 * b.1 + w.2 * b.2) q := fun q => by simp only [dot, sub, aff]; grind
        rw [e]
        refine h.aff fun q hq => ?_
        rw [← e]
        rcases before_false (b1 q hq) with h | h
        · rw [← h]; simp [dot, sub]
        · refine lp_dot hab (before_iff.1 h) ?_
          have : turn (sub b a) (sub b q) = - left a b q := by simp only [left, turn, sub]; grind
          rw [hw, this, fl q hq]; rfl
      have hpos : 0 < dot w w := dot_self_pos fun e => by rw [e] at hab; simp [Lp] at hab
      have t1 : turn w (sub p a) = 0 := by rw [hw]; exact z
      have e := lagr w (sub p a) (sub b p)
      rw [t1] at e
      have k := Int.mul_nonneg d1 d2
      have k2 : 0 ≤ dot (sub p a) (sub b p) := Int.nonneg_of_mul_nonneg_right (by rw [e]; omega) hpos
      have : dot (sub a p) (sub b p) = - dot (sub p a) (sub b p) := by simp only [dot, sub]; grind
      omega
  · rename_i h2
    intro i hi
    rw [left_aff]
    exact h.aff fun q hq => by rw [← left_aff]; exact vx_big T (by omega) i hq
theorem in_of_inH (V : HullV l v) {p : Pt} (h : inH l v p) : InP (isV l v) p := by
  have T := V.T
  have ne := T.ne
  unfold inH at h
  split at h
  · rename_i h2
    exact .inr (.inl ⟨vx l v 0, vx l v (v.length - 1), ⟨0, ne, rfl⟩, ⟨v.length - 1, by omega, rfl⟩, by simp only [betw, Bool.and_eq_true, decide_eq_true_eq]; exact h⟩)
  · rename_i h2
    have hn : 2 < v.length := by omega
    have ex : ∃ i, 1 ≤ i ∧ i + 1 < v.length ∧ 0 ≤ left (vx l v 0) (vx l v i) p ∧ left (vx l v 0) (vx l v (i + 1)) p ≤ 0 := by
      refine Classical.byContradiction fun hno => ?_
      have step : ∀ k, 1 ≤ k → k < v.length → 0 ≤ left (vx l v 0) (vx l v k) p := by
        intro k
        induction k with
        | zero => intro h; omega
        | succ k ih =>
          intro _ hk
          by_cases h0 : k = 0
          · subst h0; exact h 0 ne
          · have hk' := ih (by omega) (by omega)
            refine Int.not_lt.1 fun hlt => hno ⟨k, by omega, hk, hk', by omega⟩
      have last := h (v.length - 1) (by omega)
      rw [show v.length - 1 + 1 = 0 + v.length by omega, vx_add] at last
      have e : left (vx l v (v.length - 1)) (vx l v 0) p = - left (vx l v 0) (vx l v (v.length - 1)) p := by simp only [left, turn, sub]; grind
      have := step (v.length - 2) (by omega) (by omega)
      exact hno ⟨v.length - 2, by omega, by omega, this, by rw [show v.length - 2 + 1 = v.length - 1 by omega]; omega⟩
    obtain ⟨i, h1, h2, h3, h4⟩ := ex
    refine .inr (.inr ⟨vx l v 0, vx l v i, vx l v (i + 1), ⟨0, ne, rfl⟩, ⟨i, by omega, rfl⟩, ⟨i + 1, h2, rfl⟩, ?_⟩)
    have f := fan_pos V hn h1 h2
    have s := h i (by omega)
    have e : left (vx l v (i + 1)) (vx l v 0) p = - left (vx l v 0) (vx l v (i + 1)) p := by simp only [left, turn, sub]; grind
    simp only [inTri, Bool.and_eq_true, Bool.or_eq_true, decide_eq_true_eq]
    exact ⟨by omega, .inl ⟨h3, s, by omega⟩⟩
theorem isV_mem (V : HullV l v) {q : Pt} (h : isV l v q) : q ∈ l := by
  obtain ⟨i, hi, rfl⟩ := h
  exact vx_mem V.T i
theorem in_iff (V : HullV l v) (p : Pt) : InP (· ∈ l) p ↔ inH l v p := ⟨inH_of_in V, fun h => (in_of_inH V h).mono fun q hq => isV_mem V hq⟩
/-- A vertex isn't in the hull of the other points. -/
theorem vertex_out (V : HullV l v) {i : Nat} (hi : i < v.length) : ¬ InP (fun q => q ∈ l ∧ q ≠ vx l v i) (vx l v i) := fun h => by
  have T := V.T
  by_cases hn : 2 < v.length
  · obtain ⟨A, B, C, h0, h1⟩ := extreme_at V hn i
    have := h.pos (A := A) (B := B) (C := C) fun q hq => h1 q hq.1 hq.2
    omega
  · by_cases h1 : v.length = 1
    · have one : ∀ q ∈ l, q = vx l v i := fun q hq => by
        rw [vx_lt hi, show i = 0 by omega]; exact T.one h1 q hq
      have := h.pos (A := 0) (B := 0) (C := -1) fun q hq => absurd (one q hq.1) hq.2
      simp [aff] at this
    · have h22 : v.length = 2 := by have := T.ne; omega
      obtain ⟨a, ha⟩ : ∃ a, a = vx l v 0 := ⟨_, rfl⟩
      obtain ⟨b, hb⟩ : ∃ b, b = vx l v 1 := ⟨_, rfl⟩
      have fl : ∀ q ∈ l, left a b q = 0 := fun q hq => by
        have := T.two h22 0 (by omega) q hq
        rw [h22] at this
        rw [ha, hb, vx_lt (by omega), vx_lt (by omega)]
        exact this
      have b0 : ∀ q ∈ l, before q a = false := fun q hq => by rw [ha, vx_lt (by omega)]; exact T.first q hq
      have b1 : ∀ q ∈ l, before b q = false := fun q hq => by rw [hb, vx_lt (by omega)]; exact T.two' h22 q hq
      have hab : Lp (sub b a) := by
        have := V.two_ne h22
        rw [ha, hb, vx_lt (by omega), vx_lt (by omega)]
        exact before_iff.1 this
      obtain ⟨w, hw⟩ : ∃ w, w = sub b a := ⟨_, rfl⟩
      rw [← hw] at hab
      have hpos : 0 < dot w w := dot_self_pos fun e => by rw [e] at hab; simp [Lp] at hab
      have zero : ∀ x : Pt, turn w x = 0 → dot w x = 0 → x = (0, 0) := fun x t d => by
        have e := lagr w x x
        rw [t, d] at e
        refine Classical.byContradiction fun hx => ?_
        have := Int.mul_pos hpos (dot_self_pos hx)
        omega
      by_cases hi0 : i = 0
      · subst hi0
        rw [← ha] at h
        have e : ∀ q, dot w (sub q a) = aff w.1 w.2 (-(w.1 * a.1) - w.2 * a.2) q := fun q => by simp only [dot, sub, aff]; grind
        have := h.pos (A := w.1) (B := w.2) (C := -(w.1 * a.1) - w.2 * a.2) fun q hq => by
          rw [← e]
          have g : 0 ≤ dot w (sub q a) := by
            rcases before_false (b0 q hq.1) with h | h
            · rw [← h]; simp [dot, sub]
            · refine lp_dot hab (before_iff.1 h) ?_
              rw [hw]; exact fl q hq.1
          rcases Int.lt_or_eq_of_le g with h | h
          · exact h
          · have z := zero (sub q a) (by rw [hw]; exact fl q hq.1) h.symm
            simp only [sub, Prod.mk.injEq] at z
            exact absurd (Prod.ext (by omega) (by omega)) hq.2
        rw [← e] at this
        simp [dot, sub] at this
      · obtain rfl : i = 1 := by omega
        rw [← hb] at h
        have e : ∀ q, dot w (sub b q) = aff (-w.1) (-w.2) (w.1 * b.1 + w.2 * b.2) q := fun q => by simp only [dot, sub, aff]; grind
        have := h.pos (A := -w.1) (B := -w.2) (C := w.1 * b.1 + w.2 * b.2) fun q hq => by
          rw [← e]
          have ft : turn w (sub b q) = 0 := by
            have : turn (sub b a) (sub b q) = - left a b q := by simp only [left, turn, sub]; grind
            rw [hw, this, fl q hq.1]; rfl
          have g : 0 ≤ dot w (sub b q) := by
            rcases before_false (b1 q hq.1) with h | h
            · rw [← h]; simp [dot, sub]
            · exact lp_dot hab (before_iff.1 h) ft
          rcases Int.lt_or_eq_of_le g with h | h
          · exact h
          · have z := zero (sub b q) ft h.symm
            simp only [sub, Prod.mk.injEq] at z
            exact absurd (Prod.ext (by omega) (by omega)) hq.2
        rw [← e] at this
        simp [dot, sub] at this
end
end Go.Hull
end
section
set_option linter.unusedSimpArgs false
set_option linter.unusedVariables false
set_option maxHeartbeats 8000000
set_option maxRecDepth 100000
namespace Go.Hull
open Go Go.Am Go.Proofs

def inB (l : List Pt) (p : Pt) : Bool := (List.range l.length).any fun i => decide (P l i = p) || (List.range i).any fun j => betw p (P l i) (P l j) || (List.range j).any fun k => inTri p (P l i) (P l j) (P l k)
theorem inB_iff (l : List Pt) (p : Pt) : inB l p = true ↔ ∃ i, i < l.length ∧ (P l i = p ∨ ∃ j, j < i ∧ (betw p (P l i) (P l j) = true ∨ ∃ k, k < j ∧ inTri p (P l i) (P l j) (P l k) = true)) := by
  simp only [inB, List.any_eq_true, List.mem_range, Bool.or_eq_true, decide_eq_true_eq]
/-- The points that aren't this one. -/
def othI (l : List Pt) (i k : Nat) : List Pt := (l.take k).filter fun q => decide (q ≠ P l i)
/-- Is the point a vertex? -/
def vertexB (l : List Pt) (i : Nat) : Bool := decide (∀ k, k < i → P l k ≠ P l i) && !inB (othI l i l.length) (P l i)
end Go.Hull
end
section
set_option linter.unusedVariables false
namespace Go.Hull

theorem left_rot (a b c : Pt) : left b c a = left a b c := by simp only [left, turn, sub]; grind
theorem inTri_rot (p a b c : Pt) : inTri p b c a = inTri p a b c := by
  rw [Bool.eq_iff_iff]
  have := left_rot a b c
  simp only [inTri, Bool.and_eq_true, Bool.or_eq_true, decide_eq_true_eq, ne_eq]; omega
theorem inTri_sw (p a b c : Pt) : inTri p b a c = inTri p a b c := by
  rw [Bool.eq_iff_iff]
  have e0 : left b a c = - left a b c := left_swap a b c
  have e1 : left b a p = - left a b p := left_swap a b p
  have e2 : left a c p = - left c a p := left_swap c a p
  have e3 : left c b p = - left b c p := left_swap b c p
  simp only [inTri, Bool.and_eq_true, Bool.or_eq_true, decide_eq_true_eq, ne_eq]; omega
theorem betw_sw (p a b : Pt) : betw p b a = betw p a b := by
  rw [Bool.eq_iff_iff]
  have e0 : left b a p = - left a b p := left_swap a b p
  have e1 : dot (sub b p) (sub a p) = dot (sub a p) (sub b p) := by simp only [dot, sub]; grind
  simp only [betw, Bool.and_eq_true, decide_eq_true_eq]; omega
theorem betw_same {p a : Pt} (h : betw p a a = true) : p = a := by
  simp only [betw, Bool.and_eq_true, decide_eq_true_eq] at h
  refine Classical.byContradiction fun hne => ?_
  have := dot_self_pos (u := sub a p) fun e => hne (sub_zero e).symm
  omega
theorem inTri_ne {p a b c : Pt} (h : inTri p a b c = true) : a ≠ b ∧ b ≠ c ∧ a ≠ c := by
  simp only [inTri, Bool.and_eq_true, decide_eq_true_eq, ne_eq] at h
  refine ⟨fun e => h.1 ?_, fun e => h.1 ?_, fun e => h.1 ?_⟩
  · rw [e, left_self1']
  · rw [e, left_self2]
  · rw [e, left_self1]
theorem mem_P {l : List Pt} {q : Pt} (h : q ∈ l) : ∃ i, i < l.length ∧ P l i = q := by
  obtain ⟨i, hi, e⟩ := List.getElem_of_mem h
  exact ⟨i, hi, by unfold P; rw [List.getD_eq_getElem?_getD, List.getElem?_eq_getElem hi]; exact e⟩
theorem inB_in (l : List Pt) (p : Pt) : inB l p = true ↔ InP (· ∈ l) p := by
  rw [inB_iff]
  constructor
  · rintro ⟨i, hi, h | ⟨j, hj, h | ⟨k, hk, h⟩⟩⟩
    · exact .inl (by rw [← h]; exact P_mem hi)
    · exact .inr (.inl ⟨_, _, P_mem hi, P_mem (by omega), h⟩)
    · exact .inr (.inr ⟨_, _, _, P_mem hi, P_mem (by omega), P_mem (by omega), h⟩)
  · have tri : ∀ i j k, i < l.length → j < i → k < j → inTri p (P l i) (P l j) (P l k) = true → ∃ i, i < l.length ∧ (P l i = p ∨ ∃ j, j < i ∧ (betw p (P l i) (P l j) = true ∨ ∃ k, k < j ∧ inTri p (P l i) (P l j) (P l k) = true)) := fun i j k hi hj hk h => ⟨i, hi, .inr ⟨j, hj, .inr ⟨k, hk, h⟩⟩⟩
    rintro (h | ⟨a, b, ha, hb, h⟩ | ⟨a, b, c, ha, hb, hc, h⟩)
    · obtain ⟨i, hi, e⟩ := mem_P h
      exact ⟨i, hi, .inl e⟩
    · obtain ⟨i, hi, rfl⟩ := mem_P ha
      obtain ⟨j, hj, rfl⟩ := mem_P hb
      rcases Nat.lt_trichotomy i j with hij | hij | hij
      · exact ⟨j, hj, .inr ⟨i, hij, .inl (by rw [betw_sw]; exact h)⟩⟩
      · subst hij; exact ⟨i, hi, .inl (betw_same h).symm⟩
      · exact ⟨i, hi, .inr ⟨j, hij, .inl h⟩⟩
    · obtain ⟨i, hi, rfl⟩ := mem_P ha
      obtain ⟨j, hj, rfl⟩ := mem_P hb
      obtain ⟨k, hk, rfl⟩ := mem_P hc
      obtain ⟨n1, n2, n3⟩ := inTri_ne h
      have e1 : i ≠ j := fun e => n1 (by rw [e])
      have e2 : j ≠ k := fun e => n2 (by rw [e])
      have e3 : i ≠ k := fun e => n3 (by rw [e])
      rcases Nat.lt_or_gt_of_ne e1 with h1 | h1 <;> rcases Nat.lt_or_gt_of_ne e2 with h2 | h2 <;> rcases Nat.lt_or_gt_of_ne e3 with h3 | h3
      · exact tri k j i hk h2 h1 (by rw [inTri_sw, inTri_rot]; exact h)
      · omega
      · exact tri j k i hj h2 h3 (by rw [inTri_rot]; exact h)
      · exact tri j i k hj h1 h3 (by rw [inTri_sw]; exact h)
      · exact tri k i j hk h3 h1 (by rw [inTri_rot, inTri_rot]; exact h)
      · exact tri i k j hi h3 h2 (by rw [inTri_sw, inTri_rot, inTri_rot]; exact h)
      · omega
      · exact tri i j k hi h1 h2 h
theorem othI_mem (l : List Pt) (i : Nat) (q : Pt) : q ∈ othI l i l.length ↔ q ∈ l ∧ q ≠ P l i := by
  unfold othI
  rw [List.take_of_length_le (Nat.le_refl _), List.mem_filter]; simp
theorem nd_of_map {α β : Type} {f : α → β} {v : List α} (h : (v.map f).Nodup) : v.Nodup := by
  rw [List.nodup_iff_pairwise_ne, List.pairwise_map] at h
  rw [List.nodup_iff_pairwise_ne]
  exact h.imp fun hab e => hab (by rw [e])
theorem mem_getD {v : List Nat} {x : Nat} (h : x ∈ v) : ∃ m, m < v.length ∧ v.getD m 0 = x := by
  obtain ⟨m, hm, e⟩ := List.getElem_of_mem h
  exact ⟨m, hm, by rw [List.getD_eq_getElem?_getD, List.getElem?_eq_getElem hm]; exact e⟩
theorem getD_mem {v : List Nat} {m : Nat} (h : m < v.length) : v.getD m 0 ∈ v := by
  rw [List.getD_eq_getElem?_getD, List.getElem?_eq_getElem h]; simp
theorem vertexB_iff {l : List Pt} {x : Nat} (hx : x < l.length) : vertexB l x = true ↔ x ∈ hullI l := by
  have V := hullV l (by omega)
  simp only [vertexB, Bool.and_eq_true, decide_eq_true_eq, Bool.not_eq_true']
  constructor
  · rintro ⟨h1, h2⟩
    refine Classical.byContradiction fun hno => ?_
    have nov : ∀ m, m < (hullI l).length → P l x ≠ P l ((hullI l).getD m 0) := fun m hm e => by
      have hmem := getD_mem hm
      rcases Nat.lt_trichotomy x ((hullI l).getD m 0) with h | h | h
      · exact V.fst _ hmem x h e
      · exact hno (by rw [h]; exact hmem)
      · exact h1 _ h e.symm
    have hin := in_of_inH V ((in_iff V (P l x)).1 (.inl (P_mem hx)))
    have := (inB_in (othI l x l.length) (P l x)).2 (hin.mono fun q hq => by
      rw [othI_mem]
      refine ⟨isV_mem V hq, ?_⟩
      obtain ⟨m, hm, rfl⟩ := hq
      rw [vx_lt hm]
      exact (nov m hm).symm)
    rw [this] at h2; cases h2
  · intro hmem
    refine ⟨fun k hk => V.fst x hmem k hk, ?_⟩
    obtain ⟨m, hm, e⟩ := mem_getD hmem
    cases hb : inB (othI l x l.length) (P l x) with
    | false => rfl
    | true =>
      have ev : vx l (hullI l) m = P l x := by rw [vx_lt hm, e]
      have := vertex_out V hm
      rw [ev] at this
      exact absurd (((inB_in _ _).1 hb).mono fun q hq => (othI_mem l x q).1 hq) this
theorem hull_nodup (l : List Pt) : (hullI l).Nodup := by
  by_cases hl : 0 < l.length
  · exact nd_of_map (hullV l hl).nd
  · obtain rfl : l = [] := List.eq_nil_of_length_eq_zero (by omega)
    rw [hullI_nil]; exact List.nodup_nil
end Go.Hull
end
section
set_option linter.unusedSimpArgs false
set_option linter.unusedVariables false
set_option maxHeartbeats 8000000
set_option maxRecDepth 100000
namespace Go.Hull
open Go Go.Am Go.Proofs

theorem ixgS (v : List Nat) (j n k : Nat) (h : k < v.length) : (ix (v.set j n))[k]? = some (.int .i64 (((v.set j n).getD k 0 : Nat) : Int)) := ix_get _ (by simpa using h)
/-- One exchange. -/
def swp (j : Nat) (xs : List Nat) : List Nat := (xs.set j (xs.getD (j - 1) 0)).set (j - 1) (xs.getD j 0)
theorem inner_t (lt : Nat → Nat → Bool) {j : Nat} {xs : List Nat} (hj : 0 < j) (h : lt (xs.getD j 0) (xs.getD (j - 1) 0) = true) : inner lt j xs = inner lt (j - 1) (swp j xs) := by
  cases j with
  | zero => omega
  | succ j => simp only [inner, swp, Nat.add_sub_cancel] at h ⊢; rw [if_pos h]
theorem inner_f (lt : Nat → Nat → Bool) {j : Nat} {xs : List Nat} (h : j = 0 ∨ lt (xs.getD j 0) (xs.getD (j - 1) 0) = false) : inner lt j xs = xs := by
  cases j with
  | zero => rfl
  | succ j =>
    rcases h with h | h
    · omega
    · simp only [inner, Nat.add_sub_cancel] at h ⊢; rw [if_neg (by rw [h]; decide)]
theorem swp_length (j : Nat) (xs : List Nat) : (swp j xs).length = xs.length := by simp [swp]
end Go.Hull
end
section
set_option linter.unusedSimpArgs false
set_option linter.unusedVariables false
set_option maxHeartbeats 8000000
set_option maxRecDepth 100000
namespace Go.Hull
open Go Go.Am Go.Proofs

theorem take_succN (v : List Nat) {i : Nat} (h : i < v.length) : v.take (i + 1) = v.take i ++ [v.getD i 0] := by
  rw [List.take_add_one, List.getElem?_eq_getElem h]
  simp only [Option.toList_some, List.getD_eq_getElem?_getD, List.getElem?_eq_getElem h, Option.getD_some]
end Go.Hull
end
section
set_option linter.unusedSimpArgs false
set_option linter.unusedVariables false
set_option maxHeartbeats 8000000
set_option maxRecDepth 100000
namespace Go.Hull
open Go Go.Am Go.Proofs

theorem nrm_small {p q : Pt} (h : smallV (sub q p)) : ∀ d ∈ nrm p q, smallV d := by
  intro d hd
  simp only [smallV] at h
  simp only [nrm, List.mem_cons, List.not_mem_nil, or_false] at hd
  rcases hd with rfl | rfl <;> (simp only [smallV]; omega)
end Go.Hull
end
section
set_option linter.unusedSimpArgs false
set_option linter.unusedVariables false
set_option maxHeartbeats 8000000
set_option maxRecDepth 100000
namespace Go.Hull
open Go Go.Am Go.Proofs

/-- The points that are the greatest in a direction. -/
def tpI (l : List Pt) (d : Pt) (i : Nat) : List Nat := (List.range i).filter fun k => decide (dot (P l k) d = topN l d l.length)
end Go.Hull
end
section
set_option linter.unusedSimpArgs false
set_option linter.unusedVariables false
set_option maxHeartbeats 8000000
set_option maxRecDepth 100000
namespace Go.Hull
open Go Go.Am Go.Proofs

/-- i and j lie on both sides of the way from b to a. -/
def fcB (l : List Pt) (i j a b : Nat) : Bool := decide (P l a ≠ P l b ∧ ((i ∈ tpI l (P (nrm (P l a) (P l b)) 0) l.length ∧ j ∈ tpI l (P (nrm (P l a) (P l b)) 1) l.length) ∨ (i ∈ tpI l (P (nrm (P l a) (P l b)) 1) l.length ∧ j ∈ tpI l (P (nrm (P l a) (P l b)) 0) l.length)))
def facB (l : List Pt) (i j : Nat) : Bool := decide (∃ a, a < l.length ∧ ∃ b, b < a ∧ fcB l i j a b = true)
theorem nrm_sm {p q : Pt} (hp : okP p = true) (hq : okP q = true) (k : Nat) (hk : k < 2) : smallV (P (nrm p q) k) := nrm_small (sub_small hq hp) _ (P_mem (by rw [nrm_length]; exact hk))
end Go.Hull
end
section
set_option linter.unusedSimpArgs false
set_option linter.unusedVariables false
set_option maxHeartbeats 8000000
set_option maxRecDepth 100000
namespace Go.Hull
open Go Go.Am Go.Proofs

def okB (l : List Pt) (i j : Nat) : Bool := vertexB l i && (vertexB l j && facB l i j)
def prJ (ok : Nat → Nat → Bool) (i : Nat) (s : List Pt) : Nat → List Pt
  | 0 => s
  | m + 1 => prJ ok i s m ++ (if ok i (i + 1 + m) = true then [((i : Int), ((i + 1 + m : Nat) : Int))] else [])
def prI (ok : Nat → Nat → Bool) (n : Nat) : Nat → List Pt
  | 0 => []
  | i + 1 => prJ ok i (prI ok n i) (n - (i + 1))
theorem prJ_len (ok : Nat → Nat → Bool) (i : Nat) (s : List Pt) (m : Nat) : (prJ ok i s m).length ≤ s.length + m := by
  induction m with
  | zero => exact Nat.le_refl _
  | succ m ih => rw [prJ, List.length_append]; split <;> simp <;> omega
theorem prI_len (ok : Nat → Nat → Bool) (n i : Nat) : (prI ok n i).length ≤ i * n := by
  induction i with
  | zero => simp [prI]
  | succ i ih =>
    have := prJ_len ok i (prI ok n i) (n - (i + 1))
    rw [prI, Nat.succ_mul]; omega
theorem prI_lenn (ok : Nat → Nat → Bool) (n i : Nat) (hn : n ≤ 8) (hi : i ≤ 8) : (prI ok n i).length ≤ 72 := by
  have h2 := prI_len ok n i
  have h3 := Nat.mul_le_mul hi hn
  omega
def antR (l : List Pt) : List Pt × Int := if chk l ≠ 0 then ([], chk l) else (prI (okB l) l.length l.length, 0)
end Go.Hull
end
section
set_option linter.unusedSimpArgs false
set_option linter.unusedVariables false
namespace Go.Am
open Go Go.RowKit

theorem RCx.oneN {P : Program} {f : Opd} {xs : List Opd} {dst : Option Nat} {bef : Nat} {l : List (Nat × AV)} {hl : List Blk} {tr : Tr} {next : List (Nat × AV) → List Blk → Tr → Prop}
    {fid : FuncId} {caps : List AV} (hf : evA l f = .clo fid caps) {X args : List AV} (hX : evsA l xs ++ caps = X) {b : Nat} {T0 : List Nat} (hv : ArgsB hl b T0 X args) {blk blk' nb : Blk} {r : AV} (hC : CallsF P fid args [blk] r [blk', nb]) (hb : b < hl.length) (hblk : hget hl b = blk) (hl0 : blk.lt 0 = true)
    (hr : (r.clean && nb.clean) = true) (hl1 : blk'.lt 0 = true) (hcl : blk'.clean = true) {r' : AV} (hr' : r.ren (sigma [b] hl.length) = r') {nb' : Blk} (hn' : nb.ren (sigma [b] hl.length) = nb') (h : next (consO l dst r') (hsetL hl [(b, blk'), (hl.length, nb')]) ((b :: (T0 ++ [hl.length]), [b, hl.length], bef) :: tr)) : RCx P f xs dst bef l hl tr next := by
  obtain ⟨h1, h2⟩ := hv.spec
  subst hr' hn'
  simp only [Bool.and_eq_true] at hr
  refine ⟨fid, caps, b :: (T0 ++ [hl.length]), _, [(b, blk'), (hl.length, nb.ren (sigma [b] hl.length))], by rw [evA_eq]; exact hf, ?_, ?_, h⟩
  · have := CallsF.frame true hC (h := hget hl) (T := b :: (T0 ++ [hl.length])) (names := [b]) (n := hl.length) ⟨rfl, by simp, by simp, fun x hx => (by rw [List.mem_singleton.1 hx]; exact hb), fun i x hx => (by
        cases i with
        | zero => simp only [List.getElem?_cons_zero, Option.some.injEq] at hx; subst hx; rw [hblk]; exact (ltB_zero hl0 _).symm
        | succ i => simp at hx), fun b hb1 _ => hget_dead _ _ hb1, fun b' hb' => (by rw [List.mem_singleton.1 hb']; exact blt_mono (Nat.zero_le _) hl0)⟩ (fun x hx => (by rw [List.mem_singleton.1 hx]; simp))
      (fun b hb1 hb2 => (by simp at hb2 ⊢; right; right; omega)) h1 (fun i Y y hY hy => h2 i Y y hY hy (fun b' hb' => List.mem_cons_of_mem _ (List.mem_append_left _ hb'))) (fun _ => ⟨hr.1, fun b' hb' => (by
        rcases List.mem_cons.1 hb' with rfl | hb'
        · exact hcl
        · rw [List.mem_singleton.1 hb']; exact hr.2)⟩)
    simp only [frW, ltB_zero hl1] at this
    rw [evsA_eq, hX]
    simpa [sigma] using this
  · simp [okW]
    split
    · omega
    · simp; omega
/-- An iterator is done; rows that the rounds made are kept, up to m. -/
theorem rangeEndM {K : Exit → St → Prop} {rvs : List RV} {n0 : Nat} {al al2 l0 : List (Nat × AV)} {hl H : List Blk} {e : Exit} (m : Nat) (hm : n0 ≤ m) (he : e = .normal ∨ e = .ret) (hr : (resRV al2 hl rvs).isSome = true) (hH : hl.take m = H) (hlt : ltB m H) (hal : get al = get l0) (h : ∀ al, get al = get l0 → K .normal ⟨al, H⟩) : rangeK rvs n0 al K e ⟨al2, hl⟩ none :=
  ⟨he, hr, .inl rfl, m, hm, by rw [hH]; exact ltB_mem hlt, by rw [hH]; exact h al hal⟩
end Go.Am
end
section
set_option linter.unusedSimpArgs false
set_option linter.unusedVariables false
set_option maxHeartbeats 8000000
set_option maxRecDepth 100000
namespace Go.Hull
open Go Go.Am Go.Proofs

def ltN (a b : Nat) : Bool := decide (a < b)
theorem c122 (x y : Nat) : CallsF Try.prog 122 [.int .i64 (x : Int), .int .i64 (y : Int)] [] (.bool (decide (x < y))) [] := by
  refine callsF_cwx hm hf122 (by simp [cf122]) ?_
  simp only [cf122, argsAl]
  repeat' first
    | (refine hK _ _ _ (by first | exact fun h => Bool.noConfusion h | exact fun _ => rfl) ?_; clear hK K)
    | (refine CWx.r fun K hK => ?_; simp (maxSteps := 4000000) (disch := omega) only [dr0, dr1, dr2, dr3, dr4, if_true, if_false, Option.some.injEq, Nat.reduceEqDiff, Int.reduceToNat, Nat.reduceSub, Nat.reduceAdd, Nat.reduceMul, Nat.reduceLT, Nat.reduceLeDiff, reduceCtorEq, ↓reduceIte, catT, enc0, enc1, if_pos, if_neg])
    | refine CWx.go ?_
    | (apply RCx.view (fid := 115) (caps := []) rfl rfl; (focus ((simp only [evsA, evA_t, evA_c, Am.get, Nat.reduceEqDiff, ↓reduceIte, List.nil_append, List.cons_append, List.append_nil]; repeat' first | exact viewArgs_nil | apply viewArgs_cons | exact viewG_flat (flat_pts _ _) _ | exact viewG_flat (flat_ixV _ _) _ | exact viewG_flat (flat_sv _ _) _ | exact viewG_ixT rfl (by assumption) (by omega) | exact viewG_ptsL rfl (by first | omega | (simp; done) | (simp; omega)) | exact viewG_ix rfl (by first | omega | (simp; omega)) | exact viewG_flat rfl _; done))); (focus (refine c115 x <;> first | omega | assumption)); (focus rfl); simp (maxSteps := 4000000) (disch := omega) only [dr0, dr1, dr2, dr3, dr4, if_true, if_false, Option.some.injEq, Nat.reduceEqDiff, Int.reduceToNat, Nat.reduceSub, Nat.reduceAdd, Nat.reduceMul, Nat.reduceLT, Nat.reduceLeDiff, reduceCtorEq, ↓reduceIte, catT, enc0, enc1, if_pos, if_neg])
    | (apply RCx.view (fid := 115) (caps := []) rfl rfl; (focus ((simp only [evsA, evA_t, evA_c, Am.get, Nat.reduceEqDiff, ↓reduceIte, List.nil_append, List.cons_append, List.append_nil]; repeat' first | exact viewArgs_nil | apply viewArgs_cons | exact viewG_flat (flat_pts _ _) _ | exact viewG_flat (flat_ixV _ _) _ | exact viewG_flat (flat_sv _ _) _ | exact viewG_ixT rfl (by assumption) (by omega) | exact viewG_ptsL rfl (by first | omega | (simp; done) | (simp; omega)) | exact viewG_ix rfl (by first | omega | (simp; omega)) | exact viewG_flat rfl _; done))); (focus (refine c115 y <;> first | omega | assumption)); (focus rfl); simp (maxSteps := 4000000) (disch := omega) only [dr0, dr1, dr2, dr3, dr4, if_true, if_false, Option.some.injEq, Nat.reduceEqDiff, Int.reduceToNat, Nat.reduceSub, Nat.reduceAdd, Nat.reduceMul, Nat.reduceLT, Nat.reduceLeDiff, reduceCtorEq, ↓reduceIte, catT, enc0, enc1, if_pos, if_neg])
    | (refine gX_split (fun hb => ?_) (fun hb => ?_) <;> (try simp only [hb]) <;> (try simp only [bset0, reduceCtorEq] at hb) <;> first | omega | simp (maxSteps := 4000000) (disch := omega) only [dr0, dr1, dr2, dr3, dr4, if_true, if_false, Option.some.injEq, Nat.reduceEqDiff, Int.reduceToNat, Nat.reduceSub, Nat.reduceAdd, Nat.reduceMul, Nat.reduceLT, Nat.reduceLeDiff, reduceCtorEq, ↓reduceIte, catT, enc0, enc1, if_pos, if_neg])
    | (refine CWx.br rfl (fun hb => ?_) (fun hb => ?_) <;> first | exact Bool.noConfusion hb | (first | (simp only [bset0, reduceCtorEq] at hb; done) | ((try simp only [bset0, reduceCtorEq] at hb); first | omega | skip)))
    | (refine CWx.e fun K hK => ?_; simp (maxSteps := 4000000) (disch := omega) only [dr0, dr1, dr2, dr3, dr4, if_true, if_false, Option.some.injEq, Nat.reduceEqDiff, Int.reduceToNat, Nat.reduceSub, Nat.reduceAdd, Nat.reduceMul, Nat.reduceLT, Nat.reduceLeDiff, reduceCtorEq, ↓reduceIte, catT, enc0, enc1, if_pos, if_neg])
    | refine CWx.seq ?_
    | refine CWx.skip ?_
    | refine CWx.exit ?_
    | (refine CWx.ret fun al hal => finK_ext hal (finK_pure (.inr rfl) (by simp only [resRV, Am.get, Nat.reduceEqDiff, ↓reduceIte]; exact rfl) ?_ ?_); (focus (first | ((simp only [tupAV]; congr 1; rw [decide_eq_decide]; omega); done) | (rfl; done) | ((simp only [tupAV]; congr <;> omega); done) | (simp [tupAV, *]; done))); (focus (first | rfl | (simp [AV.allR, allRL, allRL_ix]; done))))
theorem c116 (g : Nat) (xs : List Nat) (hn : xs.length < 100000) : CallsF Try.prog 116 [.sl 0 g 0 xs.length, .int .i64 0, .int .i64 (xs.length : Int)] [.row false g false 1 (ix xs)] (.tup []) [.row false g false 1 (ix (insort ltN xs))] := by
  refine callsF_cwx hm hf116 (by simp [cf116]) ?_
  simp only [cf116, argsAl]
  repeat' first
    | (refine hK _ _ _ (by first | exact fun h => Bool.noConfusion h | exact fun _ => rfl) ?_; clear hK K)
    | (refine CWx.r fun K hK => ?_; simp (maxSteps := 4000000) (disch := omega) only [dr0, dr1, dr2, dr3, dr4, if_true, if_false, Option.some.injEq, Nat.reduceEqDiff, Int.reduceToNat, Nat.reduceSub, Nat.reduceAdd, Nat.reduceMul, Nat.reduceLT, Nat.reduceLeDiff, reduceCtorEq, ↓reduceIte, catT, enc0, enc1, if_pos, if_neg, ix_set, ixgS])
    | refine CWx.go ?_
    | (apply RCx.view (fid := 122) (caps := []) rfl rfl; (focus ((simp only [evsA, evA_t, evA_c, Am.get, Nat.reduceEqDiff, ↓reduceIte, List.nil_append, List.cons_append, List.append_nil]; repeat' first | exact viewArgs_nil | apply viewArgs_cons | exact viewG_flat (flat_pts _ _) _ | exact viewG_flat (flat_ixV _ _) _ | exact viewG_flat (flat_sv _ _) _ | exact viewG_ixT rfl (by assumption) (by omega) | exact viewG_ptsL rfl (by first | omega | (simp; done) | (simp; omega)) | exact viewG_ix rfl (by first | omega | (simp; omega)) | exact viewG_flat rfl _; done))); (focus (refine c122 _ _ <;> first | omega | assumption)); (focus rfl); simp (maxSteps := 4000000) (disch := omega) only [dr0, dr1, dr2, dr3, dr4, if_true, if_false, Option.some.injEq, Nat.reduceEqDiff, Int.reduceToNat, Nat.reduceSub, Nat.reduceAdd, Nat.reduceMul, Nat.reduceLT, Nat.reduceLeDiff, reduceCtorEq, ↓reduceIte, catT, enc0, enc1, if_pos, if_neg, ix_set, ixgS])
    | (refine gX_split (fun hb => ?_) (fun hb => ?_) <;> (try simp only [hb]) <;> (try simp only [bset0, reduceCtorEq] at hb) <;> first | omega | simp (maxSteps := 4000000) (disch := omega) only [dr0, dr1, dr2, dr3, dr4, if_true, if_false, Option.some.injEq, Nat.reduceEqDiff, Int.reduceToNat, Nat.reduceSub, Nat.reduceAdd, Nat.reduceMul, Nat.reduceLT, Nat.reduceLeDiff, reduceCtorEq, ↓reduceIte, catT, enc0, enc1, if_pos, if_neg, ix_set, ixgS])
    | (refine CWx.br rfl (fun hb => ?_) (fun hb => ?_) <;> first | exact Bool.noConfusion hb | (first | (simp only [bset0, reduceCtorEq] at hb; done) | ((try simp only [bset0, reduceCtorEq] at hb); first | omega | skip)))
    | (refine CWx.e fun K hK => ?_; simp (maxSteps := 4000000) (disch := omega) only [dr0, dr1, dr2, dr3, dr4, if_true, if_false, Option.some.injEq, Nat.reduceEqDiff, Int.reduceToNat, Nat.reduceSub, Nat.reduceAdd, Nat.reduceMul, Nat.reduceLT, Nat.reduceLeDiff, reduceCtorEq, ↓reduceIte, catT, enc0, enc1, if_pos, if_neg, ix_set, ixgS])
    | (refine CWx.block (id := 0) ?_; refine CWx.loopK (ι := Nat × List Nat) [0, 1, 2] (fun q => xs.length - q.1) (fun q => [(6, .int .i64 (q.1 : Int))]) (fun q => [.row false g false 1 (ix q.2)]) (fun q => (1 ≤ q.1 ∧ (q.1 ≤ xs.length ∨ q.1 = 1) ∧ q.2.length = xs.length) ∧ outer ltN (xs.length - q.1) q.1 q.2 = insort ltN xs) (fun i => by simp only [keepA, Am.get, List.cons_append, List.nil_append, Nat.reduceEqDiff, ↓reduceIte]; exact rfl) ((1, xs)) ?_ ?_ (fun q hi => ?_); (focus (exact ⟨⟨Nat.le_refl _, .inr rfl, rfl⟩, rfl⟩; done)); (focus (refine Fgt.mk' 1 (by simp) ?_ ?_ ?_ <;> simp [-List.map_take, -List.map_map, AV.isY, ltL_append, ix_nil, keepB, Am.get, AV.lt, ltL, lt_pts, lt_pt, lt_ixV, ltL_ix, ltL_pt, Blk.lt, ltB]; done)); have Hq := hi; ((obtain ⟨⟨hq1, hq2, hq3⟩, hq4⟩ := hi)))
    | (refine CWx.block (id := 2) ?_; refine CWx.loopK (ι := Nat × List Nat) [0, 1, 2, 6] (fun r => r.1) (fun r => [(7, .int .i64 (r.1 : Int))]) (fun r => [.row false g false 1 (ix r.2)]) (fun r => (r.1 ≤ q.1 ∧ r.2.length = xs.length) ∧ inner ltN r.1 r.2 = inner ltN q.1 q.2) (fun i => by simp only [keepA, Am.get, List.cons_append, List.nil_append, Nat.reduceEqDiff, ↓reduceIte]; exact rfl) ((q.1, q.2)) ?_ ?_ (fun r hi => ?_); (focus (exact ⟨⟨Nat.le_refl _, by assumption⟩, rfl⟩; done)); (focus (refine Fgt.mk' 1 (by simp) ?_ ?_ ?_ <;> simp [-List.map_take, -List.map_map, AV.isY, ltL_append, ix_nil, keepB, Am.get, AV.lt, ltL, lt_pts, lt_pt, lt_ixV, ltL_ix, ltL_pt, Blk.lt, ltB]; done)); have Hr := hi; ((obtain ⟨⟨hr1, hr2⟩, hr3⟩ := hi)))
    | refine CWx.seq ?_
    | refine CWx.block (id := 1) ?_
    | refine CWx.block (id := 3) ?_
    | refine CWx.skip ?_
    | (refine CWx.exit (id := 2) ?_; (have er : r.2 = inner ltN q.1 q.2 := by rw [← hr3]; exact (inner_f ltN (by first | exact .inl (by omega) | exact .inr (by unfold ltN; exact decide_eq_false (by omega)))).symm))
    | (refine CWx.exit (id := 0) ?_; (have eq : q.2 = insort ltN xs := by rw [← hq4, show xs.length - q.1 = 0 by omega]; rfl); simp only [eq])
    | refine CWx.exit ?_
    | (refine CWx.ret fun al hal => finK_ext hal (finK_pure (.inr rfl) (by simp only [resRV, Am.get, Nat.reduceEqDiff, ↓reduceIte]; exact rfl) ?_ ?_); (focus (first | (rfl; done) | ((simp only [tupAV]; congr <;> omega); done) | (simp [tupAV, *]; done))); (focus (first | rfl | (simp [AV.allR, allRL, allRL_ix]; done))))
    | (intro al hal; refine ⟨(r.1 - 1, swp r.1 r.2), ?_, ?_, Fgt.ofx hal ?_⟩; (focus (first | omega | (dsimp only; omega))); (focus (exact ⟨⟨by dsimp only; omega, by dsimp only; rw [swp_length]; omega⟩, by dsimp only; rw [← inner_t ltN (by omega) (by unfold ltN; exact decide_eq_true (by omega))]; exact hr3⟩; done)); (focus (refine Fgt.mk' 1 (by simp) ?_ ?_ ?_ <;> simp [-List.map_take, -List.map_map, AV.isY, ltL_append, ix_nil, keepB, Am.get, AV.lt, ltL, lt_pts, lt_pt, lt_ixV, ltL_ix, ltL_pt, Blk.lt, ltB, swp]; done)))
    | (intro al hal; refine ⟨(q.1 + 1, r.2), ?_, ?_, Fgt.ofx hal ?_⟩; (focus (first | omega | (dsimp only; omega))); (focus (exact ⟨⟨by dsimp only; omega, by dsimp only; omega, by dsimp only; omega⟩, by dsimp only; rw [← hq4, er, show xs.length - q.1 = (xs.length - (q.1 + 1)) + 1 by omega]; rfl⟩; done)); (focus (refine Fgt.mk' 1 (by simp) ?_ ?_ ?_ <;> simp [-List.map_take, -List.map_map, AV.isY, ltL_append, ix_nil, keepB, Am.get, AV.lt, ltL, lt_pts, lt_pt, lt_ixV, ltL_ix, ltL_pt, Blk.lt, ltB]; done)))
    | (intro al hal; exact finK_ext hal (finK_keep (.inl rfl) (xs := []) rfl rfl rfl (by simp) rfl (fun b hb => by rw [List.mem_singleton.1 hb]; simp only [Blk.allR, allRL_ix])))
theorem c109 (g : Nat) (xs : List Nat) (k : Int) (hn : xs.length ≤ 8) : CallsF Try.prog 109 [.sl 0 g 0 xs.length, .int .i64 0, .int .i64 (xs.length : Int), .int .i64 k] [.row false g false 1 (ix xs)] (.tup []) [.row false g false 1 (ix (insort ltN xs))] := by
  refine callsF_cwx hm hf109 (by simp [cf109]) ?_
  simp only [cf109, argsAl]
  repeat' first
    | (refine hK _ _ _ (by first | exact fun h => Bool.noConfusion h | exact fun _ => rfl) ?_; clear hK K)
    | (refine CWx.r fun K hK => ?_; simp (maxSteps := 4000000) (disch := omega) only [dr0, dr1, dr2, dr3, dr4, if_true, if_false, Option.some.injEq, Nat.reduceEqDiff, Int.reduceToNat, Nat.reduceSub, Nat.reduceAdd, Nat.reduceMul, Nat.reduceLT, Nat.reduceLeDiff, reduceCtorEq, ↓reduceIte, catT, enc0, enc1, if_pos, if_neg])
    | refine CWx.go ?_
    | (refine RCx.one (fid := 116) (caps := []) rfl rfl (b := 0) (.cons (.row g 0 xs.length) (.cons (.flat rfl) (.cons (.flat rfl) .nil))) (c116 g xs (by omega)) (by simp) rfl (by simp only [Blk.lt, ltL_ix]) rfl (by simp only [Blk.lt, ltL_ix]) (by simp only [Blk.clean, cleanL_ix]) ?_; simp (maxSteps := 4000000) (disch := omega) only [dr0, dr1, dr2, dr3, dr4, if_true, if_false, Option.some.injEq, Nat.reduceEqDiff, Int.reduceToNat, Nat.reduceSub, Nat.reduceAdd, Nat.reduceMul, Nat.reduceLT, Nat.reduceLeDiff, reduceCtorEq, ↓reduceIte, catT, enc0, enc1, if_pos, if_neg])
    | (refine gX_split (fun hb => ?_) (fun hb => ?_) <;> (try simp only [hb]) <;> (try simp only [bset0, reduceCtorEq] at hb) <;> first | omega | simp (maxSteps := 4000000) (disch := omega) only [dr0, dr1, dr2, dr3, dr4, if_true, if_false, Option.some.injEq, Nat.reduceEqDiff, Int.reduceToNat, Nat.reduceSub, Nat.reduceAdd, Nat.reduceMul, Nat.reduceLT, Nat.reduceLeDiff, reduceCtorEq, ↓reduceIte, catT, enc0, enc1, if_pos, if_neg])
    | (refine CWx.br rfl (fun hb => ?_) (fun hb => ?_) <;> first | exact Bool.noConfusion hb | (first | (simp only [bset0, reduceCtorEq] at hb; done) | ((try simp only [bset0, reduceCtorEq] at hb); first | omega | skip)))
    | (refine CWx.e fun K hK => ?_; simp (maxSteps := 4000000) (disch := omega) only [dr0, dr1, dr2, dr3, dr4, if_true, if_false, Option.some.injEq, Nat.reduceEqDiff, Int.reduceToNat, Nat.reduceSub, Nat.reduceAdd, Nat.reduceMul, Nat.reduceLT, Nat.reduceLeDiff, reduceCtorEq, ↓reduceIte, catT, enc0, enc1, if_pos, if_neg])
    | (refine CWx.block (id := 0) ?_; refine CWx.loopK (ι := Nat) [0, 1, 2, 3, 8, 9] (fun u => 0) (fun u => []) (fun u => [.row false g false 1 (ix xs)]) (fun u => True) (fun i => by simp only [keepA, Am.get, List.cons_append, List.nil_append, Nat.reduceEqDiff, ↓reduceIte]; exact rfl) (0) ?_ ?_ (fun u hi => ?_); (focus ((try dsimp only) <;> (first | trivial | omega | (refine ⟨?_, ?_⟩ <;> first | omega | trivial | simp_all) | simp_all); done)); (focus (refine Fgt.mk' 1 (by simp) ?_ ?_ ?_ <;> simp [-List.map_take, -List.map_map, AV.isY, ltL_append, ix_nil, keepB, Am.get, AV.lt, ltL, lt_pts, lt_pt, lt_ixV, ltL_ix, ltL_pt, Blk.lt, ltB]; done)); have Hu := hi; (skip))
    | refine CWx.seq ?_
    | refine CWx.block (id := 1) ?_
    | refine CWx.skip ?_
    | refine CWx.exit ?_
    | (refine CWx.ret fun al hal => finK_ext hal (finK_pure (.inr rfl) (by simp only [resRV, Am.get, Nat.reduceEqDiff, ↓reduceIte]; exact rfl) ?_ ?_); (focus (first | (rfl; done) | ((simp only [tupAV]; congr <;> omega); done) | (simp [tupAV, *]; done))); (focus (first | rfl | (simp [AV.allR, allRL, allRL_ix]; done))))
    | (refine CWx.ret fun al hal => finK_ext hal (finK_keep (.inr rfl) (xs := []) rfl rfl rfl (by simp) rfl (fun b hb => by rw [List.mem_singleton.1 hb]; simp only [Blk.allR, allRL_ix])))
def blen : Nat → Int
  | 0 => 0 | 1 => 1 | 2 => 2 | 3 => 2 | 4 => 3 | 5 => 3 | 6 => 3 | 7 => 3 | _ => 4
theorem c110 (n : Nat) (h : n ≤ 8) : CallsF Try.prog 110 [.int .u64 (n : Int)] [] (.int .i64 (blen n)) [] := by
  have z : ∀ k : Nat, k = 0 ∨ k = 1 ∨ k = 2 ∨ k = 3 ∨ k = 4 ∨ k = 5 ∨ k = 6 ∨ k = 7 ∨ k = 8 ∨ 8 < k := by omega
  rcases z n with rfl | rfl | rfl | rfl | rfl | rfl | rfl | rfl | rfl | h'
  · exact xFm_sound hm tOk Aw.ok0 20 _ _ _ _ _ (by kernel_rfl : xFm Aw.nm T Aw.ms0 1000 20 110 [.int .u64 0] [] = some (.int .i64 0, []))
  · exact xFm_sound hm tOk Aw.ok0 20 _ _ _ _ _ (by kernel_rfl : xFm Aw.nm T Aw.ms0 1000 20 110 [.int .u64 1] [] = some (.int .i64 1, []))
  · exact xFm_sound hm tOk Aw.ok0 20 _ _ _ _ _ (by kernel_rfl : xFm Aw.nm T Aw.ms0 1000 20 110 [.int .u64 2] [] = some (.int .i64 2, []))
  · exact xFm_sound hm tOk Aw.ok0 20 _ _ _ _ _ (by kernel_rfl : xFm Aw.nm T Aw.ms0 1000 20 110 [.int .u64 3] [] = some (.int .i64 2, []))
  · exact xFm_sound hm tOk Aw.ok0 20 _ _ _ _ _ (by kernel_rfl : xFm Aw.nm T Aw.ms0 1000 20 110 [.int .u64 4] [] = some (.int .i64 3, []))
  · exact xFm_sound hm tOk Aw.ok0 20 _ _ _ _ _ (by kernel_rfl : xFm Aw.nm T Aw.ms0 1000 20 110 [.int .u64 5] [] = some (.int .i64 3, []))
  · exact xFm_sound hm tOk Aw.ok0 20 _ _ _ _ _ (by kernel_rfl : xFm Aw.nm T Aw.ms0 1000 20 110 [.int .u64 6] [] = some (.int .i64 3, []))
  · exact xFm_sound hm tOk Aw.ok0 20 _ _ _ _ _ (by kernel_rfl : xFm Aw.nm T Aw.ms0 1000 20 110 [.int .u64 7] [] = some (.int .i64 3, []))
  · exact xFm_sound hm tOk Aw.ok0 20 _ _ _ _ _ (by kernel_rfl : xFm Aw.nm T Aw.ms0 1000 20 110 [.int .u64 8] [] = some (.int .i64 4, []))
  · omega
theorem c93 (g : Nat) (xs : List Nat) (hn : xs.length ≤ 8) : CallsF Try.prog 93 [.sl 0 g 0 xs.length] [.row false g false 1 (ix xs)] (.tup []) [.row false g false 1 (ix (insort ltN xs))] := by
  have hw : IntKind.u64.wrap (xs.length : Int) = (xs.length : Int) := IntWalk.u64_in _ ⟨by omega, by omega⟩
  refine callsF_cwx hm hf93 (by simp [cf93]) ?_
  simp only [cf93, argsAl]
  repeat' first
    | (refine hK _ _ _ (by first | exact fun h => Bool.noConfusion h | exact fun _ => rfl) ?_; clear hK K)
    | (refine CWx.r fun K hK => ?_; simp (maxSteps := 4000000) (disch := omega) only [dr0, dr1, dr2, dr3, dr4, if_true, if_false, Option.some.injEq, Nat.reduceEqDiff, Int.reduceToNat, Nat.reduceSub, Nat.reduceAdd, Nat.reduceMul, Nat.reduceLT, Nat.reduceLeDiff, reduceCtorEq, ↓reduceIte, catT, enc0, enc1, if_pos, if_neg, hw])
    | refine CWx.go ?_
    | (apply RCx.view (fid := 110) (caps := []) rfl rfl; (focus ((simp only [evsA, evA_t, evA_c, Am.get, Nat.reduceEqDiff, ↓reduceIte, List.nil_append, List.cons_append, List.append_nil]; repeat' first | exact viewArgs_nil | apply viewArgs_cons | exact viewG_flat (flat_pts _ _) _ | exact viewG_flat (flat_ixV _ _) _ | exact viewG_flat (flat_sv _ _) _ | exact viewG_ixT rfl (by assumption) (by omega) | exact viewG_ptsL rfl (by first | omega | (simp; done) | (simp; omega)) | exact viewG_ix rfl (by first | omega | (simp; omega)) | exact viewG_flat rfl _; done))); (focus (refine c110 xs.length hn <;> first | omega | assumption)); (focus rfl); simp (maxSteps := 4000000) (disch := omega) only [dr0, dr1, dr2, dr3, dr4, if_true, if_false, Option.some.injEq, Nat.reduceEqDiff, Int.reduceToNat, Nat.reduceSub, Nat.reduceAdd, Nat.reduceMul, Nat.reduceLT, Nat.reduceLeDiff, reduceCtorEq, ↓reduceIte, catT, enc0, enc1, if_pos, if_neg, hw])
    | (refine RCx.one (fid := 109) (caps := []) rfl rfl (b := 0) (.cons (.row g 0 xs.length) (.cons (.flat rfl) (.cons (.flat rfl) (.cons (.flat rfl) .nil)))) (c109 g xs _ hn) (by simp) rfl (by simp only [Blk.lt, ltL_ix]) rfl (by simp only [Blk.lt, ltL_ix]) (by simp only [Blk.clean, cleanL_ix]) ?_; simp (maxSteps := 4000000) (disch := omega) only [dr0, dr1, dr2, dr3, dr4, if_true, if_false, Option.some.injEq, Nat.reduceEqDiff, Int.reduceToNat, Nat.reduceSub, Nat.reduceAdd, Nat.reduceMul, Nat.reduceLT, Nat.reduceLeDiff, reduceCtorEq, ↓reduceIte, catT, enc0, enc1, if_pos, if_neg, hw])
    | (refine gX_split (fun hb => ?_) (fun hb => ?_) <;> (try simp only [hb]) <;> (try simp only [bset0, reduceCtorEq] at hb) <;> simp (maxSteps := 4000000) (disch := omega) only [dr0, dr1, dr2, dr3, dr4, if_true, if_false, Option.some.injEq, Nat.reduceEqDiff, Int.reduceToNat, Nat.reduceSub, Nat.reduceAdd, Nat.reduceMul, Nat.reduceLT, Nat.reduceLeDiff, reduceCtorEq, ↓reduceIte, catT, enc0, enc1, if_pos, if_neg, hw])
    | (refine CWx.br rfl (fun hb => ?_) (fun hb => ?_) <;> first | exact Bool.noConfusion hb | (first | (simp only [bset0, reduceCtorEq] at hb; done) | ((try simp only [bset0, reduceCtorEq] at hb); first | contradiction | skip)))
    | (refine CWx.e fun K hK => ?_; simp (maxSteps := 4000000) (disch := omega) only [dr0, dr1, dr2, dr3, dr4, if_true, if_false, Option.some.injEq, Nat.reduceEqDiff, Int.reduceToNat, Nat.reduceSub, Nat.reduceAdd, Nat.reduceMul, Nat.reduceLT, Nat.reduceLeDiff, reduceCtorEq, ↓reduceIte, catT, enc0, enc1, if_pos, if_neg, hw])
    | refine CWx.seq ?_
    | refine CWx.skip ?_
    | refine CWx.exit ?_
    | (refine CWx.ret fun al hal => finK_ext hal (finK_pure (.inr rfl) (by simp only [resRV, Am.get, Nat.reduceEqDiff, ↓reduceIte]; exact rfl) ?_ ?_); (focus (first | (rfl; done) | ((simp only [tupAV]; congr <;> omega); done) | (simp [tupAV, *]; done))); (focus (first | rfl | (simp [AV.allR, allRL, allRL_ix]; done))))
    | (intro al hal; exact finK_ext hal (finK_keep (.inl rfl) (xs := []) rfl rfl rfl (by simp) rfl (fun b hb => by rw [List.mem_singleton.1 hb]; simp only [Blk.allR, allRL_ix])))
end Go.Hull
end
section
set_option linter.unusedSimpArgs false
set_option linter.unusedVariables false
set_option maxHeartbeats 8000000
set_option maxRecDepth 100000
namespace Go.Hull
open Go Go.Am Go.Proofs

theorem viewG_ixn {hl : List Blk} {b g k m : Nat} {nil frz : Bool} {xs v : List Nat} (hb : hget hl b = .row nil g frz 1 (ix xs)) (hv : xs.take k = v) (h : k ≤ xs.length) : viewG hl (m + 2) (.sl b g 0 k) = some (ixV v, [b]) := by
  have he : ((ix xs).drop 0).take k = ix v := by rw [ix_drop, ix_take, List.drop_zero, hv]
  have h1 : optL (viewG hl (m + 1)) (ix v) = some ((ix v).map fun x => (x, [])) := optL_self _ fun x hx => by
    obtain ⟨n, -, rfl⟩ := List.mem_map.1 hx
    exact viewG_flat rfl m
  have h2 : (((ix v).map fun x => (x, ([] : List Nat))).all fun y => Nat.beq y.1.cells.length 1) = true := by
    rw [List.all_eq_true]
    intro y hy
    obtain ⟨x, hx, rfl⟩ := List.mem_map.1 hy
    obtain ⟨n, -, rfl⟩ := List.mem_map.1 hx
    rfl
  have hc : True ∧ 0 + k ≤ (ix xs).length := ⟨trivial, by rw [ix_length]; omega⟩
  unfold viewG
  simp only [flatN, AV.lt, Nat.not_lt_zero, decide_false, Bool.false_eq_true, if_false, hb]
  rw [if_pos hc]
  simp only [he, h1, h2, if_true, List.map_map, Function.comp_def, List.map_id', catT_nil]
  rfl
/-- A closure over a slice, seen. -/
theorem viewG_cloS {hl : List Blk} {b g sz c g' k : Nat} {nil frz nil' frz' : Bool} {f : FuncId} {xs v : List Nat} (hb : hget hl b = .row nil g frz sz [.sl c g' 0 k]) (hc : hget hl c = .row nil' g' frz' 1 (ix xs)) (hv : xs.take k = v) (h : k ≤ xs.length) :
    viewG hl 6 (.clo f [.ptr b g 0 0]) = some (.clo f [.rp true [ixV v]], [b, c]) := by
  have h1 : viewG hl 4 (.sl c g' 0 k) = some (ixV v, [c]) := viewG_ixn hc hv h
  have h2 : viewG hl 5 (.ptr b g 0 0) = some (.rp true [ixV v], [b, c]) := by
    unfold viewG
    simp only [flatN, AV.lt, Nat.not_lt_zero, decide_false, Bool.false_eq_true, if_false, hb, if_true, List.getElem?_cons_zero, AV.cells, List.drop_zero, optL, h1, List.map_cons, List.map_nil, catT, List.append_nil]
  unfold viewG
  simp only [flatN, allB, AV.lt, ltL, Nat.not_lt_zero, decide_false, Bool.false_eq_true, Bool.false_and, if_false, optL, h2, List.map_cons, List.map_nil, catT, List.append_nil]
theorem flat_cx (v : List Nat) (f : Nat) : flatN true 5 (.clo f [.rp true [ixV v]]) = true := by
  simp only [flatN, allB, flat_ixV v 0]
theorem mapR_ixL (σ : Nat → Nat → Nat × Nat) (v : List Nat) : mapRL σ (ix v) = ix v := mapRL_id (q := true) _ (allRL_ix v _ _)
theorem c64 (zs : List Nat) (n : Nat) (h : n ≤ zs.length) : CallsF Try.prog 64 [.sl 0 0 0 n] [.row false 0 false 1 (ix zs)] (.clo 94 [.ptr 1 0 0 0]) [.row false 0 false 1 (ix zs), .row false 0 false 1 [.sl 0 0 0 n]] := by
  refine callsF_cwx hm hf64 (by simp [cf64]) ?_
  simp only [cf64, argsAl]
  repeat' first
    | (refine hK _ _ _ (by first | exact fun h => Bool.noConfusion h | exact fun _ => rfl) ?_; clear hK K)
    | (refine CWx.r fun K hK => ?_; simp (maxSteps := 4000000) (disch := omega) only [dr0, dr1, dr2, dr3, dr4, if_true, if_false, Option.some.injEq, Nat.reduceEqDiff, Int.reduceToNat, Nat.reduceSub, Nat.reduceAdd, Nat.reduceMul, Nat.reduceLT, Nat.reduceLeDiff, reduceCtorEq, ↓reduceIte, catT, enc0, enc1, if_pos, if_neg])
    | refine CWx.go ?_
    | (refine gX_split (fun hb => ?_) (fun hb => ?_) <;> (try simp only [hb]) <;> (try simp only [bset0, reduceCtorEq] at hb) <;> simp (maxSteps := 4000000) (disch := omega) only [dr0, dr1, dr2, dr3, dr4, if_true, if_false, Option.some.injEq, Nat.reduceEqDiff, Int.reduceToNat, Nat.reduceSub, Nat.reduceAdd, Nat.reduceMul, Nat.reduceLT, Nat.reduceLeDiff, reduceCtorEq, ↓reduceIte, catT, enc0, enc1, if_pos, if_neg])
    | (refine CWx.br rfl (fun hb => ?_) (fun hb => ?_) <;> first | exact Bool.noConfusion hb | (first | (simp only [bset0, reduceCtorEq] at hb; done) | ((try simp only [bset0, reduceCtorEq] at hb); first | contradiction | skip)))
    | (refine CWx.e fun K hK => ?_; simp (maxSteps := 4000000) (disch := omega) only [dr0, dr1, dr2, dr3, dr4, if_true, if_false, Option.some.injEq, Nat.reduceEqDiff, Int.reduceToNat, Nat.reduceSub, Nat.reduceAdd, Nat.reduceMul, Nat.reduceLT, Nat.reduceLeDiff, reduceCtorEq, ↓reduceIte, catT, enc0, enc1, if_pos, if_neg])
    | refine CWx.seq ?_
    | refine CWx.skip ?_
    | refine CWx.exit ?_
    | (refine CWx.ret fun al hal => finK_ext hal (finK_pure (.inr rfl) (by simp only [resRV, Am.get, Nat.reduceEqDiff, ↓reduceIte]; exact rfl) ?_ ?_); (focus (first | (rfl; done) | ((simp only [tupAV]; congr <;> omega); done) | (simp [tupAV, *]; done))); (focus (first | rfl | (simp [AV.allR, allRL, allRL_ix]; done))))
    | (refine CWx.ret fun al hal => finK_ext hal ⟨.inr rfl, [.clo 94 [.ptr 1 0 0 0]], [(1, 0)], (by simp [resRV, Am.get]), exOk_spec ?_, rfl, ?_⟩)
    | (simp [exOk, Nodups, hget, Blk.allR, allRL, allRL_ix, tupAV, AV.allR, sigP, rowGen]; done)
    | (simp [exHl, hget, Blk.mapR, mapRL, Blk.zero, AV.mapR, sigF, mapR_ixL])
/-- The memory after the i-th number. -/
def rowsC (v : List Nat) : Nat → List Blk
  | 0 => [.row false 0 false 1 [.nils], .row true 0 false 1 []]
  | i + 1 => [.row false 0 false 1 [.sl 3 i 0 (i + 1)], .row true 0 false 1 [], .row false 0 false 1 [.int .i64 ((v.getD 0 0 : Nat) : Int)], .row false i false 1 (ix (v.take (i + 1)))]
theorem rowsC_zero (v : List Nat) : rowsC v 0 = [.row false 0 false 1 [.nils], .row true 0 false 1 []] := rfl
theorem rowsC_succ (v : List Nat) (i : Nat) : rowsC v (i + 1) = [.row false 0 false 1 [.sl 3 i 0 (i + 1)], .row true 0 false 1 [], .row false 0 false 1 [.int .i64 ((v.getD 0 0 : Nat) : Int)], .row false i false 1 (ix (v.take (i + 1)))] := rfl
theorem rowsC_one (v : List Nat) (h : 0 < v.length) : rowsC v 1 = [.row false 0 false 1 [.sl 3 0 0 1], .row true 0 false 1 [], .row false 0 false 1 [.int .i64 ((v.getD 0 0 : Nat) : Int)], .row false 0 false 1 [.int .i64 ((v.getD 0 0 : Nat) : Int)]] := by
  rw [show (1 : Nat) = 0 + 1 from rfl, rowsC_succ, take_succN v h]; rfl
theorem c108 (v : List Nat) (h0 : 0 < v.length) (hn : v.length < 100000) : CallsF Try.prog 108 [.nils, .clo 94 [.rp true [ixV v]]] [] (.sl 0 0 0 v.length) [.row false 0 false 1 (ix v)] := by
  refine callsF_cwx hm hf108 (by simp [cf108]) ?_
  simp only [cf108, argsAl]
  repeat' first
    | (refine hK _ _ _ (by first | exact fun h => Bool.noConfusion h | exact fun _ => rfl) ?_; clear hK K)
    | (refine CWx.r fun K hK => ?_; simp (maxSteps := 4000000) (disch := omega) only [dr0, dr1, dr2, dr3, dr4, if_true, if_false, Option.some.injEq, Nat.reduceEqDiff, Int.reduceToNat, Nat.reduceSub, Nat.reduceAdd, Nat.reduceMul, Nat.reduceLT, Nat.reduceLeDiff, reduceCtorEq, ↓reduceIte, catT, enc0, enc1, if_pos, if_neg])
    | refine CWx.go ?_
    | (refine gX_split (fun hb => ?_) (fun hb => ?_) <;> (try simp only [hb]) <;> (try simp only [bset0, reduceCtorEq] at hb) <;> first | omega | simp (maxSteps := 4000000) (disch := omega) only [dr0, dr1, dr2, dr3, dr4, if_true, if_false, Option.some.injEq, Nat.reduceEqDiff, Int.reduceToNat, Nat.reduceSub, Nat.reduceAdd, Nat.reduceMul, Nat.reduceLT, Nat.reduceLeDiff, reduceCtorEq, ↓reduceIte, catT, enc0, enc1, if_pos, if_neg])
    | (refine CWx.br rfl (fun hb => ?_) (fun hb => ?_) <;> first | exact Bool.noConfusion hb | (first | (simp only [bset0, reduceCtorEq] at hb; done) | ((try simp only [bset0, reduceCtorEq] at hb); first | omega | skip)))
    | (refine CWx.e fun K hK => ?_; simp (maxSteps := 4000000) (disch := omega) only [dr0, dr1, dr2, dr3, dr4, if_true, if_false, Option.some.injEq, Nat.reduceEqDiff, Int.reduceToNat, Nat.reduceSub, Nat.reduceAdd, Nat.reduceMul, Nat.reduceLT, Nat.reduceLeDiff, reduceCtorEq, ↓reduceIte, catT, enc0, enc1, if_pos, if_neg])
    | refine CWx.seq ?_
    | refine CWx.block (id := 0) ?_
    | refine CWx.block (id := 1) ?_
    | refine CWx.skip ?_
    | refine CWx.exit ?_
    | (refine CWx.ret fun al hal => finK_ext hal (finK_pure (.inr rfl) (by simp only [resRV, Am.get, Nat.reduceEqDiff, ↓reduceIte]; exact rfl) ?_ ?_); (focus (first | (rfl; done) | ((simp only [tupAV]; congr <;> omega); done) | (simp [tupAV, *]; done))); (focus (first | rfl | (simp [AV.allR, allRL, allRL_ix]; done))))
    | (refine CWx.ret fun al hal => finK_ext hal (finK_new (b := 3) (.inr rfl) (by simp only [resRV, Am.get, Nat.reduceEqDiff, ↓reduceIte]; exact rfl) rfl (by first | exact allRL_ix _ _ _ | exact allRL_pts _ _ _ | rfl) ?_ ?_) <;> (simp [tupAV, AV.allR, allRL, sigP, AV.mapR, mapRL, sigF]; done))
    | (refine fun al2 hal2 => rangeEndM 4 (by simp) (.inl rfl) (by first | rfl | simp) (by simp only [List.length_cons, List.length_nil, Nat.reduceAdd, List.take]; exact rfl) (by simp [ltB, Blk.lt, ltL, AV.lt, ltL_ix]) haly ?_)
    | (refine hK _ _ _ ?_; clear hK K)
    | (refine CYx.r fun K hK => ?_; simp (maxSteps := 4000000) (disch := omega) only [drY, Option.isNone_none, Option.isNone_some, dr0, dr1, dr2, dr3, dr4, if_true, if_false, Option.some.injEq, Nat.reduceEqDiff, Int.reduceToNat, Nat.reduceSub, Nat.reduceAdd, Nat.reduceMul, Nat.reduceLT, Nat.reduceLeDiff, reduceCtorEq, ↓reduceIte, catT, enc0, enc1, if_pos, if_neg])
    | (refine CYx.e fun K hK => ?_; simp (maxSteps := 4000000) (disch := omega) only [drY, Option.isNone_none, Option.isNone_some, dr0, dr1, dr2, dr3, dr4, if_true, if_false, Option.some.injEq, Nat.reduceEqDiff, Int.reduceToNat, Nat.reduceSub, Nat.reduceAdd, Nat.reduceMul, Nat.reduceLT, Nat.reduceLeDiff, reduceCtorEq, ↓reduceIte, catT, enc0, enc1, if_pos, if_neg])
    | (refine hK1 _ _ _ ?_; clear hK1 K1)
    | (refine hK _ _ _ rfl ?_; clear hK K; simp only [List.drop]; simp (maxSteps := 4000000) (disch := omega) only [drY, Option.isNone_none, Option.isNone_some, dr0, dr1, dr2, dr3, dr4, if_true, if_false, Option.some.injEq, Nat.reduceEqDiff, Int.reduceToNat, Nat.reduceSub, Nat.reduceAdd, Nat.reduceMul, Nat.reduceLT, Nat.reduceLeDiff, reduceCtorEq, ↓reduceIte, catT, enc0, enc1, if_pos, if_neg])
    | refine CYx.go ?_
    | refine CWx.goY ?_
    | refine YCx.yieldL hYy haly rfl rfl rfl (by simp only [evsA, evA_t, evA_c, Am.get, setPs, Am.set, Nat.reduceEqDiff, ↓reduceIte]; exact rfl) ?_
    | (refine gY_split _ _ _ _ _ _ _ (fun hb => ?_) (fun hb => ?_) <;> (try simp only [hb]) <;> (try simp only [bset0, reduceCtorEq] at hb) <;> first | omega | simp (maxSteps := 4000000) (disch := omega) only [drY, Option.isNone_none, Option.isNone_some, dr0, dr1, dr2, dr3, dr4, if_true, if_false, Option.some.injEq, Nat.reduceEqDiff, Int.reduceToNat, Nat.reduceSub, Nat.reduceAdd, Nat.reduceMul, Nat.reduceLT, Nat.reduceLeDiff, reduceCtorEq, ↓reduceIte, catT, enc0, enc1, if_pos, if_neg])
    | (refine CYx.br rfl (fun hb => ?_) (fun hb => ?_) <;> first | exact Bool.noConfusion hb | (first | (simp only [bset0, reduceCtorEq] at hb; done) | ((try simp only [bset0, reduceCtorEq] at hb); first | omega | skip)))
    | (intro al2 hal2; show RYX _ _ _ _ _ _ _; simp (maxSteps := 4000000) (disch := omega) only [drY, Option.isNone_none, Option.isNone_some, dr0, dr1, dr2, dr3, dr4, if_true, if_false, Option.some.injEq, Nat.reduceEqDiff, Int.reduceToNat, Nat.reduceSub, Nat.reduceAdd, Nat.reduceMul, Nat.reduceLT, Nat.reduceLeDiff, reduceCtorEq, ↓reduceIte, catT, enc0, enc1, if_pos, if_neg])
    | (refine CWx.ret fun al2 hal2 => ?_; show RYX _ _ _ _ _ _ _; simp (maxSteps := 4000000) (disch := omega) only [drY, Option.isNone_none, Option.isNone_some, dr0, dr1, dr2, dr3, dr4, if_true, if_false, Option.some.injEq, Nat.reduceEqDiff, Int.reduceToNat, Nat.reduceSub, Nat.reduceAdd, Nat.reduceMul, Nat.reduceLT, Nat.reduceLeDiff, reduceCtorEq, ↓reduceIte, catT, enc0, enc1, if_pos, if_neg])
    | refine CYx.ret fun al2 hal2 => rangeEndN (.inr rfl) (by first | rfl | simp) (by simp only [List.length_cons, List.length_nil, Nat.reduceAdd, List.take]; exact rfl) (by simp [ltB, Blk.lt, ltL, AV.lt, lt_pts, lt_pt, lt_ixV, ltL_ix, ltL_pt]) haly ?_
    | refine CYx.ret fun al2 hal2 => rangeEndR (.inr rfl) (by first | rfl | simp) (by simp only [List.length_cons, List.length_nil, Nat.reduceAdd, List.take]; exact rfl) (by simp [ltB, Blk.lt, ltL, AV.lt, lt_pts, lt_pt, lt_ixV, ltL_ix, ltL_pt]) haly ?_
    | refine CYx.ret fun al2 hal2 => rangeEndX (.inr rfl) (by first | rfl | simp) (by simp only [List.length_cons, List.length_nil, Nat.reduceAdd, List.take]; exact rfl) (by simp [ltB, Blk.lt, ltL, AV.lt, lt_pts, lt_pt, lt_ixV, ltL_ix, ltL_pt]) haly ?_
    | refine fun al2 hal2 => rangeEndN (.inl rfl) (by first | rfl | simp) (by simp only [List.length_cons, List.length_nil, Nat.reduceAdd, List.take]; exact rfl) (by simp [ltB, Blk.lt, ltL, AV.lt, lt_pts, lt_pt, lt_ixV, ltL_ix, ltL_pt]) haly ?_
    | refine fun al2 hal2 => rangeEndR (.inl rfl) (by first | rfl | simp) (by simp only [List.length_cons, List.length_nil, Nat.reduceAdd, List.take]; exact rfl) (by simp [ltB, Blk.lt, ltL, AV.lt, lt_pts, lt_pt, lt_ixV, ltL_ix, ltL_pt]) haly ?_
    | refine fun al2 hal2 => rangeEndX (.inl rfl) (by first | rfl | simp) (by simp only [List.length_cons, List.length_nil, Nat.reduceAdd, List.take]; exact rfl) (by simp [ltB, Blk.lt, ltL, AV.lt, lt_pts, lt_pt, lt_ixV, ltL_ix, ltL_pt]) haly ?_
    | refine CYx.seq ?_
    | (refine CWx.range (fid := 94) rfl hf94 (by simp [cf94]) fun aly haly Yy hYy => ?_; simp only [cf94, argsAl])
    | (refine CYx.block (id := 0) ?_; refine CYx.loopK (ι := Nat) [0, 5, 6] (fun i => v.length - i) (fun i => [(7, .int .i64 (i : Int))]) (fun i => rowsC v i) (fun i => i ≤ v.length) (fun i => by simp only [keepA, Am.get, List.cons_append, List.nil_append, Nat.reduceEqDiff, ↓reduceIte]; exact rfl) (0) ?_ ?_ (fun i hi => ?_); (focus ((try dsimp only) <;> (first | trivial | omega | (refine ⟨?_, ?_⟩ <;> first | omega | trivial | simp_all) | simp_all); done)); (focus (refine Fgt.mk' 2 (by simp) ?_ ?_ ?_ <;> simp [-List.map_take, -List.map_map, AV.isY, ltL_append, ix_nil, keepB, Am.get, AV.lt, ltL, lt_pts, lt_pt, lt_ixV, ltL_ix, ltL_pt, Blk.lt, ltB, rowsC_zero]; done)); have Hi := hi; ((rcases i with _ | i <;> simp only [rowsC_zero, rowsC_succ])))
    | refine CYx.block (id := 1) ?_
    | refine CYx.skip ?_
    | (refine CYx.exit (id := 0) ?_; (have ei : i + 1 = v.length := by omega); (have et : v.take (i + 1) = v := List.take_of_length_le (by omega)); simp only [ei, List.take_length])
    | refine CYx.exit ?_
    | (intro al hal; refine ⟨rfl, 1, ?_, ?_, Fgt.ofx hal ?_⟩; (focus (first | omega | (dsimp only; omega))); (focus ((try dsimp only) <;> (first | trivial | omega | (refine ⟨?_, ?_⟩ <;> first | omega | trivial | simp_all) | simp_all); done)); (focus (refine Fgt.mk' 4 (by simp) ?_ ?_ ?_ <;> simp [-List.map_take, -List.map_map, AV.isY, ltL_append, ix_nil, keepB, Am.get, AV.lt, ltL, lt_pts, lt_pt, lt_ixV, ltL_ix, ltL_pt, Blk.lt, ltB, rowsC_one v h0]; done)))
    | (intro al hal; refine ⟨rfl, i + 1 + 1, ?_, ?_, Fgt.ofx hal ?_⟩; (focus (first | omega | (dsimp only; omega))); (focus ((try dsimp only) <;> (first | trivial | omega | (refine ⟨?_, ?_⟩ <;> first | omega | trivial | simp_all) | simp_all); done)); (focus (refine Fgt.mk' 4 (by simp) ?_ ?_ ?_ <;> simp [-List.map_take, -List.map_map, AV.isY, ltL_append, ix_nil, keepB, Am.get, AV.lt, ltL, lt_pts, lt_pt, lt_ixV, ltL_ix, ltL_pt, Blk.lt, ltB, rowsC_succ, take_succN v (show i + 1 < v.length by omega)]; done)))
    | (refine fun al3 hal3 => finK_ext hal3 (finK_pure (.inr rfl) (by simp only [resRV, Am.get, Nat.reduceEqDiff, ↓reduceIte]; exact rfl) ?_ ?_); (focus (first | (rfl; done) | ((simp only [tupAV]; congr <;> omega); done) | (simp [tupAV, *]; done))); (focus (first | rfl | (simp [AV.allR, allRL, allRL_ix]; done))))
end Go.Hull
end
section
set_option linter.unusedSimpArgs false
set_option linter.unusedVariables false
set_option maxHeartbeats 8000000
set_option maxRecDepth 100000
namespace Go.Hull
open Go Go.Am Go.Proofs

theorem c92 (v : List Nat) (h0 : 0 < v.length) (hn : v.length < 100000) : CallsF Try.prog 92 [.clo 94 [.rp true [ixV v]]] [] (.sl 0 0 0 v.length) [.row false 0 false 1 (ix v)] := by
  refine callsF_cwx hm hf92 (by simp [cf92]) ?_
  simp only [cf92, argsAl]
  repeat' first
    | (refine hK _ _ _ (by first | exact fun h => Bool.noConfusion h | exact fun _ => rfl) ?_; clear hK K)
    | (refine CWx.r fun K hK => ?_; simp (maxSteps := 4000000) (disch := omega) only [dr0, dr1, dr2, dr3, dr4, if_true, if_false, Option.some.injEq, Nat.reduceEqDiff, Int.reduceToNat, Nat.reduceSub, Nat.reduceAdd, Nat.reduceMul, Nat.reduceLT, Nat.reduceLeDiff, reduceCtorEq, ↓reduceIte, catT, enc0, enc1, if_pos, if_neg, AV.ren, ren_row_ix])
    | refine CWx.go ?_
    | (refine RCx.viewR (fid := 108) (caps := []) (X := [.nils, .clo 94 [.rp true [ixV v]]]) rfl rfl (viewArgs2 (show viewG _ 6 .nils = some (.nils, []) from rfl) (viewG_flat (flat_cx v 94) _)) (c108 v h0 hn) (by simp only [AV.clean, clean_ix, Bool.and_self]) ?_; simp (maxSteps := 4000000) (disch := omega) only [dr0, dr1, dr2, dr3, dr4, if_true, if_false, Option.some.injEq, Nat.reduceEqDiff, Int.reduceToNat, Nat.reduceSub, Nat.reduceAdd, Nat.reduceMul, Nat.reduceLT, Nat.reduceLeDiff, reduceCtorEq, ↓reduceIte, catT, enc0, enc1, if_pos, if_neg, AV.ren, ren_row_ix])
    | (refine gX_split (fun hb => ?_) (fun hb => ?_) <;> (try simp only [hb]) <;> (try simp only [bset0, reduceCtorEq] at hb) <;> simp (maxSteps := 4000000) (disch := omega) only [dr0, dr1, dr2, dr3, dr4, if_true, if_false, Option.some.injEq, Nat.reduceEqDiff, Int.reduceToNat, Nat.reduceSub, Nat.reduceAdd, Nat.reduceMul, Nat.reduceLT, Nat.reduceLeDiff, reduceCtorEq, ↓reduceIte, catT, enc0, enc1, if_pos, if_neg, AV.ren, ren_row_ix])
    | (refine CWx.br rfl (fun hb => ?_) (fun hb => ?_) <;> first | exact Bool.noConfusion hb | (first | (simp only [bset0, reduceCtorEq] at hb; done) | ((try simp only [bset0, reduceCtorEq] at hb); first | contradiction | skip)))
    | (refine CWx.e fun K hK => ?_; simp (maxSteps := 4000000) (disch := omega) only [dr0, dr1, dr2, dr3, dr4, if_true, if_false, Option.some.injEq, Nat.reduceEqDiff, Int.reduceToNat, Nat.reduceSub, Nat.reduceAdd, Nat.reduceMul, Nat.reduceLT, Nat.reduceLeDiff, reduceCtorEq, ↓reduceIte, catT, enc0, enc1, if_pos, if_neg, AV.ren, ren_row_ix])
    | refine CWx.seq ?_
    | refine CWx.skip ?_
    | refine CWx.exit ?_
    | (refine CWx.ret fun al hal => finK_ext hal (finK_pure (.inr rfl) (by simp only [resRV, Am.get, Nat.reduceEqDiff, ↓reduceIte]; exact rfl) ?_ ?_); (focus (first | (rfl; done) | ((simp only [tupAV]; congr <;> omega); done) | (simp [tupAV, *]; done))); (focus (first | rfl | (simp [AV.allR, allRL, allRL_ix]; done))))
    | (refine CWx.ret fun al hal => finK_ext hal (finK_new (b := 1) (.inr rfl) (by simp only [resRV, Am.get, Nat.reduceEqDiff, ↓reduceIte]; exact rfl) rfl (by first | exact allRL_ix _ _ _ | exact allRL_pts _ _ _ | rfl) ?_ ?_) <;> (simp [tupAV, AV.allR, allRL, sigP, AV.mapR, mapRL, sigF]; done))
theorem insort_len (lt : Nat → Nat → Bool) (xs : List Nat) : (insort lt xs).length = xs.length := by
  unfold insort
  generalize xs.length - 1 = k
  have : ∀ (k i : Nat) (ys : List Nat), (outer lt k i ys).length = ys.length := by
    intro k
    induction k with
    | zero => intro i ys; rfl
    | succ k ih => intro i ys; rw [outer, ih, inner_length]
  exact this _ _ _
theorem c63 (v : List Nat) (h0 : 0 < v.length) (hn : v.length ≤ 8) : CallsF Try.prog 63 [.clo 94 [.rp true [ixV v]]] [] (.sl 0 0 0 v.length) [.row false 0 false 1 (ix (insort ltN v))] := by
  refine callsF_cwx hm hf63 (by simp [cf63]) ?_
  simp only [cf63, argsAl]
  repeat' first
    | (refine hK _ _ _ (by first | exact fun h => Bool.noConfusion h | exact fun _ => rfl) ?_; clear hK K)
    | (refine CWx.r fun K hK => ?_; simp (maxSteps := 4000000) (disch := omega) only [dr0, dr1, dr2, dr3, dr4, if_true, if_false, Option.some.injEq, Nat.reduceEqDiff, Int.reduceToNat, Nat.reduceSub, Nat.reduceAdd, Nat.reduceMul, Nat.reduceLT, Nat.reduceLeDiff, reduceCtorEq, ↓reduceIte, catT, enc0, enc1, if_pos, if_neg, AV.ren, ren_row_ix])
    | refine CWx.go ?_
    | (refine RCx.viewR (fid := 92) (caps := []) rfl rfl (viewArgs1 (viewG_flat (flat_cx v 94) _)) (c92 v h0 (by omega)) (by simp only [AV.clean, clean_ix, Bool.and_self]) ?_; simp (maxSteps := 4000000) (disch := omega) only [dr0, dr1, dr2, dr3, dr4, if_true, if_false, Option.some.injEq, Nat.reduceEqDiff, Int.reduceToNat, Nat.reduceSub, Nat.reduceAdd, Nat.reduceMul, Nat.reduceLT, Nat.reduceLeDiff, reduceCtorEq, ↓reduceIte, catT, enc0, enc1, if_pos, if_neg, AV.ren, ren_row_ix])
    | (refine RCx.one (fid := 93) (caps := []) rfl rfl (b := 1) (.cons (.row 0 0 v.length) .nil) (c93 0 v hn) (by simp) rfl (by simp only [Blk.lt, ltL_ix]) rfl (by simp only [Blk.lt, ltL_ix]) (by simp only [Blk.clean, cleanL_ix]) ?_; simp (maxSteps := 4000000) (disch := omega) only [dr0, dr1, dr2, dr3, dr4, if_true, if_false, Option.some.injEq, Nat.reduceEqDiff, Int.reduceToNat, Nat.reduceSub, Nat.reduceAdd, Nat.reduceMul, Nat.reduceLT, Nat.reduceLeDiff, reduceCtorEq, ↓reduceIte, catT, enc0, enc1, if_pos, if_neg, AV.ren, ren_row_ix])
    | (refine gX_split (fun hb => ?_) (fun hb => ?_) <;> (try simp only [hb]) <;> (try simp only [bset0, reduceCtorEq] at hb) <;> simp (maxSteps := 4000000) (disch := omega) only [dr0, dr1, dr2, dr3, dr4, if_true, if_false, Option.some.injEq, Nat.reduceEqDiff, Int.reduceToNat, Nat.reduceSub, Nat.reduceAdd, Nat.reduceMul, Nat.reduceLT, Nat.reduceLeDiff, reduceCtorEq, ↓reduceIte, catT, enc0, enc1, if_pos, if_neg, AV.ren, ren_row_ix])
    | (refine CWx.br rfl (fun hb => ?_) (fun hb => ?_) <;> first | exact Bool.noConfusion hb | (first | (simp only [bset0, reduceCtorEq] at hb; done) | ((try simp only [bset0, reduceCtorEq] at hb); first | contradiction | skip)))
    | (refine CWx.e fun K hK => ?_; simp (maxSteps := 4000000) (disch := omega) only [dr0, dr1, dr2, dr3, dr4, if_true, if_false, Option.some.injEq, Nat.reduceEqDiff, Int.reduceToNat, Nat.reduceSub, Nat.reduceAdd, Nat.reduceMul, Nat.reduceLT, Nat.reduceLeDiff, reduceCtorEq, ↓reduceIte, catT, enc0, enc1, if_pos, if_neg, AV.ren, ren_row_ix])
    | refine CWx.seq ?_
    | refine CWx.skip ?_
    | refine CWx.exit ?_
    | (refine CWx.ret fun al hal => finK_ext hal (finK_pure (.inr rfl) (by simp only [resRV, Am.get, Nat.reduceEqDiff, ↓reduceIte]; exact rfl) ?_ ?_); (focus (first | (rfl; done) | ((simp only [tupAV]; congr <;> omega); done) | (simp [tupAV, *]; done))); (focus (first | rfl | (simp [AV.allR, allRL, allRL_ix]; done))))
    | (refine CWx.ret fun al hal => finK_ext hal (finK_new (b := 1) (.inr rfl) (by simp only [resRV, Am.get, Nat.reduceEqDiff, ↓reduceIte]; exact rfl) rfl (by first | exact allRL_ix _ _ _ | exact allRL_pts _ _ _ | rfl) ?_ ?_) <;> (simp [tupAV, AV.allR, allRL, sigP, AV.mapR, mapRL, sigF]; done))
/-- a is highest and b lowest in the k-th direction square to the way from an end to a point. -/
def opC (v E : List Pt) (a b : Pt) (e x k : Nat) : Bool := decide (P v x ≠ P E e ∧ topN v (P (nrm (P E e) (P v x)) k) v.length = dot a (P (nrm (P E e) (P v x)) k) ∧ topN v (neg (P (nrm (P E e) (P v x)) k)) v.length = - dot b (P (nrm (P E e) (P v x)) k))
def oppB (v : List Pt) (a b : Pt) : Bool := (List.range 2).any fun e => (List.range v.length).any fun x => (List.range 2).any fun k => opC v [a, b] a b e x k
theorem oppB_iff (v : List Pt) (a b : Pt) : oppB v a b = true ↔ ∃ e, e < 2 ∧ ∃ x, x < v.length ∧ ∃ k, k < 2 ∧ opC v [a, b] a b e x k = true := by
  simp only [oppB, List.any_eq_true, List.mem_range]
theorem oppB_t {v : List Pt} {a b : Pt} {e x k : Nat} (he : e < 2) (hx : x < v.length) (hk : k < 2) (h : opC v [a, b] a b e x k = true) : oppB v a b = true := (oppB_iff v a b).2 ⟨e, he, x, hx, k, hk, h⟩
theorem oppB_f {v : List Pt} {a b : Pt} (h : ∀ e, e < 2 → ∀ x, x < v.length → ∀ k, k < 2 → opC v [a, b] a b e x k = false) : oppB v a b = false := by
  cases hq : oppB v a b with
  | false => rfl
  | true =>
    obtain ⟨e, he, x, hx, k, hk, h'⟩ := (oppB_iff v a b).1 hq
    rw [h e he x hx k hk] at h'; cases h'
theorem fld_quad (p q : Pt) (k : Nat) (h : k < 2) : fldAV (k * 2) true 2 (quad (sub q p)) = some (pt (P (nrm p q) k)) := by
  have : k = 0 ∨ k = 1 := by omega
  rcases this with rfl | rfl <;> rfl
theorem P2_ok {a b : Pt} (ha : okP a = true) (hb : okP b = true) (e : Nat) (h : e < 2) : okP (P [a, b] e) = true := by
  have : e = 0 ∨ e = 1 := by omega
  rcases this with rfl | rfl
  · exact ha
  · exact hb
theorem c65 (v : List Pt) (a b : Pt) (hl : 0 < v.length) (hn : v.length < 100000) (okv : v.all okP = true) (oka : okP a = true) (okb : okP b = true) : CallsF Try.prog 65 [pts v, pt a, pt b] [] (.bool (oppB v a b)) [] := by
  have qv := ok_P okv
  obtain ⟨E, hE⟩ : ∃ E : List Pt, E = [a, b] := ⟨_, rfl⟩
  have qe := P2_ok oka okb
  rw [← hE] at qe
  have sv : ∀ p ∈ v, smallV p := fun p hp => ok_small (List.all_eq_true.1 okv p hp)
  have sn : ∀ e x k, e < 2 → x < v.length → k < 2 → smallV (P (nrm (P E e) (P v x)) k) := fun e x k he hx hk => nrm_sm (qe e he) (qv x hx) k hk
  have dn : ∀ e x k, e < 2 → x < v.length → k < 2 → -80000000000 ≤ dot b (P (nrm (P E e) (P v x)) k) ∧ dot b (P (nrm (P E e) (P v x)) k) ≤ 80000000000 := fun e x k he hx hk => dot_bd (ok_small okb) (sn e x k he hx hk)
  have hlen2 : E.length = 2 := by rw [hE]; rfl
  refine callsF_cwx hm hf65 (by simp [cf65]) ?_
  simp only [cf65, argsAl]
  repeat' first
    | (refine hK _ _ _ (by first | exact fun h => Bool.noConfusion h | exact fun _ => rfl) ?_; clear hK K)
    | (refine CWx.r fun K hK => ?_; simp (maxSteps := 4000000) (disch := omega) only [dr0, dr1, dr2, dr3, dr4, if_true, if_false, Option.some.injEq, Nat.reduceEqDiff, Int.reduceToNat, Nat.reduceSub, Nat.reduceAdd, Nat.reduceMul, Nat.reduceLT, Nat.reduceLeDiff, reduceCtorEq, ↓reduceIte, catT, enc0, enc1, if_pos, if_neg, fld_quad, hlen2, Int.zero_sub])
    | refine CWx.go ?_
    | (apply RCx.view (fid := 95) (caps := []) rfl rfl; (focus ((simp only [evsA, evA_t, evA_c, Am.get, Nat.reduceEqDiff, ↓reduceIte, List.nil_append, List.cons_append, List.append_nil]; repeat' first | exact viewArgs_nil | apply viewArgs_cons | exact viewG_flat (flat_pts _ _) _ | exact viewG_flat (flat_ixV _ _) _ | exact viewG_flat (flat_sv _ _) _ | exact viewG_ixT rfl (by assumption) (by omega) | exact viewG_ptsL rfl (by first | omega | (simp; done) | (simp; omega)) | exact viewG_ix rfl (by first | omega | (simp; omega)) | exact viewG_flat rfl _; done))); (focus (refine c95 (qe _ ?_) (qv _ ?_) <;> first | omega | assumption)); (focus rfl); simp (maxSteps := 4000000) (disch := omega) only [dr0, dr1, dr2, dr3, dr4, if_true, if_false, Option.some.injEq, Nat.reduceEqDiff, Int.reduceToNat, Nat.reduceSub, Nat.reduceAdd, Nat.reduceMul, Nat.reduceLT, Nat.reduceLeDiff, reduceCtorEq, ↓reduceIte, catT, enc0, enc1, if_pos, if_neg, fld_quad, hlen2, Int.zero_sub])
    | (apply RCx.view (fid := 61) (caps := []) rfl rfl; (focus ((simp only [evsA, evA_t, evA_c, Am.get, Nat.reduceEqDiff, ↓reduceIte, List.nil_append, List.cons_append, List.append_nil]; repeat' first | exact viewArgs_nil | apply viewArgs_cons | exact viewG_flat (flat_pts _ _) _ | exact viewG_flat (flat_ixV _ _) _ | exact viewG_flat (flat_sv _ _) _ | exact viewG_ixT rfl (by assumption) (by omega) | exact viewG_ptsL rfl (by first | omega | (simp; done) | (simp; omega)) | exact viewG_ix rfl (by first | omega | (simp; omega)) | exact viewG_flat rfl _; done))); (focus (refine c61 v (P (nrm (P E e) (P v x)) k) hl ?_ sv (sn _ _ _ ?_ ?_ ?_) <;> first | omega | assumption)); (focus rfl); simp (maxSteps := 4000000) (disch := omega) only [dr0, dr1, dr2, dr3, dr4, if_true, if_false, Option.some.injEq, Nat.reduceEqDiff, Int.reduceToNat, Nat.reduceSub, Nat.reduceAdd, Nat.reduceMul, Nat.reduceLT, Nat.reduceLeDiff, reduceCtorEq, ↓reduceIte, catT, enc0, enc1, if_pos, if_neg, fld_quad, hlen2, Int.zero_sub])
    | (apply RCx.view (fid := 61) (caps := []) rfl rfl; (focus ((simp only [evsA, evA_t, evA_c, Am.get, Nat.reduceEqDiff, ↓reduceIte, List.nil_append, List.cons_append, List.append_nil]; repeat' first | exact viewArgs_nil | apply viewArgs_cons | exact viewG_flat (flat_pts _ _) _ | exact viewG_flat (flat_ixV _ _) _ | exact viewG_flat (flat_sv _ _) _ | exact viewG_ixT rfl (by assumption) (by omega) | exact viewG_ptsL rfl (by first | omega | (simp; done) | (simp; omega)) | exact viewG_ix rfl (by first | omega | (simp; omega)) | exact viewG_flat rfl _; done))); (focus (refine c61 v (neg (P (nrm (P E e) (P v x)) k)) hl ?_ sv (neg_small (sn _ _ _ ?_ ?_ ?_)) <;> first | omega | assumption)); (focus rfl); simp (maxSteps := 4000000) (disch := omega) only [dr0, dr1, dr2, dr3, dr4, if_true, if_false, Option.some.injEq, Nat.reduceEqDiff, Int.reduceToNat, Nat.reduceSub, Nat.reduceAdd, Nat.reduceMul, Nat.reduceLT, Nat.reduceLeDiff, reduceCtorEq, ↓reduceIte, catT, enc0, enc1, if_pos, if_neg, fld_quad, hlen2, Int.zero_sub])
    | (apply RCx.view (fid := 56) (caps := []) rfl rfl; (focus ((simp only [evsA, evA_t, evA_c, Am.get, Nat.reduceEqDiff, ↓reduceIte, List.nil_append, List.cons_append, List.append_nil]; repeat' first | exact viewArgs_nil | apply viewArgs_cons | exact viewG_flat (flat_pts _ _) _ | exact viewG_flat (flat_ixV _ _) _ | exact viewG_flat (flat_sv _ _) _ | exact viewG_ixT rfl (by assumption) (by omega) | exact viewG_ptsL rfl (by first | omega | (simp; done) | (simp; omega)) | exact viewG_ix rfl (by first | omega | (simp; omega)) | exact viewG_flat rfl _; done))); (focus (refine c56' (ok_small oka) (sn _ _ _ ?_ ?_ ?_) <;> first | omega | assumption)); (focus rfl); simp (maxSteps := 4000000) (disch := omega) only [dr0, dr1, dr2, dr3, dr4, if_true, if_false, Option.some.injEq, Nat.reduceEqDiff, Int.reduceToNat, Nat.reduceSub, Nat.reduceAdd, Nat.reduceMul, Nat.reduceLT, Nat.reduceLeDiff, reduceCtorEq, ↓reduceIte, catT, enc0, enc1, if_pos, if_neg, fld_quad, hlen2, Int.zero_sub])
    | (apply RCx.view (fid := 56) (caps := []) rfl rfl; (focus ((simp only [evsA, evA_t, evA_c, Am.get, Nat.reduceEqDiff, ↓reduceIte, List.nil_append, List.cons_append, List.append_nil]; repeat' first | exact viewArgs_nil | apply viewArgs_cons | exact viewG_flat (flat_pts _ _) _ | exact viewG_flat (flat_ixV _ _) _ | exact viewG_flat (flat_sv _ _) _ | exact viewG_ixT rfl (by assumption) (by omega) | exact viewG_ptsL rfl (by first | omega | (simp; done) | (simp; omega)) | exact viewG_ix rfl (by first | omega | (simp; omega)) | exact viewG_flat rfl _; done))); (focus (refine c56' (ok_small okb) (sn _ _ _ ?_ ?_ ?_) <;> first | omega | assumption)); (focus rfl); simp (maxSteps := 4000000) (disch := omega) only [dr0, dr1, dr2, dr3, dr4, if_true, if_false, Option.some.injEq, Nat.reduceEqDiff, Int.reduceToNat, Nat.reduceSub, Nat.reduceAdd, Nat.reduceMul, Nat.reduceLT, Nat.reduceLeDiff, reduceCtorEq, ↓reduceIte, catT, enc0, enc1, if_pos, if_neg, fld_quad, hlen2, Int.zero_sub])
    | (refine gX_split (fun hb => ?_) (fun hb => ?_) <;> (try simp only [hb]) <;> (try simp only [bset0, reduceCtorEq] at hb) <;> first | omega | simp (maxSteps := 4000000) (disch := omega) only [dr0, dr1, dr2, dr3, dr4, if_true, if_false, Option.some.injEq, Nat.reduceEqDiff, Int.reduceToNat, Nat.reduceSub, Nat.reduceAdd, Nat.reduceMul, Nat.reduceLT, Nat.reduceLeDiff, reduceCtorEq, ↓reduceIte, catT, enc0, enc1, if_pos, if_neg, fld_quad, hlen2, Int.zero_sub])
    | (refine CWx.br rfl (fun hb => ?_) (fun hb => ?_) <;> first | exact Bool.noConfusion hb | (first | (simp only [bset0, reduceCtorEq] at hb; done) | ((try simp only [bset0, reduceCtorEq] at hb); first | omega | skip)))
    | (refine CWx.e fun K hK => ?_; simp (maxSteps := 4000000) (disch := omega) only [dr0, dr1, dr2, dr3, dr4, if_true, if_false, Option.some.injEq, Nat.reduceEqDiff, Int.reduceToNat, Nat.reduceSub, Nat.reduceAdd, Nat.reduceMul, Nat.reduceLT, Nat.reduceLeDiff, reduceCtorEq, ↓reduceIte, catT, enc0, enc1, if_pos, if_neg, fld_quad, hlen2, Int.zero_sub])
    | (refine CWx.block (id := 0) ?_; refine CWx.loopK (ι := Nat) [0, 4, 5, 15, 16] (fun e => 2 - e) (fun e => [(17, .int .i64 (e : Int))]) (fun e => [.row false 0 false 2 [pt a], .row false 0 false 2 [pt b], .row false 0 false 2 (E.map pt)]) (fun e => e ≤ 2 ∧ ∀ e', e' < e → ∀ x, x < v.length → ∀ k, k < 2 → opC v E a b e' x k = false) (fun i => by simp only [keepA, Am.get, List.cons_append, List.nil_append, Nat.reduceEqDiff, ↓reduceIte]; exact rfl) (0) ?_ ?_ (fun e hi => ?_); (focus ((try dsimp only) <;> (first | trivial | omega | (refine ⟨?_, ?_⟩ <;> first | omega | trivial | simp_all) | simp_all); done)); (focus (refine Fgt.mk' 3 (by simp) ?_ ?_ ?_ <;> simp [-List.map_take, -List.map_map, AV.isY, ltL_append, ix_nil, keepB, Am.get, AV.lt, ltL, lt_pts, lt_pt, lt_ixV, ltL_ix, ltL_pt, Blk.lt, ltB, hE]; done)); have He := hi; (skip))
    | (refine CWx.block (id := 2) ?_; refine CWx.loopK (ι := Nat) [0, 4, 5, 8, 15, 16, 17, 21, 22] (fun x => v.length - x) (fun x => [(23, .int .i64 (x : Int))]) (fun x => [.row false 0 false 2 [pt a], .row false 0 false 2 [pt b], .row false 0 false 2 (E.map pt), .row false 0 false 2 [pt (P E e)]]) (fun x => x ≤ v.length ∧ ∀ x', x' < x → ∀ k, k < 2 → opC v E a b e x' k = false) (fun i => by simp only [keepA, Am.get, List.cons_append, List.nil_append, Nat.reduceEqDiff, ↓reduceIte]; exact rfl) (0) ?_ ?_ (fun x hi => ?_); (focus ((try dsimp only) <;> (first | trivial | omega | (refine ⟨?_, ?_⟩ <;> first | omega | trivial | simp_all) | simp_all); done)); (focus (refine Fgt.mk' 4 (by simp) ?_ ?_ ?_ <;> simp [-List.map_take, -List.map_map, AV.isY, ltL_append, ix_nil, keepB, Am.get, AV.lt, ltL, lt_pts, lt_pt, lt_ixV, ltL_ix, ltL_pt, Blk.lt, ltB]; done)); have Hx := hi; (skip))
    | (refine CWx.block (id := 4) ?_; refine CWx.loopK (ι := Nat) [0, 4, 5, 8, 10, 15, 16, 17, 21, 22, 23, 29] (fun k => 2 - k) (fun k => [(30, .int .i64 (k : Int))]) (fun k => [.row false 0 false 2 [pt a], .row false 0 false 2 [pt b], .row false 0 false 2 (E.map pt), .row false 0 false 2 [pt (P E e)], .row false 0 false 2 [pt (P v x)]]) (fun k => k ≤ 2 ∧ ∀ k', k' < k → opC v E a b e x k' = false) (fun i => by simp only [keepA, Am.get, List.cons_append, List.nil_append, Nat.reduceEqDiff, ↓reduceIte]; exact rfl) (0) ?_ ?_ (fun k hi => ?_); (focus ((try dsimp only) <;> (first | trivial | omega | (refine ⟨?_, ?_⟩ <;> first | omega | trivial | simp_all) | simp_all); done)); (focus (refine Fgt.mk' 5 (by simp) ?_ ?_ ?_ <;> simp [-List.map_take, -List.map_map, AV.isY, ltL_append, ix_nil, keepB, Am.get, AV.lt, ltL, lt_pts, lt_pt, lt_ixV, ltL_ix, ltL_pt, Blk.lt, ltB, quad]; done)); have Hk := hi; ((have hsd : k < 2 → (-200000 ≤ (P (nrm (P E e) (P v x)) k).1 ∧ (P (nrm (P E e) (P v x)) k).1 ≤ 200000) ∧ (-200000 ≤ (P (nrm (P E e) (P v x)) k).2 ∧ (P (nrm (P E e) (P v x)) k).2 ≤ 200000) := fun h => sn e x k (by omega) (by omega) h); (have hdb : k < 2 → -80000000000 ≤ dot b (P (nrm (P E e) (P v x)) k) ∧ dot b (P (nrm (P E e) (P v x)) k) ≤ 80000000000 := fun h => dn e x k (by omega) (by omega) h)))
    | refine CWx.seq ?_
    | refine CWx.block (id := 1) ?_
    | refine CWx.block (id := 3) ?_
    | refine CWx.block (id := 5) ?_
    | refine CWx.skip ?_
    | refine CWx.exit ?_
    | (refine CWx.ret fun al hal => finK_ext hal (finK_pure (.inr rfl) (by simp only [resRV, Am.get, Nat.reduceEqDiff, ↓reduceIte]; exact rfl) ?_ ?_); (focus (first | ((simp only [tupAV]; rw [oppB_t (v := v) (a := a) (b := b) (e := e) (x := x) (k := k) (by omega) (by omega) (by omega) (by rw [← hE]; simp only [opC, decide_eq_true_eq]; refine ⟨?_, ?_, ?_⟩ <;> first | omega | simp_all)]); done) | ((simp only [tupAV]; rw [oppB_f (v := v) (fun e' he => by rw [← hE]; exact hi.2 e' (by omega))]); done) | (rfl; done) | ((simp only [tupAV]; congr <;> omega); done) | (simp [tupAV, *]; done))); (focus (first | rfl | (simp [AV.allR, allRL, allRL_ix]; done))))
    | (intro al hal; refine ⟨k + 1, ?_, ?_, Fgt.ofx hal ?_⟩; (focus (first | omega | (dsimp only; omega))); (focus (exact ⟨by omega, allUp hi.2 (by simp only [opC, decide_eq_false_iff_not]; intro h; simp_all)⟩; done)); (focus (refine Fgt.mk' 5 (by simp) ?_ ?_ ?_ <;> simp [-List.map_take, -List.map_map, AV.isY, ltL_append, ix_nil, keepB, Am.get, AV.lt, ltL, lt_pts, lt_pt, lt_ixV, ltL_ix, ltL_pt, Blk.lt, ltB, quad]; done)))
    | (intro al hal; refine ⟨x + 1, ?_, ?_, Fgt.ofx hal ?_⟩; (focus (first | omega | (dsimp only; omega))); (focus (exact ⟨by omega, allUp Hx.2 (fun k' hk => hi.2 k' (by omega))⟩; done)); (focus (refine Fgt.mk' 4 (by simp) ?_ ?_ ?_ <;> simp [-List.map_take, -List.map_map, AV.isY, ltL_append, ix_nil, keepB, Am.get, AV.lt, ltL, lt_pts, lt_pt, lt_ixV, ltL_ix, ltL_pt, Blk.lt, ltB]; done)))
    | (intro al hal; refine ⟨e + 1, ?_, ?_, Fgt.ofx hal ?_⟩; (focus (first | omega | (dsimp only; omega))); (focus (exact ⟨by omega, allUp He.2 (fun x' hx => hi.2 x' (by omega))⟩; done)); (focus (refine Fgt.mk' 3 (by simp) ?_ ?_ ?_ <;> simp [-List.map_take, -List.map_map, AV.isY, ltL_append, ix_nil, keepB, Am.get, AV.lt, ltL, lt_pts, lt_pt, lt_ixV, ltL_ix, ltL_pt, Blk.lt, ltB, hE]; done)))
end Go.Hull
end
