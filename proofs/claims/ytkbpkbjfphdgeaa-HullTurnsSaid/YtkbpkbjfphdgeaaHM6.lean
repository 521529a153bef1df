/- The hull that is found turns as it should.
   Conditions: a few points, at least one. -/
import Derived.Test.YtkbpkbjfphdgeaaHM5
set_option linter.unusedVariables false
namespace Go.Hull

theorem chainS_mem {l : List Pt} {n : Nat} : ∀ (ord st : List Nat), (∀ x ∈ ord, x < n) → (∀ x ∈ st, x < n) → ∀ x ∈ ord.foldl (fun st i => i :: pop l i st) st, x < n := by
  intro ord
  induction ord with
  | nil => intro st _ h; exact h
  | cons o ord ih =>
    intro st h1 h2
    refine ih _ (fun x hx => h1 x (by simp [hx])) fun x hx => ?_
    rcases List.mem_cons.1 hx with rfl | hx
    · exact h1 _ (by simp)
    · exact pop_mem st h2 x hx

theorem getD_map_P (l : List Pt) (s : List Nat) {i : Nat} (hi : i < s.length) : (s.map (P l)).getD i (0, 0) = P l (s.getD i 0) := by
  simp [List.getD_eq_getElem?_getD, List.getElem?_eq_getElem hi]
theorem getD_rev (s : List Nat) {i : Nat} (hi : i < s.length) : s.reverse.getD i 0 = s.getD (s.length - 1 - i) 0 := by
  rw [List.getD_eq_getElem?_getD, List.getElem?_reverse hi, List.getD_eq_getElem?_getD]
theorem getD_map_neg (s : List Pt) (i : Nat) : (s.map neg).getD i (0, 0) = neg (s.getD i (0, 0)) := by
  simp only [List.getD_eq_getElem?_getD, List.getElem?_map]
  cases s[i]? <;> rfl

theorem Ch.congr {D D' : Pt → Prop} {A A' : Nat → Pt} {x x' : Nat} (h : Ch D A x) (hD : ∀ q, D' q ↔ D q) (hA : ∀ i, A' i = A i) (hx : x' = x) : Ch D' A' x' := by
  have e1 : D' = D := funext fun q => propext (hD q)
  have e2 : A' = A := funext hA
  rw [e1, e2, hx]; exact h

theorem Ch.pos {D : Pt → Prop} {A : Nat → Pt} {x : Nat} (h : Ch D A x) {p q : Pt} (hp : D p) (hq : D q) (hpq : before p q = true) : 0 < x := by
  cases x with
  | succ x => omega
  | zero =>
    have e : ∀ q, D q → q = A 0 := fun q hq => by
      rcases h.first q hq with e | e
      · exact e
      · rcases h.last q hq with e' | e'
        · exact e'
        · rw [before_asymm e] at e'; cases e'
    rw [e p hp, e q hq, before_irrefl] at hpq
    cases hpq

theorem two_of (ps : List Pt) (hne : ps ≠ []) (hp : ps.Pairwise (fun p q => before p q = true)) {p q : Pt} (h1 : p ∈ ps) (h2 : q ∈ ps) (hpq : before p q = true) :
    Two (· ∈ ps) (fun i => (chainP ps).getD ((chainP ps).length - 1 - i) (0, 0)) (fun i => (chainP ps.reverse).getD ((chainP ps.reverse).length - 1 - i) (0, 0)) ((chainP ps).length - 1) ((chainP ps.reverse).length - 1) := by
  have lo := (ready_chain hne hp).ch
  have hp' : (ps.reverse.map neg).Pairwise (fun p q => before p q = true) := by
    rw [List.pairwise_map, List.pairwise_reverse]
    exact hp.imp fun {a b} h => by rw [before_neg]; exact h
  have hi0 := (ready_chain (ps := ps.reverse.map neg) (by simpa using hne) hp').ch
  rw [← chainP_neg] at hi0
  have hi : Ch (fun q => neg q ∈ ps) (fun i => neg ((chainP ps.reverse).getD ((chainP ps.reverse).length - 1 - i) (0, 0))) ((chainP ps.reverse).length - 1) := by
    refine hi0.congr (fun q => ?_) (fun i => ?_) (by rw [List.length_map])
    · rw [List.mem_map]
      constructor
      · exact fun h => ⟨neg q, by simpa using h, neg_neg' q⟩
      · rintro ⟨a, ha, rfl⟩
        rw [neg_neg']; simpa using ha
    · rw [getD_map_neg, List.length_map]
  exact ⟨lo, hi, lo.pos h1 h2 hpq, hi.pos (p := neg q) (q := neg p) (by rw [neg_neg']; exact h2) (by rw [neg_neg']; exact h1) (by rw [before_neg]; exact hpq)⟩

theorem hullT (l : List Pt) (hl : 0 < l.length) : HullT l (hullI l) := by
  obtain ⟨a1, a2, a3, a4⟩ := compI_spec hl
  obtain ⟨d1, d2, d3⟩ := dist l
  have dl := distI_length hl
  by_cases h3 : (compI l).2 < 3
  · have hh : hullI l = distI l := by unfold hullI; rw [if_pos h3]
    rw [hh]
    obtain ⟨d, hd⟩ : ∃ d, d = distI l := ⟨_, rfl⟩
    rw [← hd] at d1 d2 d3 dl ⊢
    match d, d1, d2, d3, dl with
    | [], _, _, _, dl => simp at dl; omega
    | [a], d1, d2, d3, dl =>
      have e : ∀ p ∈ l, p = P l a := fun p hp => by have := d2 p hp; simpa using this
      exact ⟨by simp, by simp; omega, d3, fun p hp => by rw [e p hp]; exact before_irrefl _, fun h => by simp at h, fun h => by simp at h, fun h => by simp at h, fun h => by simp at h, fun _ => e⟩
    | [a, b], d1, d2, d3, dl =>
      have e : ∀ p ∈ l, p = P l a ∨ p = P l b := fun p hp => by have := d2 p hp; simpa using this
      have hab : before (P l a) (P l b) = true := by simpa using d1
      refine ⟨by simp, by simp at dl ⊢; omega, d3, fun p hp => ?_, fun h => by simp at h, fun h => by simp at h, fun _ i hi p hp => ?_, fun _ p hp => ?_, fun h => by simp at h⟩
      · rcases e p hp with rfl | rfl
        · exact before_irrefl _
        · exact before_asymm hab
      · match i, hi with
        | 0, _ =>
          show left (P l a) (P l b) p = 0
          rcases e p hp with rfl | rfl
          · exact left_self1 _ _
          · exact left_self2 _ _
        | 1, _ =>
          rw [show (1 + 1) % [a, b].length = 0 from by simp]
          show left (P l b) (P l a) p = 0
          rcases e p hp with rfl | rfl
          · exact left_self2 _ _
          · exact left_self1 _ _
      · show before (P l b) p = false
        rcases e p hp with rfl | rfl
        · exact before_asymm hab
        · exact before_irrefl _
    | a :: b :: c :: r, _, _, _, dl => simp at dl; omega
  · have hh : hullI l = ((chainS l (distI l)).reverse.take ((chainS l (distI l)).length - 1)) ++ ((chainS l (distI l).reverse).reverse.take ((chainS l (distI l).reverse).length - 1)) := by
      unfold hullI; rw [if_neg h3, revI_eq hl]
    obtain ⟨ps, hps⟩ : ∃ ps, ps = (distI l).map (P l) := ⟨_, rfl⟩
    obtain ⟨S, hS⟩ : ∃ S, S = chainS l (distI l) := ⟨_, rfl⟩
    obtain ⟨W, hW⟩ : ∃ W, W = chainS l (distI l).reverse := ⟨_, rfl⟩
    have hSp : S.map (P l) = chainP ps := by rw [hS, chain_map, hps]
    have hWp : W.map (P l) = chainP ps.reverse := by rw [hW, chain_map, hps, List.map_reverse]
    have hSm : ∀ x ∈ S, x < l.length := by rw [hS]; exact chainS_mem _ _ d3 (by simp)
    have hWm : ∀ x ∈ W, x < l.length := by rw [hW]; exact chainS_mem _ _ (fun x hx => d3 x (by simpa using hx)) (by simp)
    rw [← hS, ← hW] at hh
    rw [← hps] at d1 d2
    have pl : ps.length = (compI l).2 := by rw [hps, List.length_map, dl]
    have hne : ps ≠ [] := by intro e; rw [e] at pl; simp at pl; omega
    obtain ⟨p, q, hp, hq, hpq⟩ : ∃ p q, p ∈ ps ∧ q ∈ ps ∧ before p q = true := by
      match ps, pl, d1 with
      | [], pl, _ => simp at pl; omega
      | [a], pl, _ => simp at pl; omega
      | a :: b :: r, _, d1 => exact ⟨a, b, by simp, by simp, (List.pairwise_cons.1 d1).1 b (by simp)⟩
    have T := two_of ps hne d1 hp hq hpq
    rw [← hSp, ← hWp] at T
    simp only [List.length_map] at T
    obtain ⟨A, hA⟩ : ∃ A : Nat → Pt, A = fun i => (S.map (P l)).getD (S.length - 1 - i) (0, 0) := ⟨_, rfl⟩
    obtain ⟨B, hB⟩ : ∃ B : Nat → Pt, B = fun i => (W.map (P l)).getD (W.length - 1 - i) (0, 0) := ⟨_, rfl⟩
    rw [← hA, ← hB] at T
    obtain ⟨x, hx⟩ : ∃ x, x = S.length - 1 := ⟨_, rfl⟩
    obtain ⟨y, hy⟩ : ∃ y, y = W.length - 1 := ⟨_, rfl⟩
    rw [← hx, ← hy] at T hh
    have x1 := T.x1
    have y1 := T.y1
    obtain ⟨v, hv⟩ : ∃ v, v = hullI l := ⟨_, rfl⟩
    rw [← hv] at hh ⊢
    have l1 : (S.reverse.take x).length = x := by rw [List.length_take, List.length_reverse]; omega
    have l2 : (W.reverse.take y).length = y := by rw [List.length_take, List.length_reverse]; omega
    have hvl : v.length = x + y := by rw [hh, List.length_append, l1, l2]
    have vA : ∀ i, i < x → P l (v.getD i 0) = A i := fun i hi => by
      have : v.getD i 0 = S.reverse.getD i 0 := by
        rw [hh, List.getD_eq_getElem?_getD, List.getElem?_append_left (by omega), List.getElem?_take_of_lt hi, List.getD_eq_getElem?_getD]
      rw [this, getD_rev S (by omega), hA]
      exact (getD_map_P l S (by omega)).symm
    have vB : ∀ j, j < y → P l (v.getD (x + j) 0) = B j := fun j hj => by
      have : v.getD (x + j) 0 = W.reverse.getD j 0 := by
        rw [hh, List.getD_eq_getElem?_getD, List.getElem?_append_right (by omega), l1, show x + j - x = j by omega, List.getElem?_take_of_lt hj, List.getD_eq_getElem?_getD]
      rw [this, getD_rev W (by omega), hB]
      exact (getD_map_P l W (by omega)).symm
    have vm : ∀ z ∈ v, z < l.length := fun z hz => by
      rw [hh] at hz
      rcases List.mem_append.1 hz with h | h
      · exact hSm z (List.mem_reverse.1 (List.mem_of_mem_take h))
      · exact hWm z (List.mem_reverse.1 (List.mem_of_mem_take h))
    have lows : ∀ q, q ∈ ps → before q (A 0) = false := fun q hq => by
      rcases T.lo.first q hq with e | e
      · rw [e]; exact before_irrefl _
      · exact before_asymm e
    have V0 := vA 0 x1
    refine ⟨by omega, ?_, vm, fun p hp => by rw [V0]; exact lows p (d2 p hp), fun h i hi p hp => ?_, fun h i hi => ?_, fun h i hi p hp => ?_, fun h p hp => ?_, fun h => by omega⟩
    · have n1 : (v.map (P l)).Nodup := nodup_of_getD (d := (0, 0)) fun i k hik hk => by
        rw [List.length_map] at hk
        rw [getD_map_P l v (by omega), getD_map_P l v hk]
        exact T.apart' (V := fun i => P l (v.getD i 0)) vA vB hik (by omega)
      have n2 := length_le_of_nodup (v.map (P l)) ps n1 fun a ha => by
        obtain ⟨z, hz, rfl⟩ := List.mem_map.1 ha
        have := vm z hz
        exact d2 _ (by unfold P; rw [List.getD_eq_getElem?_getD, List.getElem?_eq_getElem this]; simp)
      rw [List.length_map, pl] at n2
      omega
    · rw [hvl] at hi ⊢
      exact T.edges (V := fun i => P l (v.getD i 0)) vA vB hi (d2 p hp)
    · rw [hvl] at hi h ⊢
      exact T.turning (V := fun i => P l (v.getD i 0)) vA vB h hi
    · rw [hvl] at h
      have e0 := T.edges (V := fun i => P l (v.getD i 0)) vA vB (i := 0) (by omega) (d2 p hp)
      have e1 := T.edges (V := fun i => P l (v.getD i 0)) vA vB (i := 1) (by omega) (d2 p hp)
      rw [h] at e0 e1
      simp only [Nat.zero_add, show 1 % 2 = 1 from rfl, show (1 + 1) % 2 = 0 from rfl] at e0 e1
      rw [left_swap] at e1
      have ee : left (P l (v.getD 0 0)) (P l (v.getD 1 0)) p = 0 := by omega
      rw [hvl, h]
      match i, hi with
      | 0, _ => exact ee
      | 1, _ =>
        show left (P l (v.getD 1 0)) (P l (v.getD 0 0)) p = 0
        rw [left_swap, ee]; rfl
    · rw [hvl] at h
      have V1 := vB 0 y1
      rw [show x + 0 = 1 by omega, ← T.join1] at V1
      rw [V1]
      rcases T.lo.last p (d2 p hp) with e | e
      · rw [e]; exact before_irrefl _
      · exact before_asymm e

theorem contract7 (l : List Pt) : Am.CallsF Proofs.Try.prog 7 [pts l] [] (.bool true) [] := c7 l fun hl _ _ => hullT l hl
end Go.Hull
