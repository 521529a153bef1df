/- The hull that is found turns as it should.
   Conditions: a few points, at least one. -/
import Derived.Test.YtkbpkbjfphdgeaaPart11
section
set_option linter.unusedVariables false
namespace Go.Hull

theorem chainS_mem {l : List Pt} {n : Nat} : ∀ (ord st : List Nat), (∀ x ∈ ord, x < n) → (∀ x ∈ st, x < n) → ∀ x ∈ ord.foldl (fun st i => i :: pop l i st) st, x < n := by
  intro ord
  induction ord with
  | nil => intro st _ h; exact h
  | cons o ord ih =>
    intro st h1 h2
    refine ih _ (fun x hx => h1 x (by simp [hx])) fun x hx => ?_
    rcases List.mem_cons.1 hx with rfl | hx
    · exact h1 _ (by simp)
    · exact pop_mem st h2 x hx
theorem getD_map_P (l : List Pt) (s : List Nat) {i : Nat} (hi : i < s.length) : (s.map (P l)).getD i (0, 0) = P l (s.getD i 0) := by
  simp [List.getD_eq_getElem?_getD, List.getElem?_eq_getElem hi]
theorem getD_rev (s : List Nat) {i : Nat} (hi : i < s.length) : s.reverse.getD i 0 = s.getD (s.length - 1 - i) 0 := by
  rw [List.getD_eq_getElem?_getD, List.getElem?_reverse hi, List.getD_eq_getElem?_getD]
theorem getD_map_neg (s : List Pt) (i : Nat) : (s.map neg).getD i (0, 0) = neg (s.getD i (0, 0)) := by
  simp only [List.getD_eq_getElem?_getD, List.getElem?_map]
  cases s[i]? <;> rfl
theorem Ch.congr {D D' : Pt → Prop} {A A' : Nat → Pt} {x x' : Nat} (h : Ch D A x) (hD : ∀ q, D' q ↔ D q) (hA : ∀ i, A' i = A i) (hx : x' = x) : Ch D' A' x' := by
  have e1 : D' = D := funext fun q => propext (hD q)
  have e2 : A' = A := funext hA
  rw [e1, e2, hx]; exact h
theorem Ch.pos {D : Pt → Prop} {A : Nat → Pt} {x : Nat} (h : Ch D A x) {p q : Pt} (hp : D p) (hq : D q) (hpq : before p q = true) : 0 < x := by
  cases x with
  | succ x => omega
  | zero =>
    have e : ∀ q, D q → q = A 0 := fun q hq => by
      rcases h.first q hq with e | e
      · exact e
      · rcases h.last q hq with e' | e'
        · exact e'
        · rw [before_asymm e] at e'; cases e'
    rw [e p hp, e q hq, before_irrefl] at hpq
    cases hpq
theorem two_of (ps : List Pt) (hne : ps ≠ []) (hp : ps.Pairwise (fun p q => before p q = true)) {p q : Pt} (h1 : p ∈ ps) (h2 : q ∈ ps) (hpq : before p q = true) :
    Two (· ∈ ps) (fun i => (chainP ps).getD ((chainP ps).length - 1 - i) (0, 0)) (fun i => (chainP ps.reverse).getD ((chainP ps.reverse).length - 1 - i) (0, 0)) ((chainP ps).length - 1) ((chainP ps.reverse).length - 1) := by
  have lo := (ready_chain hne hp).ch
  have hp' : (ps.reverse.map neg).Pairwise (fun p q => before p q = true) := by
    rw [List.pairwise_map, List.pairwise_reverse]
    exact hp.imp fun {a b} h => by rw [before_neg]; exact h
  have hi0 := (ready_chain (ps := ps.reverse.map neg) (by simpa using hne) hp').ch
  rw [← chainP_neg] at hi0
  have hi : Ch (fun q => neg q ∈ ps) (fun i => neg ((chainP ps.reverse).getD ((chainP ps.reverse).length - 1 - i) (0, 0))) ((chainP ps.reverse).length - 1) := by
    refine hi0.congr (fun q => ?_) (fun i => ?_) (by rw [List.length_map])
    · rw [List.mem_map]
      constructor
      · exact fun h => ⟨neg q, by simpa using h, neg_neg' q⟩
      · rintro ⟨a, ha, rfl⟩
        rw [neg_neg']; simpa using ha
    · rw [getD_map_neg, List.length_map]
  exact ⟨lo, hi, lo.pos h1 h2 hpq, hi.pos (p := neg q) (q := neg p) (by rw [neg_neg']; exact h2) (by rw [neg_neg']; exact h1) (by rw [before_neg]; exact hpq)⟩
theorem hullTN (l : List Pt) (hl : 0 < l.length) : HullT l (hullI l) ∧ ((hullI l).map (P l)).Nodup := by
  obtain ⟨a1, a2, a3, a4⟩ := compI_spec hl
  obtain ⟨d1, d2, d3⟩ := dist l
  have dl := distI_length hl
  by_cases h3 : (compI l).2 < 3
  · have hh : hullI l = distI l := by unfold hullI; rw [if_pos h3]
    rw [hh]
    refine ⟨?_, List.nodup_iff_pairwise_ne.2 (d1.imp fun {a b} h e => by rw [e, before_irrefl] at h; cases h)⟩
    obtain ⟨d, hd⟩ : ∃ d, d = distI l := ⟨_, rfl⟩
    rw [← hd] at d1 d2 d3 dl ⊢
    match d, d1, d2, d3, dl with
    | [], _, _, _, dl => simp at dl; omega
    | [a], d1, d2, d3, dl =>
      have e : ∀ p ∈ l, p = P l a := fun p hp => by have := d2 p hp; simpa using this
      exact ⟨by simp, by simp; omega, d3, fun p hp => by rw [e p hp]; exact before_irrefl _, fun h => by simp at h, fun h => by simp at h, fun h => by simp at h, fun h => by simp at h, fun _ => e⟩
    | [a, b], d1, d2, d3, dl =>
      have e : ∀ p ∈ l, p = P l a ∨ p = P l b := fun p hp => by have := d2 p hp; simpa using this
      have hab : before (P l a) (P l b) = true := by simpa using d1
      refine ⟨by simp, by simp at dl ⊢; omega, d3, fun p hp => ?_, fun h => by simp at h, fun h => by simp at h, fun _ i hi p hp => ?_, fun _ p hp => ?_, fun h => by simp at h⟩
      · rcases e p hp with rfl | rfl
        · exact before_irrefl _
        · exact before_asymm hab
      · match i, hi with
        | 0, _ =>
          show left (P l a) (P l b) p = 0
          rcases e p hp with rfl | rfl
          · exact left_self1 _ _
          · exact left_self2 _ _
        | 1, _ =>
          rw [show (1 + 1) % [a, b].length = 0 from by simp]
          show left (P l b) (P l a) p = 0
          rcases e p hp with rfl | rfl
          · exact left_self2 _ _
          · exact left_self1 _ _
      · show before (P l b) p = false
        rcases e p hp with rfl | rfl
        · exact before_asymm hab
        · exact before_irrefl _
    | a :: b :: c :: r, _, _, _, dl => simp at dl; omega
  · have hh : hullI l = ((chainS l (distI l)).reverse.take ((chainS l (distI l)).length - 1)) ++ ((chainS l (distI l).reverse).reverse.take ((chainS l (distI l).reverse).length - 1)) := by
      unfold hullI; rw [if_neg h3, revI_eq hl]
    obtain ⟨ps, hps⟩ : ∃ ps, ps = (distI l).map (P l) := ⟨_, rfl⟩
    obtain ⟨S, hS⟩ : ∃ S, S = chainS l (distI l) := ⟨_, rfl⟩
    obtain ⟨W, hW⟩ : ∃ W, W = chainS l (distI l).reverse := ⟨_, rfl⟩
    have hSp : S.map (P l) = chainP ps := by rw [hS, chain_map, hps]
    have hWp : W.map (P l) = chainP ps.reverse := by rw [hW, chain_map, hps, List.map_reverse]
    have hSm : ∀ x ∈ S, x < l.length := by rw [hS]; exact chainS_mem _ _ d3 (by simp)
    have hWm : ∀ x ∈ W, x < l.length := by rw [hW]; exact chainS_mem _ _ (fun x hx => d3 x (by simpa using hx)) (by simp)
    rw [← hS, ← hW] at hh
    rw [← hps] at d1 d2
    have pl : ps.length = (compI l).2 := by rw [hps, List.length_map, dl]
    have hne : ps ≠ [] := by intro e; rw [e] at pl; simp at pl; omega
    obtain ⟨p, q, hp, hq, hpq⟩ : ∃ p q, p ∈ ps ∧ q ∈ ps ∧ before p q = true := by
      match ps, pl, d1 with
      | [], pl, _ => simp at pl; omega
      | [a], pl, _ => simp at pl; omega
      | a :: b :: r, _, d1 => exact ⟨a, b, by simp, by simp, (List.pairwise_cons.1 d1).1 b (by simp)⟩
    have T := two_of ps hne d1 hp hq hpq
    rw [← hSp, ← hWp] at T
    simp only [List.length_map] at T
    obtain ⟨A, hA⟩ : ∃ A : Nat → Pt, A = fun i => (S.map (P l)).getD (S.length - 1 - i) (0, 0) := ⟨_, rfl⟩
    obtain ⟨B, hB⟩ : ∃ B : Nat → Pt, B = fun i => (W.map (P l)).getD (W.length - 1 - i) (0, 0) := ⟨_, rfl⟩
    rw [← hA, ← hB] at T
    obtain ⟨x, hx⟩ : ∃ x, x = S.length - 1 := ⟨_, rfl⟩
    obtain ⟨y, hy⟩ : ∃ y, y = W.length - 1 := ⟨_, rfl⟩
    rw [← hx, ← hy] at T hh
    have x1 := T.x1
    have y1 := T.y1
    obtain ⟨v, hv⟩ : ∃ v, v = hullI l := ⟨_, rfl⟩
    rw [← hv] at hh ⊢
    have l1 : (S.reverse.take x).length = x := by rw [List.length_take, List.length_reverse]; omega
    have l2 : (W.reverse.take y).length = y := by rw [List.length_take, List.length_reverse]; omega
    have hvl : v.length = x + y := by rw [hh, List.length_append, l1, l2]
    have vA : ∀ i, i < x → P l (v.getD i 0) = A i := fun i hi => by
      have : v.getD i 0 = S.reverse.getD i 0 := by
        rw [hh, List.getD_eq_getElem?_getD, List.getElem?_append_left (by omega), List.getElem?_take_of_lt hi, List.getD_eq_getElem?_getD]
      rw [this, getD_rev S (by omega), hA]
      exact (getD_map_P l S (by omega)).symm
    have vB : ∀ j, j < y → P l (v.getD (x + j) 0) = B j := fun j hj => by
      have : v.getD (x + j) 0 = W.reverse.getD j 0 := by
        rw [hh, List.getD_eq_getElem?_getD, List.getElem?_append_right (by omega), l1, show x + j - x = j by omega, List.getElem?_take_of_lt hj, List.getD_eq_getElem?_getD]
      rw [this, getD_rev W (by omega), hB]
      exact (getD_map_P l W (by omega)).symm
    have vm : ∀ z ∈ v, z < l.length := fun z hz => by
      rw [hh] at hz
      rcases List.mem_append.1 hz with h | h
      · exact hSm z (List.mem_reverse.1 (List.mem_of_mem_take h))
      · exact hWm z (List.mem_reverse.1 (List.mem_of_mem_take h))
    have lows : ∀ q, q ∈ ps → before q (A 0) = false := fun q hq => by
      rcases T.lo.first q hq with e | e
      · rw [e]; exact before_irrefl _
      · exact before_asymm e
    have V0 := vA 0 x1
    have n1 : (v.map (P l)).Nodup := nodup_of_getD (d := (0, 0)) fun i k hik hk => by
      rw [List.length_map] at hk
      rw [getD_map_P l v (by omega), getD_map_P l v hk]
      exact T.apart' (V := fun i => P l (v.getD i 0)) vA vB hik (by omega)
    refine ⟨⟨by omega, ?_, vm, fun p hp => by rw [V0]; exact lows p (d2 p hp), fun h i hi p hp => ?_, fun h i hi => ?_, fun h i hi p hp => ?_, fun h p hp => ?_, fun h => by omega⟩, n1⟩
    · have n2 := length_le_of_nodup (v.map (P l)) ps n1 fun a ha => by
        obtain ⟨z, hz, rfl⟩ := List.mem_map.1 ha
        have := vm z hz
        exact d2 _ (by unfold P; rw [List.getD_eq_getElem?_getD, List.getElem?_eq_getElem this]; simp)
      rw [List.length_map, pl] at n2
      omega
    · rw [hvl] at hi ⊢
      exact T.edges (V := fun i => P l (v.getD i 0)) vA vB hi (d2 p hp)
    · rw [hvl] at hi h ⊢
      exact T.turning (V := fun i => P l (v.getD i 0)) vA vB h hi
    · rw [hvl] at h
      have e0 := T.edges (V := fun i => P l (v.getD i 0)) vA vB (i := 0) (by omega) (d2 p hp)
      have e1 := T.edges (V := fun i => P l (v.getD i 0)) vA vB (i := 1) (by omega) (d2 p hp)
      rw [h] at e0 e1
      simp only [Nat.zero_add, show 1 % 2 = 1 from rfl, show (1 + 1) % 2 = 0 from rfl] at e0 e1
      rw [left_swap] at e1
      have ee : left (P l (v.getD 0 0)) (P l (v.getD 1 0)) p = 0 := by omega
      rw [hvl, h]
      match i, hi with
      | 0, _ => exact ee
      | 1, _ =>
        show left (P l (v.getD 1 0)) (P l (v.getD 0 0)) p = 0
        rw [left_swap, ee]; rfl
    · rw [hvl] at h
      have V1 := vB 0 y1
      rw [show x + 0 = 1 by omega, ← T.join1] at V1
      rw [V1]
      rcases T.lo.last p (d2 p hp) with e | e
      · rw [e]; exact before_irrefl _
      · exact before_asymm e
theorem hullT (l : List Pt) (hl : 0 < l.length) : HullT l (hullI l) := (hullTN l hl).1
end Go.Hull
end
section
set_option linter.unusedVariables false
namespace Go.Hull

def dot (u v : Pt) : Int := u.1 * v.1 + u.2 * v.2
structure HullV (l : List Pt) (v : List Nat) : Prop where
  T : HullT l v
  nd : (v.map (P l)).Nodup
  fst : ∀ i ∈ v, ∀ k, k < i → P l k ≠ P l i
theorem P_mem {l : List Pt} {i : Nat} (h : i < l.length) : P l i ∈ l := by
  unfold P; rw [List.getD_eq_getElem?_getD, List.getElem?_eq_getElem h]; simp
theorem HullT.pmem {l : List Pt} {v : List Nat} (h : HullT l v) {i : Nat} (hi : i < v.length) : P l (v.getD i 0) ∈ l := P_mem (getD_lt h.mem hi)
theorem HullV.inj {l : List Pt} {v : List Nat} (h : HullV l v) {i k : Nat} (hi : i < v.length) (hk : k < v.length) (e : P l (v.getD i 0) = P l (v.getD k 0)) : i = k := by
  have hn := h.nd
  rw [List.nodup_iff_pairwise_ne, List.pairwise_iff_getElem] at hn
  have g : ∀ (i k : Nat) (hi : i < v.length) (hk : k < v.length), i < k → P l (v.getD i 0) ≠ P l (v.getD k 0) := fun i k hi hk hik => by
    have := hn i k (by simpa using hi) (by simpa using hk) hik
    simpa [List.getD_eq_getElem?_getD, List.getElem?_eq_getElem hi, List.getElem?_eq_getElem hk] using this
  rcases Nat.lt_trichotomy i k with h1 | h1 | h1
  · exact absurd e (g i k hi hk h1)
  · exact h1
  · exact absurd e.symm (g k i hk hi h1)
theorem dot_self_pos {u : Pt} (h : u ≠ (0, 0)) : 0 < dot u u := by
  obtain ⟨a, b⟩ := u
  simp only [dot]
  have h1 : 0 ≤ a * a := by rcases Int.le_total 0 a with h | h; exact Int.mul_nonneg h h; exact Int.mul_nonneg_of_nonpos_of_nonpos h h
  have h2 : 0 ≤ b * b := by rcases Int.le_total 0 b with h | h; exact Int.mul_nonneg h h; exact Int.mul_nonneg_of_nonpos_of_nonpos h h
  by_cases ha : a = 0
  · by_cases hb : b = 0
    · exact absurd (by rw [ha, hb]) h
    · have : b * b ≠ 0 := fun e => by rcases Int.mul_eq_zero.1 e with e | e <;> exact hb e
      omega
  · have : a * a ≠ 0 := fun e => by rcases Int.mul_eq_zero.1 e with e | e <;> exact ha e
    omega
/-- On a line: what a vector turns against another, told by the line's direction. -/
theorem on_line {u z : Pt} (h : turn u z = 0) (w : Pt) : dot u u * turn w z = dot z u * turn w u := by
  obtain ⟨a, b⟩ := u
  obtain ⟨c, d⟩ := z
  obtain ⟨e, f⟩ := w
  simp only [turn, dot] at *
  grind
theorem left_self1' (a c : Pt) : left a a c = 0 := by simp only [left, turn, sub]; grind
theorem sub_zero {p q : Pt} : sub p q = (0, 0) → p = q := fun h => by
  simp only [sub, Prod.mk.injEq] at h
  exact Prod.ext (by omega) (by omega)
/-- A point on the line of a side is between its ends. -/
theorem HullT.seg {l : List Pt} {v : List Nat} (h : HullT l v) (hn : 2 < v.length) {i : Nat} (hi : i < v.length) {q : Pt} (hq : q ∈ l)
    (h0 : left (P l (v.getD i 0)) (P l (v.getD ((i + 1) % v.length) 0)) q = 0) :
    0 ≤ dot (sub q (P l (v.getD i 0))) (sub (P l (v.getD ((i + 1) % v.length) 0)) (P l (v.getD i 0))) ∧
    dot (sub q (P l (v.getD i 0))) (sub (P l (v.getD ((i + 1) % v.length) 0)) (P l (v.getD i 0))) ≤ dot (sub (P l (v.getD ((i + 1) % v.length) 0)) (P l (v.getD i 0))) (sub (P l (v.getD ((i + 1) % v.length) 0)) (P l (v.getD i 0))) := by
  have e1 : (i + 1) % v.length < v.length := Nat.mod_lt _ (by omega)
  have nxt := h.turns (by omega) i (by omega)
  have edg := h.big (by omega) ((i + 1) % v.length) (by omega) q hq
  have hp : ∃ k, k < v.length ∧ (k + 1) % v.length = i ∧ (k + 2) % v.length = (i + 1) % v.length := by
    by_cases h0 : i = 0
    · refine ⟨v.length - 1, by omega, ?_, ?_⟩
      · rw [show v.length - 1 + 1 = v.length by omega, Nat.mod_self, h0]
      · rw [show v.length - 1 + 2 = 1 + v.length by omega, Nat.add_mod_right, h0]
    · exact ⟨i - 1, by omega, by rw [show i - 1 + 1 = i by omega, Nat.mod_eq_of_lt hi], by rw [show i - 1 + 2 = i + 1 by omega]⟩
  obtain ⟨k, hk, hk1, hk2⟩ := hp
  have prv := h.turns (by omega) k (by omega)
  have edk := h.big (by omega) k (by omega) q hq
  rw [hk1, hk2] at prv
  rw [hk1] at edk
  have em : ((i + 1) % v.length + 1) % v.length = (i + 2) % v.length := by rw [Nat.mod_add_mod]
  rw [em] at edg
  generalize P l (v.getD i 0) = a at *
  generalize P l (v.getD ((i + 1) % v.length) 0) = b at *
  generalize P l (v.getD ((i + 2) % v.length) 0) = c at *
  generalize P l (v.getD k 0) = z at *
  have hu : sub b a ≠ (0, 0) := fun e => by
    rw [sub_zero e, left_self1'] at nxt; omega
  have uu := dot_self_pos hu
  have lz : turn (sub b a) (sub q a) = 0 := h0
  constructor
  · have k1 := on_line lz (sub a z)
    rw [← left_eq z a b] at k1
    rw [← left_eq z a q] at k1
    have k2 := Int.mul_nonneg (Int.le_of_lt uu) edk
    rw [k1] at k2
    exact Int.nonneg_of_mul_nonneg_left k2 prv
  · have k1 := on_line (u := sub b a) (z := sub q b) (by rw [show turn (sub b a) (sub q b) = turn (sub b a) (sub q a) from by simp only [turn, sub]; grind]; exact lz) (sub c b)
    have k2 : left b c q = turn (sub c b) (sub q b) := rfl
    rw [k2] at edg
    have k3 := Int.mul_nonneg (Int.le_of_lt uu) edg
    rw [k1] at k3
    have k4 : turn (sub c b) (sub b a) = - left a b c := by simp only [left, turn, sub]; grind
    rw [k4, Int.mul_neg, ← Int.neg_mul] at k3
    have k5 := Int.nonneg_of_mul_nonneg_left k3 nxt
    have k6 : dot (sub q b) (sub b a) = dot (sub q a) (sub b a) - dot (sub b a) (sub b a) := by simp only [dot, sub]; grind
    omega
theorem between_eq {u z : Pt} (h : turn u z = 0) (h1 : dot z u ≤ dot u u) (h2 : 0 ≤ dot u z) (h3 : dot u z ≤ dot z z) (h4 : 0 ≤ dot z u) (hu : u ≠ (0, 0)) (hz : z ≠ (0, 0)) : z = u := by
  have uu := dot_self_pos hu
  have zz := dot_self_pos hz
  have e1 : dot z u = dot u z := by simp only [dot]; grind
  have e2 : dot u u * dot z z = dot u z * dot u z + turn u z * turn u z := by simp only [dot, turn]; grind
  rw [h] at e2
  have e4 : dot (sub z u) (sub z u) = dot z z - 2 * dot u z + dot u u := by simp only [dot, sub]; grind
  have k1 : dot u z = dot u u := by
    rcases Int.lt_or_eq_of_le (e1 ▸ h1) with h' | h'
    · exfalso
      have p1 : dot u z * dot u z ≤ dot u z * dot z z := Int.mul_le_mul_of_nonneg_left h3 h2
      have p2 : dot u z * dot z z < dot u u * dot z z := Int.mul_lt_mul_of_pos_right h' zz
      omega
    · exact h'
  have k2 : dot z z = dot u u := by
    rw [k1] at e2
    have : dot u u * (dot z z - dot u u) = 0 := by rw [Int.mul_sub]; omega
    rcases Int.mul_eq_zero.1 this with e | e <;> omega
  have k3 : dot (sub z u) (sub z u) = 0 := by omega
  by_cases hs : sub z u = (0, 0)
  · exact sub_zero hs
  · have := dot_self_pos hs; omega
theorem uniq_step {l : List Pt} {v w : List Nat} (hv : HullV l v) (hw : HullV l w) (nv : 2 < v.length) (nw : 2 < w.length) {i j : Nat} (hi : i < v.length) (hj : j < w.length)
    (e : P l (v.getD i 0) = P l (w.getD j 0)) : P l (v.getD ((i + 1) % v.length) 0) = P l (w.getD ((j + 1) % w.length) 0) := by
  have i1 : (i + 1) % v.length < v.length := Nat.mod_lt _ (by omega)
  have j1 : (j + 1) % w.length < w.length := Nat.mod_lt _ (by omega)
  have m1 := hv.T.pmem i1
  have m2 := hw.T.pmem j1
  have a1 := hv.T.big nv i hi _ m2
  have a2 := hw.T.big nw j hj _ m1
  rw [← e] at a2
  have hs : left (P l (v.getD i 0)) (P l (w.getD ((j + 1) % w.length) 0)) (P l (v.getD ((i + 1) % v.length) 0)) = - left (P l (v.getD i 0)) (P l (v.getD ((i + 1) % v.length) 0)) (P l (w.getD ((j + 1) % w.length) 0)) := by
    simp only [left]; rw [turn_anti]
  have z1 : left (P l (v.getD i 0)) (P l (v.getD ((i + 1) % v.length) 0)) (P l (w.getD ((j + 1) % w.length) 0)) = 0 := by omega
  have z2 : left (P l (v.getD i 0)) (P l (w.getD ((j + 1) % w.length) 0)) (P l (v.getD ((i + 1) % v.length) 0)) = 0 := by omega
  have s1 := hv.T.seg nv hi m2 z1
  have s2 := hw.T.seg nw hj m1 (by rw [← e]; exact z2)
  rw [← e] at s2
  have u0 : sub (P l (v.getD ((i + 1) % v.length) 0)) (P l (v.getD i 0)) ≠ (0, 0) := fun h => by
    have t := hv.T.turns nv i hi
    rw [sub_zero h, left_self1'] at t
    omega
  have w0 : sub (P l (w.getD ((j + 1) % w.length) 0)) (P l (v.getD i 0)) ≠ (0, 0) := fun h => by
    have t := hw.T.turns nw j hj
    rw [← e, sub_zero h, left_self1'] at t
    omega
  have := between_eq (u := sub (P l (v.getD ((i + 1) % v.length) 0)) (P l (v.getD i 0))) (z := sub (P l (w.getD ((j + 1) % w.length) 0)) (P l (v.getD i 0))) z1 s1.2 s2.1 s2.2 s1.1 u0 w0
  simp only [sub, Prod.mk.injEq] at this
  exact (Prod.ext (by omega) (by omega)).symm
end Go.Hull
end
section
set_option linter.unusedVariables false
namespace Go.Hull

theorem HullV.two_ne {l : List Pt} {v : List Nat} (h : HullV l v) (h2 : v.length = 2) : before (P l (v.getD 0 0)) (P l (v.getD 1 0)) = true := by
  rcases before_false (h.T.first _ (h.T.pmem (i := 1) (by omega))) with e | e
  · have := h.inj (i := 0) (k := 1) (by omega) (by omega) e; omega
  · exact e
theorem uniq_big {l : List Pt} {v w : List Nat} (hv : HullV l v) (hw : HullV l w) (nv : 2 < v.length) : 2 < w.length := by
  have t := hv.T.turns nv 0 (by omega)
  have m0 := hv.T.pmem (i := 0) (by omega)
  have m1 := hv.T.pmem (i := (0 + 1) % v.length) (Nat.mod_lt _ (by omega))
  have m2 := hv.T.pmem (i := (0 + 2) % v.length) (Nat.mod_lt _ (by omega))
  by_cases h3 : 2 < w.length
  · exact h3
  by_cases h2 : w.length = 2
  · have hb := before_iff.1 (hw.two_ne h2)
    have f := hw.T.two h2 0 (by omega)
    have e1 : (0 + 1) % w.length = 1 := by rw [h2]
    rw [e1] at f
    rw [flat_left (D := (· ∈ l)) (u := sub (P l (w.getD 1 0)) (P l (w.getD 0 0))) (p := P l (w.getD 0 0)) hb (fun q hq => by
      have := f q hq
      have e : turn (sub (P l (w.getD 1 0)) (P l (w.getD 0 0))) (sub (P l (w.getD 0 0)) q) = - left (P l (w.getD 0 0)) (P l (w.getD 1 0)) q := by simp only [left, turn, sub]; grind
      rw [e, this]; rfl) m0 m1 m2] at t
    omega
  · have h1 : w.length = 1 := by have := hw.T.ne; omega
    have o := hw.T.one h1
    rw [o _ m0, o _ m1, left_self1'] at t
    omega
theorem uniq_pts {l : List Pt} {v w : List Nat} (hv : HullV l v) (hw : HullV l w) : w.length ≤ v.length ∧ ∀ i, i < w.length → P l (w.getD i 0) = P l (v.getD i 0) := by
  have v0 := hv.T.pmem (i := 0) hv.T.ne
  have w0 := hw.T.pmem (i := 0) hw.T.ne
  have e0 : P l (w.getD 0 0) = P l (v.getD 0 0) := by
    rcases before_false (hv.T.first _ w0) with e | e
    · exact e.symm
    · have := hw.T.first _ v0; rw [this] at e; cases e
  by_cases nv : 2 < v.length
  · have nw := uniq_big hv hw nv
    have key : ∀ i, i < w.length → i ≤ v.length → P l (v.getD (i % v.length) 0) = P l (w.getD i 0) := by
      intro i
      induction i with
      | zero => intro _ _; rw [Nat.zero_mod]; exact e0.symm
      | succ i ih =>
        intro h1 h2
        have e := ih (by omega) (by omega)
        rw [Nat.mod_eq_of_lt (show i < v.length by omega)] at e
        have s := uniq_step hv hw nv nw (i := i) (j := i) (by omega) (by omega) e
        rw [Nat.mod_eq_of_lt h1] at s
        exact s
    have hle : w.length ≤ v.length := by
      by_cases h : w.length ≤ v.length
      · exact h
      · have k := key v.length (by omega) (Nat.le_refl _)
        rw [Nat.mod_self, ← e0] at k
        have := hw.inj (i := 0) (k := v.length) (by omega) (by omega) k
        omega
    exact ⟨hle, fun i hi => by have := key i hi (by omega); rw [Nat.mod_eq_of_lt (by omega)] at this; exact this.symm⟩
  · have nw : ¬ 2 < w.length := fun h => nv (uniq_big hw hv h)
    have nv0 := hv.T.ne
    have nw0 := hw.T.ne
    by_cases n2 : v.length = 2
    · refine ⟨by omega, fun i hi => ?_⟩
      by_cases i0 : i = 0
      · subst i0; exact e0
      · obtain rfl : i = 1 := by omega
        have a := hv.T.two' n2 _ (hw.T.pmem (i := 1) (by omega))
        have b := hw.T.two' (by omega) _ (hv.T.pmem (i := 1) (by omega))
        rcases before_false a with e | e
        · exact e
        · rw [b] at e; cases e
    · have n1 : v.length = 1 := by omega
      have o := hv.T.one n1
      have hw1 : w.length = 1 := by
        by_cases h : w.length = 1
        · exact h
        · have := hw.inj (i := 0) (k := 1) (by omega) (by omega) (by rw [o _ (hw.T.pmem (i := 0) (by omega)), o _ (hw.T.pmem (i := 1) (by omega))])
          omega
      exact ⟨by omega, fun i hi => by obtain rfl : i = 0 := by omega
                                      exact e0⟩
theorem uniq {l : List Pt} {v w : List Nat} (hv : HullV l v) (hw : HullV l w) : v = w := by
  obtain ⟨a1, a2⟩ := uniq_pts hv hw
  obtain ⟨b1, b2⟩ := uniq_pts hw hv
  have hl : v.length = w.length := by omega
  refine List.ext_getElem hl fun i h1 h2 => ?_
  have e := a2 i h2
  have gv : v.getD i 0 = v[i] := by rw [List.getD_eq_getElem?_getD, List.getElem?_eq_getElem h1]; rfl
  have gw : w.getD i 0 = w[i] := by rw [List.getD_eq_getElem?_getD, List.getElem?_eq_getElem h2]; rfl
  rw [gv, gw] at e
  rcases Nat.lt_trichotomy v[i] w[i] with h | h | h
  · exact absurd e.symm (hw.fst _ (List.getElem_mem h2) _ h)
  · exact h
  · exact absurd e (hv.fst _ (List.getElem_mem h1) _ h)
/-- Firstness: of equal points the one that stands first is kept. -/
theorem insR_stable (l : List Pt) (x : Nat) : ∀ (r : List Nat), (∀ y ∈ r, y < x) → r.Pairwise (fun a b => P l a = P l b → b < a) → (insR (lessB l) x r).Pairwise (fun a b => P l a = P l b → b < a) := by
  intro r
  induction r with
  | nil => intro _ _; simp [insR]
  | cons y r ih =>
    intro hx h
    obtain ⟨h1, h2⟩ := List.pairwise_cons.1 h
    simp only [insR]
    split
    · rename_i hc
      refine List.pairwise_cons.2 ⟨fun z hz e => ?_, ih (fun z hz => hx z (by simp [hz])) h2⟩
      rcases (insR_mem _ x z r).1 hz with rfl | hz
      · rw [lessB_eq, e, before_irrefl] at hc; cases hc
      · exact h1 z hz e
    · exact List.pairwise_cons.2 ⟨fun z hz _ => hx z hz, h⟩
theorem fold_stable (l : List Pt) : ∀ (rest r : List Nat), (∀ y ∈ r, ∀ x ∈ rest, y < x) → rest.Pairwise (· < ·) → r.Pairwise (fun a b => P l a = P l b → b < a) → (rest.foldl (fun r x => insR (lessB l) x r) r).Pairwise (fun a b => P l a = P l b → b < a) := by
  intro rest
  induction rest with
  | nil => intro r _ _ h; exact h
  | cons x rest ih =>
    intro r h1 h2 h3
    obtain ⟨p1, p2⟩ := List.pairwise_cons.1 h2
    refine ih _ (fun y hy z hz => ?_) p2 (insR_stable l x r (fun y hy => h1 y hy x (by simp)) h3)
    rcases (insR_mem _ x y r).1 hy with rfl | hy
    · exact p1 z hz
    · exact h1 y hy z (by simp [hz])
theorem orderI_stable (l : List Pt) : (orderI l).Pairwise (fun a b => P l a = P l b → a < b) := by
  unfold orderI
  cases hr : List.range l.length with
  | nil => simp [insort, outer]
  | cons a rest =>
    rw [insort_eq, List.pairwise_reverse]
    have hp : (List.range l.length).Pairwise (· < ·) := List.pairwise_lt_range
    rw [hr] at hp
    obtain ⟨p1, p2⟩ := List.pairwise_cons.1 hp
    exact (fold_stable l rest [a] (fun y hy x hx => by rw [List.mem_singleton.1 hy]; exact p1 x hx) p2 (by simp)).imp fun {a b} h e => h e.symm
theorem squash_first (l : List Pt) : ∀ (r : List Nat) (a : Nat), (a :: r).Pairwise (fun x y => before (P l y) (P l x) = false) → (a :: r).Pairwise (fun x y => P l x = P l y → x < y) →
    ∀ y ∈ a :: squash (sameB l) a r, ∀ x ∈ a :: r, P l x = P l y → y ≤ x := by
  intro r
  induction r with
  | nil =>
    intro a _ _ y hy x hx _
    simp only [squash, List.mem_singleton] at hy hx
    omega
  | cons b r ih =>
    intro a h g y hy x hx e
    obtain ⟨h1, h2⟩ := List.pairwise_cons.1 h
    obtain ⟨g1, g2⟩ := List.pairwise_cons.1 g
    have ib := ih b h2 g2
    have ha : ∀ x ∈ a :: b :: r, P l x = P l a → a ≤ x := fun x hx e => by
      rcases List.mem_cons.1 hx with rfl | hx
      · exact Nat.le_refl _
      · exact Nat.le_of_lt (g1 x hx e.symm)
    rcases List.mem_cons.1 hy with rfl | hy
    · exact ha x hx e
    · have sp := squash_spec l (b :: r) a h
      have lt := (List.pairwise_cons.1 sp.1).1 y hy
      rcases List.mem_cons.1 hx with rfl | hx
      · rw [e, before_irrefl] at lt; cases lt
      · simp only [squash] at hy
        split at hy
        · exact ib y (List.mem_cons_of_mem _ hy) x hx e
        · exact ib y hy x hx e
theorem distI_first (l : List Pt) : ∀ y ∈ distI l, ∀ k, k < y → P l k ≠ P l y := by
  have hs := orderI_sorted l
  have ht := orderI_stable l
  have hm : ∀ i, i ∈ orderI l ↔ i < l.length := fun i => by unfold orderI; rw [insort_mem, List.mem_range]
  have hd := (dist l).mem
  unfold distI compI at hd ⊢
  cases ho : orderI l with
  | nil => intro y hy; simp [compact] at hy
  | cons a r =>
    rw [ho] at hs ht hm hd
    rw [compact_take] at hd ⊢
    intro y hy k hk e
    have := squash_first l r a hs ht y hy k ((hm k).2 (by have := hd y hy; omega)) e
    omega
theorem chainS_sub {l : List Pt} {d : Nat → Prop} : ∀ (ord st : List Nat), (∀ x ∈ ord, d x) → (∀ x ∈ st, d x) → ∀ x ∈ ord.foldl (fun st i => i :: pop l i st) st, d x := by
  intro ord
  induction ord with
  | nil => intro st _ h; exact h
  | cons o ord ih =>
    intro st h1 h2
    refine ih _ (fun x hx => h1 x (by simp [hx])) fun x hx => ?_
    rcases List.mem_cons.1 hx with rfl | hx
    · exact h1 _ (by simp)
    · have : ∀ (st : List Nat), (∀ x ∈ st, d x) → ∀ x ∈ pop l o st, d x := by
        intro st
        induction st with
        | nil => intro h; exact h
        | cons b st ih =>
          intro h
          cases st with
          | nil => exact h
          | cons a r =>
            simp only [pop]
            split
            · exact ih fun x hx => h x (List.mem_cons_of_mem _ hx)
            · exact h
      exact this st h2 x hx
theorem hullI_sub {l : List Pt} (hl : 0 < l.length) : ∀ x ∈ hullI l, x ∈ distI l := by
  intro x hx
  unfold hullI at hx
  split at hx
  · exact hx
  · rw [revI_eq hl] at hx
    rcases List.mem_append.1 hx with h | h
    · exact chainS_sub _ _ (fun x hx => hx) (by simp) x (List.mem_reverse.1 (List.mem_of_mem_take h))
    · exact chainS_sub (d := (· ∈ distI l)) _ _ (fun x hx => List.mem_reverse.1 hx) (by simp) x (List.mem_reverse.1 (List.mem_of_mem_take h))
theorem hullV (l : List Pt) (hl : 0 < l.length) : HullV l (hullI l) := by
  obtain ⟨h1, h2⟩ := hullTN l hl
  exact ⟨h1, h2, fun i hi k hk => distI_first l i (hullI_sub hl i hi) k hk⟩
theorem hullI_eq {l : List Pt} (hl : 0 < l.length) {v : List Nat} (h : HullV l v) : hullI l = v := uniq (hullV l hl) h
/-- Moved points. -/
def addP (d p : Pt) : Pt := (p.1 + d.1, p.2 + d.2)
theorem left_add (d a b c : Pt) : left (addP d a) (addP d b) (addP d c) = left a b c := by simp only [left, turn, sub, addP]; grind
theorem before_add (d a b : Pt) : before (addP d a) (addP d b) = before a b := by
  have : ∀ x y : Bool, (x = true ↔ y = true) → x = y := by decide
  apply this
  rw [before_iff, before_iff]
  simp only [Lp, sub, addP]; omega
theorem addP_inj {d a b : Pt} (h : addP d a = addP d b) : a = b := by
  simp only [addP, Prod.mk.injEq] at h
  exact Prod.ext (by omega) (by omega)
theorem P_add (d : Pt) (l : List Pt) {i : Nat} (hi : i < l.length) : P (l.map (addP d)) i = addP d (P l i) := by
  simp [P, List.getD_eq_getElem?_getD, List.getElem?_eq_getElem hi]
theorem HullV.moved {l : List Pt} {v : List Nat} (h : HullV l v) (d : Pt) : HullV (l.map (addP d)) v := by
  have T := h.T
  have e : ∀ i, i < v.length → P (l.map (addP d)) (v.getD i 0) = addP d (P l (v.getD i 0)) := fun i hi => P_add d l (getD_lt T.mem hi)
  have md : ∀ k, k % v.length < v.length := fun k => Nat.mod_lt _ T.ne
  have pm : ∀ {Q : Pt → Prop}, (∀ p ∈ l, Q (addP d p)) → ∀ p ∈ l.map (addP d), Q p := fun {Q} hq p hp => by
    obtain ⟨a, ha, rfl⟩ := List.mem_map.1 hp
    exact hq a ha
  refine ⟨⟨T.ne, by rw [List.length_map]; exact T.le, fun x hx => by rw [List.length_map]; exact T.mem x hx, pm fun p hp => ?_, fun h2 i hi => pm fun p hp => ?_, fun h2 i hi => ?_, fun h2 i hi => pm fun p hp => ?_, fun h2 => pm fun p hp => ?_, fun h1 => pm fun p hp => ?_⟩, ?_, fun i hi k hk hh => ?_⟩
  · rw [e 0 T.ne, before_add]; exact T.first p hp
  · rw [e i hi, e _ (md _), left_add]; exact T.big h2 i hi p hp
  · rw [e i hi, e _ (md _), e _ (md _), left_add]; exact T.turns h2 i hi
  · rw [e i (by omega), e _ (md _), left_add]; exact T.two h2 i hi p hp
  · rw [e 1 (by omega), before_add]; exact T.two' h2 p hp
  · rw [e 0 (by omega), T.one h1 p hp]
  · have : v.map (P (l.map (addP d))) = (v.map (P l)).map (addP d) := by
      rw [List.map_map]
      exact List.map_congr_left fun x hx => P_add d l (T.mem x hx)
    rw [this, List.nodup_iff_pairwise_ne, List.pairwise_map]
    exact (List.nodup_iff_pairwise_ne.1 h.nd).imp fun {a b} hab hh => hab (addP_inj hh)
  · have hil := T.mem i hi
    rw [P_add d l hil, P_add d l (by omega)] at hh
    exact h.fst i hi k hk (addP_inj hh)
theorem getD_range {n i : Nat} (h : i < n) : (List.range n).getD i 0 = i := by
  rw [List.getD_eq_getElem?_getD, List.getElem?_range h]; rfl
theorem HullV.alone {l : List Pt} {v : List Nat} (h : HullV l v) : HullV (v.map (P l)) (List.range v.length) := by
  have T := h.T
  have al : (v.map (P l)).length = v.length := List.length_map ..
  have e : ∀ i, i < v.length → P (v.map (P l)) ((List.range v.length).getD i 0) = P l (v.getD i 0) := fun i hi => by
    rw [getD_range hi]; exact getD_map_P l v hi
  have md : ∀ k, k % v.length < v.length := fun k => Nat.mod_lt _ T.ne
  have pm : ∀ p ∈ v.map (P l), p ∈ l := fun p hp => by
    obtain ⟨a, ha, rfl⟩ := List.mem_map.1 hp
    exact P_mem (T.mem a ha)
  have rl : (List.range v.length).length = v.length := List.length_range
  refine ⟨⟨by rw [rl]; exact T.ne, by rw [rl, al]; exact Nat.le_refl _, fun x hx => by rw [al]; exact List.mem_range.1 hx, fun p hp => ?_, fun h2 i hi p hp => ?_, fun h2 i hi => ?_, fun h2 i hi p hp => ?_, fun h2 p hp => ?_, fun h1 p hp => ?_⟩, ?_, fun i hi k hk hh => ?_⟩
  · rw [e 0 T.ne]; exact T.first p (pm p hp)
  · rw [rl] at h2 hi ⊢; rw [e i hi, e _ (md _)]; exact T.big h2 i hi p (pm p hp)
  · rw [rl] at h2 hi ⊢; rw [e i hi, e _ (md _), e _ (md _)]; exact T.turns h2 i hi
  · rw [rl] at h2 ⊢; rw [e i (by omega), e _ (md _)]; exact T.two h2 i hi p (pm p hp)
  · rw [rl] at h2; rw [e 1 (by omega)]; exact T.two' h2 p (pm p hp)
  · rw [rl] at h1; rw [e 0 (by omega)]; exact T.one h1 p (pm p hp)
  · have : (List.range v.length).map (P (v.map (P l))) = v.map (P l) := by
      refine List.ext_getElem (by simp) fun i h1 h2 => ?_
      have hi : i < v.length := by simpa using h2
      have := getD_map_P l v hi
      simp only [List.getElem_map, List.getElem_range]
      have gv : v.getD i 0 = v[i] := by rw [List.getD_eq_getElem?_getD, List.getElem?_eq_getElem hi]; rfl
      rw [gv] at this
      exact this
    rw [this]; exact h.nd
  · have hi' := List.mem_range.1 hi
    have e1 := e i hi'
    have e2 := e k (by omega)
    rw [getD_range hi'] at e1
    rw [getD_range (by omega)] at e2
    rw [e1, e2] at hh
    have := h.inj (i := k) (k := i) (by omega) hi' hh
    omega
end Go.Hull
end
section
set_option linter.unusedSimpArgs false
set_option linter.unusedVariables false
set_option maxHeartbeats 2000000
namespace Go.Hull
open Go Go.Am Go.Proofs

theorem viewG_pts {hl : List Blk} {b g i k : Nat} {nil frz : Bool} {xs : List Pt} (hb : hget hl b = .row nil g frz 2 (xs.map pt)) (h : i + k ≤ xs.length) : viewG hl 6 (.sl b g i k) = some (pts ((xs.drop i).take k), [b]) := by
  have he : ((xs.map pt).drop i).take k = ((xs.drop i).take k).map pt := by rw [List.map_take, List.map_drop]
  have h1 : optL (viewG hl 5) (((xs.drop i).take k).map pt) = some ((((xs.drop i).take k).map pt).map fun x => (x, [])) := optL_self _ fun x hx => by
    obtain ⟨n, -, rfl⟩ := List.mem_map.1 hx
    exact viewG_flat rfl 4
  have h2 : (((((xs.drop i).take k).map pt).map fun x => (x, ([] : List Nat))).all fun y => Nat.beq y.1.cells.length 2) = true := by
    rw [List.all_eq_true]
    intro y hy
    obtain ⟨x, hx, rfl⟩ := List.mem_map.1 hy
    obtain ⟨n, -, rfl⟩ := List.mem_map.1 hx
    rfl
  have hc : True ∧ i + k ≤ (xs.map pt).length := ⟨trivial, by rw [List.length_map]; exact h⟩
  unfold viewG
  simp only [flatN, AV.lt, Nat.not_lt_zero, decide_false, Bool.false_eq_true, if_false, hb]
  rw [if_pos hc]
  simp only [he, h1, h2, if_true, catT_nil]
  simp only [List.map_map, Function.comp_def, pts]
theorem viewArgs_flatL {hl : List Blk} : ∀ (xs : List AV), (xs.all (flatN true 5)) = true → viewArgs hl xs = some (xs, []) := by
  intro xs
  induction xs with
  | nil => intro _; rfl
  | cons x xs ih =>
    intro h
    simp only [List.all_cons, Bool.and_eq_true] at h
    simp only [viewArgs, viewG_flat h.1 5, ih h.2, List.append_nil]
theorem chk1 (p : Pt) : chk [p] = if okP p = true then 0 else 2 := by simp [chk]
theorem c54 (p : Pt) : CallsF Try.prog 54 [pt p] [] (.bool (okP p)) [] := by
  have k := c50 [p] (by simp)
  rw [chk1] at k
  refine callsF_cwx hm hf54 (by simp [cf54]) ?_
  simp only [cf54, argsAl]
  unfold pt
  refine CWx.r fun K hK => ?_
  simp (maxSteps := 4000000) only [amC, amX, evsA, evpA, elemsA, elemsP, sizedA, optA, refA, consO, Am.get, AV.elem, AV.cells, AV.one, hsetL, hset, hget, loadAV, rowAt?, loadCells', faddrAV, binAV, fillA, storeAV, AV.putCells, AV.ref, List.foldl, List.all, List.map, List.set, List.take, List.drop, Option.getD, Option.map, if_true, if_false, Nat.reduceEqDiff, Nat.reduceAdd, Nat.reduceLT, Nat.reduceLeDiff, reduceCtorEq, ↓reduceIte, pickAV, lenAV, intAV, slcA, slcAV, iaddrAV, extAV, fldAV, eqCells, eqCell, contAV, appendAV, foldAV, maxI, minI, Option.some.injEq, catT, AV.cells, AV.elem, AV.one, List.all_cons, List.all_nil]
  refine hK _ _ _ nofun ?_
  clear hK K
  refine CWx.r fun K hK => ?_
  simp (maxSteps := 4000000) only [amC, amX, evsA, evpA, elemsA, elemsP, sizedA, optA, refA, consO, Am.get, AV.elem, AV.cells, AV.one, hsetL, hset, hget, loadAV, rowAt?, loadCells', faddrAV, binAV, fillA, storeAV, AV.putCells, AV.ref, List.foldl, List.all, List.map, List.set, List.take, List.drop, Option.getD, Option.map, if_true, if_false, Nat.reduceEqDiff, Nat.reduceAdd, Nat.reduceLT, Nat.reduceLeDiff, reduceCtorEq, ↓reduceIte, pickAV, lenAV, intAV, slcA, slcAV, iaddrAV, extAV, fldAV, eqCells, eqCell, contAV, appendAV, foldAV, maxI, minI, Option.some.injEq, catT, AV.cells, AV.elem, AV.one, List.all_cons, List.all_nil, beq_self_eq_true, Bool.and_self]
  refine RCx.view (fid := 50) (caps := []) (args := [pts [p]]) (T0 := [1]) rfl rfl ?_ k rfl ?_
  · exact viewArgs1 (viewG_pts (b := 1) (xs := [p]) (g := 0) (i := 0) (k := 1) (nil := false) (frz := false) rfl (by simp))
  by_cases h : okP p = true
  · simp (maxSteps := 4000000) only [amC, amX, evsA, evpA, elemsA, elemsP, sizedA, optA, refA, consO, Am.get, AV.elem, AV.cells, AV.one, hsetL, hset, hget, loadAV, rowAt?, loadCells', faddrAV, binAV, fillA, storeAV, AV.putCells, AV.ref, List.foldl, List.all, List.map, List.set, List.take, List.drop, Option.getD, Option.map, if_true, if_false, Nat.reduceEqDiff, Nat.reduceAdd, Nat.reduceLT, Nat.reduceLeDiff, reduceCtorEq, ↓reduceIte, pickAV, lenAV, intAV, slcA, slcAV, iaddrAV, extAV, fldAV, eqCells, eqCell, contAV, appendAV, foldAV, maxI, minI, Option.some.injEq, catT, h, show ((0 : Int) == 0) = true from rfl]
    refine hK _ _ _ nofun ?_
    clear hK K
    rw [h]
    exact CWx.ret fun al hal => finK_ext hal (finK_pure (.inr rfl) (xs := [.bool true]) (by simp [resRV, Am.get]) rfl rfl)
  · simp (maxSteps := 4000000) only [amC, amX, evsA, evpA, elemsA, elemsP, sizedA, optA, refA, consO, Am.get, AV.elem, AV.cells, AV.one, hsetL, hset, hget, loadAV, rowAt?, loadCells', faddrAV, binAV, fillA, storeAV, AV.putCells, AV.ref, List.foldl, List.all, List.map, List.set, List.take, List.drop, Option.getD, Option.map, if_true, if_false, Nat.reduceEqDiff, Nat.reduceAdd, Nat.reduceLT, Nat.reduceLeDiff, reduceCtorEq, ↓reduceIte, pickAV, lenAV, intAV, slcA, slcAV, iaddrAV, extAV, fldAV, eqCells, eqCell, contAV, appendAV, foldAV, maxI, minI, Option.some.injEq, catT, h, show ((2 : Int) == 0) = false from rfl]
    refine hK _ _ _ nofun ?_
    clear hK K
    have h' : okP p = false := by simpa using h
    rw [h']
    exact CWx.ret fun al hal => finK_ext hal (finK_pure (.inr rfl) (xs := [.bool false]) (by simp [resRV, Am.get]) rfl rfl)
theorem c56' {u v : Pt} (hu : smallV u) (hv : smallV v) : CallsF Try.prog 56 [pt u, pt v] [] (.int .i64 (dot u v)) [] := by
  obtain ⟨⟨a1, a2⟩, a3, a4⟩ := hu
  obtain ⟨⟨b1, b2⟩, b3, b4⟩ := hv
  have m1 := mul_bd a1 a2 b1 b2
  have m2 := mul_bd a3 a4 b3 b4
  have e1 := wr (u.1 * v.1) (by omega) (by omega)
  have e2 := wr (u.2 * v.2) (by omega) (by omega)
  have e3 := wr (u.1 * v.1 + u.2 * v.2) (by omega) (by omega)
  refine callsF_cwx hm hf56 (by simp [cf56]) ?_
  simp only [cf56, argsAl]
  unfold pt
  refine CWx.r fun K hK => ?_
  simp (maxSteps := 4000000) only [amC, amX, evsA, evpA, elemsA, elemsP, sizedA, optA, refA, consO, Am.get, AV.elem, AV.cells, AV.one, hsetL, hset, hget, loadAV, rowAt?, loadCells', faddrAV, binAV, fillA, storeAV, AV.putCells, AV.ref, List.foldl, List.all, List.map, List.set, List.take, List.drop, Option.getD, Option.map, if_true, if_false, Nat.reduceEqDiff, Nat.reduceAdd, Nat.reduceLT, Nat.reduceLeDiff, reduceCtorEq, ↓reduceIte, pickAV, lenAV, intAV, slcA, slcAV, iaddrAV, extAV, fldAV, eqCells, eqCell, contAV, appendAV, foldAV, maxI, minI, Option.some.injEq, catT, AV.cells, AV.elem, AV.one, List.all_cons, List.all_nil]
  refine hK _ _ _ nofun ?_
  clear hK K
  refine CWx.r fun K hK => ?_
  simp (maxSteps := 4000000) only [amC, amX, evsA, evpA, elemsA, elemsP, sizedA, optA, refA, consO, Am.get, AV.elem, AV.cells, AV.one, hsetL, hset, hget, loadAV, rowAt?, loadCells', faddrAV, binAV, fillA, storeAV, AV.putCells, AV.ref, List.foldl, List.all, List.map, List.set, List.take, List.drop, Option.getD, Option.map, if_true, if_false, Nat.reduceEqDiff, Nat.reduceAdd, Nat.reduceLT, Nat.reduceLeDiff, reduceCtorEq, ↓reduceIte, pickAV, lenAV, intAV, slcA, slcAV, iaddrAV, extAV, fldAV, eqCells, eqCell, contAV, appendAV, foldAV, maxI, minI, Option.some.injEq, catT, AV.cells, e1, e2, e3]
  refine hK _ _ _ nofun ?_
  clear hK K
  exact CWx.ret fun al hal => finK_ext hal (finK_pure (.inr rfl) (xs := [.int .i64 (dot u v)]) (by simp [resRV, Am.get, dot]) rfl rfl)
/-- Points that may be moved. -/
def farB (p : Pt) : Bool := decide (p.1 < -9000) || (decide (9000 < p.1) || (decide (p.2 < -9000) || decide (9000 < p.2)))
theorem c37 (p : Pt) : CallsF Try.prog 37 [pt p] [] (.bool (farB p)) [] := by
  refine callsF_cwx hm hf37 (by simp [cf37]) ?_
  simp only [cf37, argsAl]
  unfold pt
  refine CWx.r fun K hK => ?_
  simp (maxSteps := 4000000) only [amC, amX, evsA, evpA, elemsA, elemsP, sizedA, optA, refA, consO, Am.get, AV.elem, AV.cells, AV.one, hsetL, hset, hget, loadAV, rowAt?, loadCells', faddrAV, binAV, fillA, storeAV, AV.putCells, AV.ref, List.foldl, List.all, List.map, List.set, List.take, List.drop, Option.getD, Option.map, if_true, if_false, Nat.reduceEqDiff, Nat.reduceAdd, Nat.reduceLT, Nat.reduceLeDiff, reduceCtorEq, ↓reduceIte, pickAV, lenAV, intAV, slcA, slcAV, iaddrAV, extAV, fldAV, eqCells, eqCell, contAV, appendAV, foldAV, maxI, minI, Option.some.injEq, catT, AV.cells, AV.elem, AV.one, List.all_cons, List.all_nil]
  refine hK _ _ _ nofun ?_
  clear hK K
  by_cases h1 : p.1 < -9000
  · refine CWx.r fun K hK => ?_
    simp (maxSteps := 4000000) only [amC, amX, evsA, evpA, elemsA, elemsP, sizedA, optA, refA, consO, Am.get, AV.elem, AV.cells, AV.one, hsetL, hset, hget, loadAV, rowAt?, loadCells', faddrAV, binAV, fillA, storeAV, AV.putCells, AV.ref, List.foldl, List.all, List.map, List.set, List.take, List.drop, Option.getD, Option.map, if_true, if_false, Nat.reduceEqDiff, Nat.reduceAdd, Nat.reduceLT, Nat.reduceLeDiff, reduceCtorEq, ↓reduceIte, pickAV, lenAV, intAV, slcA, slcAV, iaddrAV, extAV, fldAV, eqCells, eqCell, contAV, appendAV, foldAV, maxI, minI, Option.some.injEq, catT, AV.cells, h1]
    refine hK _ _ _ nofun ?_
    clear hK K
    exact CWx.ret fun al hal => finK_ext hal (finK_pure (.inr rfl) (xs := [.bool (farB p)]) (by simp [resRV, Am.get, farB, h1]) rfl rfl)
  · by_cases h2 : 9000 < p.1
    · refine CWx.r fun K hK => ?_
      simp (maxSteps := 4000000) only [amC, amX, evsA, evpA, elemsA, elemsP, sizedA, optA, refA, consO, Am.get, AV.elem, AV.cells, AV.one, hsetL, hset, hget, loadAV, rowAt?, loadCells', faddrAV, binAV, fillA, storeAV, AV.putCells, AV.ref, List.foldl, List.all, List.map, List.set, List.take, List.drop, Option.getD, Option.map, if_true, if_false, Nat.reduceEqDiff, Nat.reduceAdd, Nat.reduceLT, Nat.reduceLeDiff, reduceCtorEq, ↓reduceIte, pickAV, lenAV, intAV, slcA, slcAV, iaddrAV, extAV, fldAV, eqCells, eqCell, contAV, appendAV, foldAV, maxI, minI, Option.some.injEq, catT, AV.cells, h1, h2]
      refine hK _ _ _ nofun ?_
      clear hK K
      exact CWx.ret fun al hal => finK_ext hal (finK_pure (.inr rfl) (xs := [.bool (farB p)]) (by simp [resRV, Am.get, farB, h1, h2]) rfl rfl)
    · by_cases h3 : p.2 < -9000
      · refine CWx.r fun K hK => ?_
        simp (maxSteps := 4000000) only [amC, amX, evsA, evpA, elemsA, elemsP, sizedA, optA, refA, consO, Am.get, AV.elem, AV.cells, AV.one, hsetL, hset, hget, loadAV, rowAt?, loadCells', faddrAV, binAV, fillA, storeAV, AV.putCells, AV.ref, List.foldl, List.all, List.map, List.set, List.take, List.drop, Option.getD, Option.map, if_true, if_false, Nat.reduceEqDiff, Nat.reduceAdd, Nat.reduceLT, Nat.reduceLeDiff, reduceCtorEq, ↓reduceIte, pickAV, lenAV, intAV, slcA, slcAV, iaddrAV, extAV, fldAV, eqCells, eqCell, contAV, appendAV, foldAV, maxI, minI, Option.some.injEq, catT, AV.cells, h1, h2, h3]
        refine hK _ _ _ nofun ?_
        clear hK K
        exact CWx.ret fun al hal => finK_ext hal (finK_pure (.inr rfl) (xs := [.bool (farB p)]) (by simp [resRV, Am.get, farB, h1, h2, h3]) rfl rfl)
      · by_cases h4 : 9000 < p.2
        · refine CWx.r fun K hK => ?_
          simp (maxSteps := 4000000) only [amC, amX, evsA, evpA, elemsA, elemsP, sizedA, optA, refA, consO, Am.get, AV.elem, AV.cells, AV.one, hsetL, hset, hget, loadAV, rowAt?, loadCells', faddrAV, binAV, fillA, storeAV, AV.putCells, AV.ref, List.foldl, List.all, List.map, List.set, List.take, List.drop, Option.getD, Option.map, if_true, if_false, Nat.reduceEqDiff, Nat.reduceAdd, Nat.reduceLT, Nat.reduceLeDiff, reduceCtorEq, ↓reduceIte, pickAV, lenAV, intAV, slcA, slcAV, iaddrAV, extAV, fldAV, eqCells, eqCell, contAV, appendAV, foldAV, maxI, minI, Option.some.injEq, catT, AV.cells, h1, h2, h3, h4]
          refine hK _ _ _ nofun ?_
          clear hK K
          exact CWx.ret fun al hal => finK_ext hal (finK_pure (.inr rfl) (xs := [.bool (farB p)]) (by simp [resRV, Am.get, farB, h1, h2, h3, h4]) rfl rfl)
        · refine CWx.r fun K hK => ?_
          simp (maxSteps := 4000000) only [amC, amX, evsA, evpA, elemsA, elemsP, sizedA, optA, refA, consO, Am.get, AV.elem, AV.cells, AV.one, hsetL, hset, hget, loadAV, rowAt?, loadCells', faddrAV, binAV, fillA, storeAV, AV.putCells, AV.ref, List.foldl, List.all, List.map, List.set, List.take, List.drop, Option.getD, Option.map, if_true, if_false, Nat.reduceEqDiff, Nat.reduceAdd, Nat.reduceLT, Nat.reduceLeDiff, reduceCtorEq, ↓reduceIte, pickAV, lenAV, intAV, slcA, slcAV, iaddrAV, extAV, fldAV, eqCells, eqCell, contAV, appendAV, foldAV, maxI, minI, Option.some.injEq, catT, AV.cells, h1, h2, h3, h4]
          refine hK _ _ _ nofun ?_
          clear hK K
          exact CWx.ret fun al hal => finK_ext hal (finK_pure (.inr rfl) (xs := [.bool (farB p)]) (by simp [resRV, Am.get, farB, h1, h2, h3, h4]) rfl rfl)
def firstI (g : Pt → Bool) (l : List Pt) : Int := if l.any g = true then (l.findIdx g : Int) else -1
theorem c71 (l : List Pt) (hn : l.length < 4611686018427387904) (fid : Nat) (caps : List AV) (g : Pt → Bool) (hf : ∀ p ∈ l, CallsF Try.prog fid (pt p :: caps) [] (.bool (g p)) []) (hfl : (caps.all (flatN true 5)) = true) (hlt : ∀ m, ltL m caps = true) :
    CallsF Try.prog 71 [pts l, .clo fid caps] [] (.int .i64 (firstI g l)) [] := by
  refine callsF_cwx hm hf71 (by simp [cf71]) ?_
  simp only [cf71, argsAl]
  refine CWx.r fun K hK => ?_
  simp (maxSteps := 4000000) only [amC, amX, evsA, evpA, elemsA, elemsP, sizedA, optA, refA, consO, Am.get, AV.elem, AV.cells, AV.one, hsetL, hset, hget, loadAV, rowAt?, loadCells', faddrAV, binAV, fillA, storeAV, AV.putCells, AV.ref, List.foldl, List.all, List.map, List.set, List.take, List.drop, Option.getD, Option.map, if_true, if_false, Nat.reduceEqDiff, Nat.reduceAdd, Nat.reduceLT, Nat.reduceLeDiff, reduceCtorEq, ↓reduceIte, pickAV, lenAV, intAV, slcA, slcAV, iaddrAV, extAV, fldAV, eqCells, eqCell, contAV, appendAV, foldAV, maxI, minI, Option.some.injEq, catT]
  refine hK _ _ _ nofun ?_
  clear hK K
  refine CWx.seq ?_
  refine CWx.r fun K hK => ?_
  simp (maxSteps := 4000000) only [amC, amX, evsA, evpA, elemsA, elemsP, sizedA, optA, refA, consO, Am.get, AV.elem, AV.cells, AV.one, hsetL, hset, hget, loadAV, rowAt?, loadCells', faddrAV, binAV, fillA, storeAV, AV.putCells, AV.ref, List.foldl, List.all, List.map, List.set, List.take, List.drop, Option.getD, Option.map, if_true, if_false, Nat.reduceEqDiff, Nat.reduceAdd, Nat.reduceLT, Nat.reduceLeDiff, reduceCtorEq, ↓reduceIte, pickAV, lenAV, intAV, slcA, slcAV, iaddrAV, extAV, fldAV, eqCells, eqCell, contAV, appendAV, foldAV, maxI, minI, Option.some.injEq, catT, pts, List.length_map]
  refine hK _ _ _ nofun ?_
  clear hK K
  refine CWx.block ?_
  refine CWx.loopF (fun i : Nat => l.length - i) (fun i => ⟨[(0, pts l), (1, .clo fid caps), (7, .int .i64 (l.length : Int)), (8, .int .i64 (i : Int))], []⟩)
    (fun i => i ≤ l.length ∧ ∀ j, j < i → g (P l j) = false) (fun i hi => ?_) 0 ⟨Nat.zero_le _, fun j hj => by omega⟩ (Fgt.mk' 0 (by simp) (by simp [keepB, Am.get, AV.lt, ltL, ltL_pt, pts, hlt]) rfl trivial)
  by_cases h : (i : Int) < (l.length : Int)
  · have hi' : i < l.length := by omega
    have pm := get_pts (getp hi')
    have pl : l.getD i (0, 0) ∈ l := P_mem hi'
    have gi : l[i] = P l i := by unfold P; rw [List.getD_eq_getElem?_getD, List.getElem?_eq_getElem hi']; rfl
    refine CWx.r fun K hK => ?_
    simp (maxSteps := 4000000) only [amC, amX, evsA, evpA, elemsA, elemsP, sizedA, optA, refA, consO, Am.get, AV.elem, AV.cells, AV.one, hsetL, hset, hget, loadAV, rowAt?, loadCells', faddrAV, binAV, fillA, storeAV, AV.putCells, AV.ref, List.foldl, List.all, List.map, List.set, List.take, List.drop, Option.getD, Option.map, if_true, if_false, Nat.reduceEqDiff, Nat.reduceAdd, Nat.reduceLT, Nat.reduceLeDiff, reduceCtorEq, ↓reduceIte, pickAV, lenAV, intAV, slcA, slcAV, iaddrAV, extAV, fldAV, eqCells, eqCell, contAV, appendAV, foldAV, maxI, minI, Option.some.injEq, catT, h]
    refine hK _ _ _ nofun ?_
    clear hK K
    refine CWx.seq ?_
    refine CWx.condT rfl (CWx.skip (CWx.go ?_))
    refine CWx.seq ?_
    refine CWx.block ?_
    refine CWx.r fun K hK => ?_
    simp (maxSteps := 4000000) only [amC, amX, evsA, evpA, elemsA, elemsP, sizedA, optA, refA, consO, Am.get, AV.elem, AV.cells, AV.one, hsetL, hset, hget, loadAV, rowAt?, loadCells', faddrAV, binAV, fillA, storeAV, AV.putCells, AV.ref, List.foldl, List.all, List.map, List.set, List.take, List.drop, Option.getD, Option.map, if_true, if_false, Nat.reduceEqDiff, Nat.reduceAdd, Nat.reduceLT, Nat.reduceLeDiff, reduceCtorEq, ↓reduceIte, pickAV, lenAV, intAV, slcA, slcAV, iaddrAV, extAV, fldAV, eqCells, eqCell, contAV, appendAV, foldAV, maxI, minI, Option.some.injEq, catT]
    refine hK _ _ _ nofun ?_
    clear hK K
    refine CWx.r fun K hK => ?_
    simp (maxSteps := 4000000) only [amC, amX, evsA, evpA, elemsA, elemsP, sizedA, optA, refA, consO, Am.get, AV.elem, AV.cells, AV.one, hsetL, hset, hget, loadAV, rowAt?, loadCells', faddrAV, binAV, fillA, storeAV, AV.putCells, AV.ref, List.foldl, List.all, List.map, List.set, List.take, List.drop, Option.getD, Option.map, if_true, if_false, Nat.reduceEqDiff, Nat.reduceAdd, Nat.reduceLT, Nat.reduceLeDiff, reduceCtorEq, ↓reduceIte, pickAV, lenAV, intAV, slcA, slcAV, iaddrAV, extAV, fldAV, eqCells, eqCell, contAV, appendAV, foldAV, maxI, minI, Option.some.injEq, catT, pts, h, List.length_map, Int.natCast_nonneg, Int.toNat_natCast, pm, pt, AV.cells]
    refine RCx.view (fid := fid) (caps := caps) rfl rfl (viewArgs_flatL (pt (l.getD i (0, 0)) :: caps) (by simp only [List.all_cons, hfl, Bool.and_true]; rfl)) (hf _ pl) rfl ?_
    by_cases hg : g (l.getD i (0, 0)) = true
    · simp (maxSteps := 4000000) only [amC, amX, evsA, evpA, elemsA, elemsP, sizedA, optA, refA, consO, Am.get, AV.elem, AV.cells, AV.one, hsetL, hset, hget, loadAV, rowAt?, loadCells', faddrAV, binAV, fillA, storeAV, AV.putCells, AV.ref, List.foldl, List.all, List.map, List.set, List.take, List.drop, Option.getD, Option.map, if_true, if_false, Nat.reduceEqDiff, Nat.reduceAdd, Nat.reduceLT, Nat.reduceLeDiff, reduceCtorEq, ↓reduceIte, pickAV, lenAV, intAV, slcA, slcAV, iaddrAV, extAV, fldAV, eqCells, eqCell, contAV, appendAV, foldAV, maxI, minI, Option.some.injEq, catT, hg]
      refine hK _ _ _ nofun ?_
      clear hK K
      refine CWx.condT rfl ?_
      refine CWx.r fun K hK => ?_
      simp (maxSteps := 4000000) only [amC, amX, evsA, evpA, elemsA, elemsP, sizedA, optA, refA, consO, Am.get, AV.elem, AV.cells, AV.one, hsetL, hset, hget, loadAV, rowAt?, loadCells', faddrAV, binAV, fillA, storeAV, AV.putCells, AV.ref, List.foldl, List.all, List.map, List.set, List.take, List.drop, Option.getD, Option.map, if_true, if_false, Nat.reduceEqDiff, Nat.reduceAdd, Nat.reduceLT, Nat.reduceLeDiff, reduceCtorEq, ↓reduceIte, pickAV, lenAV, intAV, slcA, slcAV, iaddrAV, extAV, fldAV, eqCells, eqCell, contAV, appendAV, foldAV, maxI, minI, Option.some.injEq, catT]
      refine hK _ _ _ nofun ?_
      clear hK K
      have hr : firstI g l = (i : Int) := by
        unfold firstI
        rw [if_pos (List.any_eq_true.2 ⟨_, pl, hg⟩), (List.findIdx_eq hi').2 ⟨by rw [gi]; exact hg, fun j hj => by
          have := hi.2 j hj
          unfold P at this
          rw [List.getD_eq_getElem?_getD, List.getElem?_eq_getElem (by omega)] at this
          exact this⟩]
      rw [hr]
      exact CWx.ret fun al hal => finK_ext hal (finK_pure (.inr rfl) (xs := [.int .i64 (i : Int)]) (by simp [resRV, Am.get]) rfl rfl)
    · simp (maxSteps := 4000000) only [amC, amX, evsA, evpA, elemsA, elemsP, sizedA, optA, refA, consO, Am.get, AV.elem, AV.cells, AV.one, hsetL, hset, hget, loadAV, rowAt?, loadCells', faddrAV, binAV, fillA, storeAV, AV.putCells, AV.ref, List.foldl, List.all, List.map, List.set, List.take, List.drop, Option.getD, Option.map, if_true, if_false, Nat.reduceEqDiff, Nat.reduceAdd, Nat.reduceLT, Nat.reduceLeDiff, reduceCtorEq, ↓reduceIte, pickAV, lenAV, intAV, slcA, slcAV, iaddrAV, extAV, fldAV, eqCells, eqCell, contAV, appendAV, foldAV, maxI, minI, Option.some.injEq, catT, hg]
      refine hK _ _ _ nofun ?_
      clear hK K
      refine CWx.condF rfl (CWx.skip (CWx.go ?_))
      refine CWx.e fun K hK => ?_
      simp (maxSteps := 4000000) only [amC, amX, evsA, evpA, elemsA, elemsP, sizedA, optA, refA, consO, Am.get, AV.elem, AV.cells, AV.one, hsetL, hset, hget, loadAV, rowAt?, loadCells', faddrAV, binAV, fillA, storeAV, AV.putCells, AV.ref, List.foldl, List.all, List.map, List.set, List.take, List.drop, Option.getD, Option.map, if_true, if_false, Nat.reduceEqDiff, Nat.reduceAdd, Nat.reduceLT, Nat.reduceLeDiff, reduceCtorEq, ↓reduceIte, pickAV, lenAV, intAV, slcA, slcAV, iaddrAV, extAV, fldAV, eqCells, eqCell, contAV, appendAV, foldAV, maxI, minI, Option.some.injEq, catT, wrap_nat i (by omega)]
      refine hK _ _ _ nofun ?_
      clear hK K
      intro al hal
      refine ⟨i + 1, by omega, ⟨by omega, fun j hj => ?_⟩, Fgt.ofx hal (Fgt.mk' 0 (by simp) (by simp [keepB, Am.get, AV.lt, ltL, ltL_pt, pts, hlt]) rfl trivial)⟩
      by_cases hji : j = i
      · subst hji; exact Bool.eq_false_iff.2 hg
      · exact hi.2 j (by omega)
  · refine CWx.r fun K hK => ?_
    simp (maxSteps := 4000000) only [amC, amX, evsA, evpA, elemsA, elemsP, sizedA, optA, refA, consO, Am.get, AV.elem, AV.cells, AV.one, hsetL, hset, hget, loadAV, rowAt?, loadCells', faddrAV, binAV, fillA, storeAV, AV.putCells, AV.ref, List.foldl, List.all, List.map, List.set, List.take, List.drop, Option.getD, Option.map, if_true, if_false, Nat.reduceEqDiff, Nat.reduceAdd, Nat.reduceLT, Nat.reduceLeDiff, reduceCtorEq, ↓reduceIte, pickAV, lenAV, intAV, slcA, slcAV, iaddrAV, extAV, fldAV, eqCells, eqCell, contAV, appendAV, foldAV, maxI, minI, Option.some.injEq, catT, h]
    refine hK _ _ _ nofun ?_
    clear hK K
    refine CWx.seq ?_
    refine CWx.condF rfl (CWx.exit (CWx.go ?_))
    refine CWx.r fun K hK => ?_
    simp (maxSteps := 4000000) only [amC, amX, evsA, evpA, elemsA, elemsP, sizedA, optA, refA, consO, Am.get, AV.elem, AV.cells, AV.one, hsetL, hset, hget, loadAV, rowAt?, loadCells', faddrAV, binAV, fillA, storeAV, AV.putCells, AV.ref, List.foldl, List.all, List.map, List.set, List.take, List.drop, Option.getD, Option.map, if_true, if_false, Nat.reduceEqDiff, Nat.reduceAdd, Nat.reduceLT, Nat.reduceLeDiff, reduceCtorEq, ↓reduceIte, pickAV, lenAV, intAV, slcA, slcAV, iaddrAV, extAV, fldAV, eqCells, eqCell, contAV, appendAV, foldAV, maxI, minI, Option.some.injEq, catT]
    refine hK _ _ _ nofun ?_
    clear hK K
    have hr : firstI g l = -1 := by
      unfold firstI
      rw [if_neg]
      intro ha
      obtain ⟨p, hp, hgp⟩ := List.any_eq_true.1 ha
      obtain ⟨j, hj, rfl⟩ := List.getElem_of_mem hp
      have := hi.2 j (by omega)
      unfold P at this
      rw [List.getD_eq_getElem?_getD, List.getElem?_eq_getElem hj] at this
      rw [show (some l[j]).getD (0, 0) = l[j] from rfl] at this
      rw [this] at hgp; cases hgp
    rw [hr]
    exact CWx.ret fun al hal => finK_ext hal (finK_pure (.inr rfl) (xs := [.int .i64 (-1)]) (by simp [resRV, Am.get]) rfl rfl)
theorem c27 (l : List Pt) (hn : l.length < 4611686018427387904) (fid : Nat) (caps : List AV) (g : Pt → Bool) (hf : ∀ p ∈ l, CallsF Try.prog fid (pt p :: caps) [] (.bool (g p)) []) (hfl : (caps.all (flatN true 5)) = true) (hlt : ∀ m, ltL m caps = true) (hcf : flatN true 5 (.clo fid caps) = true) :
    CallsF Try.prog 27 [pts l, .clo fid caps] [] (.bool (l.any g)) [] := by
  refine callsF_cwx hm hf27 (by simp [cf27]) ?_
  simp only [cf27, argsAl]
  refine CWx.r fun K hK => ?_
  simp (maxSteps := 4000000) only [amC, amX, evsA, evpA, elemsA, elemsP, sizedA, optA, refA, consO, Am.get, AV.elem, AV.cells, AV.one, hsetL, hset, hget, loadAV, rowAt?, loadCells', faddrAV, binAV, fillA, storeAV, AV.putCells, AV.ref, List.foldl, List.all, List.map, List.set, List.take, List.drop, Option.getD, Option.map, if_true, if_false, Nat.reduceEqDiff, Nat.reduceAdd, Nat.reduceLT, Nat.reduceLeDiff, reduceCtorEq, ↓reduceIte, pickAV, lenAV, intAV, slcA, slcAV, iaddrAV, extAV, fldAV, eqCells, eqCell, contAV, appendAV, foldAV, maxI, minI, Option.some.injEq, catT]
  refine hK _ _ _ nofun ?_
  clear hK K
  refine CWx.r fun K hK => ?_
  simp (maxSteps := 4000000) only [amC, amX, evsA, evpA, elemsA, elemsP, sizedA, optA, refA, consO, Am.get, AV.elem, AV.cells, AV.one, hsetL, hset, hget, loadAV, rowAt?, loadCells', faddrAV, binAV, fillA, storeAV, AV.putCells, AV.ref, List.foldl, List.all, List.map, List.set, List.take, List.drop, Option.getD, Option.map, if_true, if_false, Nat.reduceEqDiff, Nat.reduceAdd, Nat.reduceLT, Nat.reduceLeDiff, reduceCtorEq, ↓reduceIte, pickAV, lenAV, intAV, slcA, slcAV, iaddrAV, extAV, fldAV, eqCells, eqCell, contAV, appendAV, foldAV, maxI, minI, Option.some.injEq, catT]
  refine RCx.view (fid := 71) (caps := []) rfl rfl (viewArgs_flat2 (flat_pts l 2) hcf) (c71 l hn fid caps g hf hfl hlt) rfl ?_
  by_cases ha : l.any g = true
  · have h0 : (0 : Int) ≤ firstI g l := by unfold firstI; rw [if_pos ha]; omega
    simp (maxSteps := 4000000) only [amC, amX, evsA, evpA, elemsA, elemsP, sizedA, optA, refA, consO, Am.get, AV.elem, AV.cells, AV.one, hsetL, hset, hget, loadAV, rowAt?, loadCells', faddrAV, binAV, fillA, storeAV, AV.putCells, AV.ref, List.foldl, List.all, List.map, List.set, List.take, List.drop, Option.getD, Option.map, if_true, if_false, Nat.reduceEqDiff, Nat.reduceAdd, Nat.reduceLT, Nat.reduceLeDiff, reduceCtorEq, ↓reduceIte, pickAV, lenAV, intAV, slcA, slcAV, iaddrAV, extAV, fldAV, eqCells, eqCell, contAV, appendAV, foldAV, maxI, minI, Option.some.injEq, catT, h0]
    refine hK _ _ _ nofun ?_
    clear hK K
    rw [ha]
    exact CWx.ret fun al hal => finK_ext hal (finK_pure (.inr rfl) (xs := [.bool true]) (by simp [resRV, Am.get]) rfl rfl)
  · have h0 : ¬ (0 : Int) ≤ firstI g l := by unfold firstI; rw [if_neg ha]; decide
    have ha' : l.any g = false := by simpa using ha
    simp (maxSteps := 4000000) only [amC, amX, evsA, evpA, elemsA, elemsP, sizedA, optA, refA, consO, Am.get, AV.elem, AV.cells, AV.one, hsetL, hset, hget, loadAV, rowAt?, loadCells', faddrAV, binAV, fillA, storeAV, AV.putCells, AV.ref, List.foldl, List.all, List.map, List.set, List.take, List.drop, Option.getD, Option.map, if_true, if_false, Nat.reduceEqDiff, Nat.reduceAdd, Nat.reduceLT, Nat.reduceLeDiff, reduceCtorEq, ↓reduceIte, pickAV, lenAV, intAV, slcA, slcAV, iaddrAV, extAV, fldAV, eqCells, eqCell, contAV, appendAV, foldAV, maxI, minI, Option.some.injEq, catT, h0]
    refine hK _ _ _ nofun ?_
    clear hK K
    rw [ha']
    exact CWx.ret fun al hal => finK_ext hal (finK_pure (.inr rfl) (xs := [.bool false]) (by simp [resRV, Am.get]) rfl rfl)
theorem c38 (x y : Int) : CallsF Try.prog 38 [.int .i64 x, .int .i64 y] [] (pt (x, y)) [] := by
  refine callsF_cwx hm hf38 (by simp [cf38]) ?_
  simp only [cf38, argsAl]
  refine CWx.r fun K hK => ?_
  simp (maxSteps := 4000000) only [amC, amX, evsA, evpA, elemsA, elemsP, sizedA, optA, refA, consO, Am.get, AV.elem, AV.cells, AV.one, hsetL, hset, hget, loadAV, rowAt?, loadCells', faddrAV, binAV, fillA, storeAV, AV.putCells, AV.ref, List.foldl, List.all, List.map, List.set, List.take, List.drop, Option.getD, Option.map, if_true, if_false, Nat.reduceEqDiff, Nat.reduceAdd, Nat.reduceLT, Nat.reduceLeDiff, reduceCtorEq, ↓reduceIte, pickAV, lenAV, intAV, slcA, slcAV, iaddrAV, extAV, fldAV, eqCells, eqCell, contAV, appendAV, foldAV, maxI, minI, Option.some.injEq, catT, AV.cells, AV.elem, AV.one, List.all_cons, List.all_nil]
  refine hK _ _ _ nofun ?_
  clear hK K
  refine CWx.r fun K hK => ?_
  simp (maxSteps := 4000000) only [amC, amX, evsA, evpA, elemsA, elemsP, sizedA, optA, refA, consO, Am.get, AV.elem, AV.cells, AV.one, hsetL, hset, hget, loadAV, rowAt?, loadCells', faddrAV, binAV, fillA, storeAV, AV.putCells, AV.ref, List.foldl, List.all, List.map, List.set, List.take, List.drop, Option.getD, Option.map, if_true, if_false, Nat.reduceEqDiff, Nat.reduceAdd, Nat.reduceLT, Nat.reduceLeDiff, reduceCtorEq, ↓reduceIte, pickAV, lenAV, intAV, slcA, slcAV, iaddrAV, extAV, fldAV, eqCells, eqCell, contAV, appendAV, foldAV, maxI, minI, Option.some.injEq, catT, AV.cells, AV.elem, AV.one, List.all_cons, List.all_nil, AV.putCells]
  refine hK _ _ _ nofun ?_
  clear hK K
  exact CWx.ret fun al hal => finK_ext hal (finK_pure (.inr rfl) (xs := [pt (x, y)]) (by simp [resRV, Am.get, loadAV, rowAt?, hget, AV.cells, loadCells', pt]) rfl rfl)
theorem c39 (a b : List Nat) (hn : a.length < 4611686018427387904) : CallsF Try.prog 39 [ixV a, ixV b] [] (.bool (decide (a = b))) [] := by
  refine callsF_cwx hm hf39 (by simp [cf39]) ?_
  simp only [cf39, argsAl]
  refine CWx.r fun K hK => ?_
  simp (maxSteps := 4000000) only [amC, amX, evsA, evpA, elemsA, elemsP, sizedA, optA, refA, consO, Am.get, AV.elem, AV.cells, AV.one, hsetL, hset, hget, loadAV, rowAt?, loadCells', faddrAV, binAV, fillA, storeAV, AV.putCells, AV.ref, List.foldl, List.all, List.map, List.set, List.take, List.drop, Option.getD, Option.map, if_true, if_false, Nat.reduceEqDiff, Nat.reduceAdd, Nat.reduceLT, Nat.reduceLeDiff, reduceCtorEq, ↓reduceIte, pickAV, lenAV, intAV, slcA, slcAV, iaddrAV, extAV, fldAV, eqCells, eqCell, contAV, appendAV, foldAV, maxI, minI, Option.some.injEq, catT]
  refine hK _ _ _ nofun ?_
  clear hK K
  refine CWx.seq ?_
  unfold ixV
  by_cases hl : a.length = b.length
  · have hl' : ((a.length : Int) != (b.length : Int)) = false := by rw [hl]; simp
    refine CWx.r fun K hK => ?_
    simp (maxSteps := 4000000) only [amC, amX, evsA, evpA, elemsA, elemsP, sizedA, optA, refA, consO, Am.get, AV.elem, AV.cells, AV.one, hsetL, hset, hget, loadAV, rowAt?, loadCells', faddrAV, binAV, fillA, storeAV, AV.putCells, AV.ref, List.foldl, List.all, List.map, List.set, List.take, List.drop, Option.getD, Option.map, if_true, if_false, Nat.reduceEqDiff, Nat.reduceAdd, Nat.reduceLT, Nat.reduceLeDiff, reduceCtorEq, ↓reduceIte, pickAV, lenAV, intAV, slcA, slcAV, iaddrAV, extAV, fldAV, eqCells, eqCell, contAV, appendAV, foldAV, maxI, minI, Option.some.injEq, catT, ix_length, hl']
    refine hK _ _ _ nofun ?_
    clear hK K
    refine CWx.condF rfl (CWx.skip (CWx.go ?_))
    refine CWx.seq ?_
    refine CWx.r fun K hK => ?_
    simp (maxSteps := 4000000) only [amC, amX, evsA, evpA, elemsA, elemsP, sizedA, optA, refA, consO, Am.get, AV.elem, AV.cells, AV.one, hsetL, hset, hget, loadAV, rowAt?, loadCells', faddrAV, binAV, fillA, storeAV, AV.putCells, AV.ref, List.foldl, List.all, List.map, List.set, List.take, List.drop, Option.getD, Option.map, if_true, if_false, Nat.reduceEqDiff, Nat.reduceAdd, Nat.reduceLT, Nat.reduceLeDiff, reduceCtorEq, ↓reduceIte, pickAV, lenAV, intAV, slcA, slcAV, iaddrAV, extAV, fldAV, eqCells, eqCell, contAV, appendAV, foldAV, maxI, minI, Option.some.injEq, catT, ix_length]
    refine hK _ _ _ nofun ?_
    clear hK K
    refine CWx.block ?_
    refine CWx.loopF (fun i : Nat => a.length - i) (fun i => ⟨[(0, ixV a), (1, ixV b), (12, .int .i64 (a.length : Int)), (13, .int .i64 (i : Int))], []⟩)
      (fun i => i ≤ a.length ∧ a.take i = b.take i) (fun i hi => ?_) 0 ⟨Nat.zero_le _, by simp⟩ (Fgt.mk' 0 (by simp) (by simp [keepB, Am.get, AV.lt, ltL, ltL_ix, ixV]) rfl trivial)
    obtain ⟨hi1, hi2⟩ := hi
    by_cases h : (i : Int) < (a.length : Int)
    · have h2 : (i : Int) < (b.length : Int) := by omega
      have ga := ix_get a (show i < a.length by omega)
      have gb := ix_get b (show i < b.length by omega)
      unfold ixV
      refine CWx.r fun K hK => ?_
      simp (maxSteps := 4000000) only [amC, amX, evsA, evpA, elemsA, elemsP, sizedA, optA, refA, consO, Am.get, AV.elem, AV.cells, AV.one, hsetL, hset, hget, loadAV, rowAt?, loadCells', faddrAV, binAV, fillA, storeAV, AV.putCells, AV.ref, List.foldl, List.all, List.map, List.set, List.take, List.drop, Option.getD, Option.map, if_true, if_false, Nat.reduceEqDiff, Nat.reduceAdd, Nat.reduceLT, Nat.reduceLeDiff, reduceCtorEq, ↓reduceIte, pickAV, lenAV, intAV, slcA, slcAV, iaddrAV, extAV, fldAV, eqCells, eqCell, contAV, appendAV, foldAV, maxI, minI, Option.some.injEq, catT, h]
      refine hK _ _ _ nofun ?_
      clear hK K
      refine CWx.seq ?_
      refine CWx.condT rfl (CWx.skip (CWx.go ?_))
      refine CWx.seq ?_
      refine CWx.block ?_
      refine CWx.r fun K hK => ?_
      simp (maxSteps := 4000000) only [amC, amX, evsA, evpA, elemsA, elemsP, sizedA, optA, refA, consO, Am.get, AV.elem, AV.cells, AV.one, hsetL, hset, hget, loadAV, rowAt?, loadCells', faddrAV, binAV, fillA, storeAV, AV.putCells, AV.ref, List.foldl, List.all, List.map, List.set, List.take, List.drop, Option.getD, Option.map, if_true, if_false, Nat.reduceEqDiff, Nat.reduceAdd, Nat.reduceLT, Nat.reduceLeDiff, reduceCtorEq, ↓reduceIte, pickAV, lenAV, intAV, slcA, slcAV, iaddrAV, extAV, fldAV, eqCells, eqCell, contAV, appendAV, foldAV, maxI, minI, Option.some.injEq, catT]
      refine hK _ _ _ nofun ?_
      clear hK K
      by_cases he : a.getD i 0 = b.getD i 0
      · have he' : (((a.getD i 0 : Nat) : Int) != ((b.getD i 0 : Nat) : Int)) = false := by rw [he]; simp
        refine CWx.r fun K hK => ?_
        simp (maxSteps := 4000000) only [amC, amX, evsA, evpA, elemsA, elemsP, sizedA, optA, refA, consO, Am.get, AV.elem, AV.cells, AV.one, hsetL, hset, hget, loadAV, rowAt?, loadCells', faddrAV, binAV, fillA, storeAV, AV.putCells, AV.ref, List.foldl, List.all, List.map, List.set, List.take, List.drop, Option.getD, Option.map, if_true, if_false, Nat.reduceEqDiff, Nat.reduceAdd, Nat.reduceLT, Nat.reduceLeDiff, reduceCtorEq, ↓reduceIte, pickAV, lenAV, intAV, slcA, slcAV, iaddrAV, extAV, fldAV, eqCells, eqCell, contAV, appendAV, foldAV, maxI, minI, Option.some.injEq, catT, h, h2, ga, gb, ix_length, Int.natCast_nonneg, Int.toNat_natCast, AV.cells, he']
        refine hK _ _ _ (fun _ => rfl) ?_
        clear hK K
        refine CWx.condF rfl (CWx.skip (CWx.go ?_))
        refine CWx.e fun K hK => ?_
        simp (maxSteps := 4000000) only [amC, amX, evsA, evpA, elemsA, elemsP, sizedA, optA, refA, consO, Am.get, AV.elem, AV.cells, AV.one, hsetL, hset, hget, loadAV, rowAt?, loadCells', faddrAV, binAV, fillA, storeAV, AV.putCells, AV.ref, List.foldl, List.all, List.map, List.set, List.take, List.drop, Option.getD, Option.map, if_true, if_false, Nat.reduceEqDiff, Nat.reduceAdd, Nat.reduceLT, Nat.reduceLeDiff, reduceCtorEq, ↓reduceIte, pickAV, lenAV, intAV, slcA, slcAV, iaddrAV, extAV, fldAV, eqCells, eqCell, contAV, appendAV, foldAV, maxI, minI, Option.some.injEq, catT, wrap_nat i (by omega)]
        refine hK _ _ _ nofun ?_
        clear hK K
        intro al hal
        refine ⟨i + 1, by omega, ⟨by omega, ?_⟩, Fgt.ofx hal (Fgt.mk' 0 (by simp) (by simp [keepB, Am.get, AV.lt, ltL, ltL_ix, ixV]) rfl trivial)⟩
        rw [List.take_add_one, List.take_add_one, hi2, List.getElem?_eq_getElem (by omega), List.getElem?_eq_getElem (by omega)]
        have : a[i]'(by omega) = b[i]'(by omega) := by
          simpa [List.getD_eq_getElem?_getD, List.getElem?_eq_getElem (show i < a.length by omega), List.getElem?_eq_getElem (show i < b.length by omega)] using he
        rw [this]
      · have he' : (((a.getD i 0 : Nat) : Int) != ((b.getD i 0 : Nat) : Int)) = true := by simp only [bne_iff_ne, ne_eq]; omega
        refine CWx.r fun K hK => ?_
        simp (maxSteps := 4000000) only [amC, amX, evsA, evpA, elemsA, elemsP, sizedA, optA, refA, consO, Am.get, AV.elem, AV.cells, AV.one, hsetL, hset, hget, loadAV, rowAt?, loadCells', faddrAV, binAV, fillA, storeAV, AV.putCells, AV.ref, List.foldl, List.all, List.map, List.set, List.take, List.drop, Option.getD, Option.map, if_true, if_false, Nat.reduceEqDiff, Nat.reduceAdd, Nat.reduceLT, Nat.reduceLeDiff, reduceCtorEq, ↓reduceIte, pickAV, lenAV, intAV, slcA, slcAV, iaddrAV, extAV, fldAV, eqCells, eqCell, contAV, appendAV, foldAV, maxI, minI, Option.some.injEq, catT, h, h2, ga, gb, ix_length, Int.natCast_nonneg, Int.toNat_natCast, AV.cells, he']
        refine hK _ _ _ (fun _ => rfl) ?_
        clear hK K
        refine CWx.condT rfl ?_
        refine CWx.r fun K hK => ?_
        simp (maxSteps := 4000000) only [amC, amX, evsA, evpA, elemsA, elemsP, sizedA, optA, refA, consO, Am.get, AV.elem, AV.cells, AV.one, hsetL, hset, hget, loadAV, rowAt?, loadCells', faddrAV, binAV, fillA, storeAV, AV.putCells, AV.ref, List.foldl, List.all, List.map, List.set, List.take, List.drop, Option.getD, Option.map, if_true, if_false, Nat.reduceEqDiff, Nat.reduceAdd, Nat.reduceLT, Nat.reduceLeDiff, reduceCtorEq, ↓reduceIte, pickAV, lenAV, intAV, slcA, slcAV, iaddrAV, extAV, fldAV, eqCells, eqCell, contAV, appendAV, foldAV, maxI, minI, Option.some.injEq, catT]
        refine hK _ _ _ nofun ?_
        clear hK K
        have hr : a ≠ b := fun e => he (by rw [e])
        rw [decide_eq_false hr]
        exact CWx.ret fun al hal => finK_ext hal (finK_pure (.inr rfl) (xs := [.bool false]) (by simp [resRV, Am.get]) rfl rfl)
    · refine CWx.r fun K hK => ?_
      simp (maxSteps := 4000000) only [amC, amX, evsA, evpA, elemsA, elemsP, sizedA, optA, refA, consO, Am.get, AV.elem, AV.cells, AV.one, hsetL, hset, hget, loadAV, rowAt?, loadCells', faddrAV, binAV, fillA, storeAV, AV.putCells, AV.ref, List.foldl, List.all, List.map, List.set, List.take, List.drop, Option.getD, Option.map, if_true, if_false, Nat.reduceEqDiff, Nat.reduceAdd, Nat.reduceLT, Nat.reduceLeDiff, reduceCtorEq, ↓reduceIte, pickAV, lenAV, intAV, slcA, slcAV, iaddrAV, extAV, fldAV, eqCells, eqCell, contAV, appendAV, foldAV, maxI, minI, Option.some.injEq, catT, h]
      refine hK _ _ _ nofun ?_
      clear hK K
      refine CWx.seq ?_
      refine CWx.condF rfl (CWx.exit (CWx.go ?_))
      refine CWx.r fun K hK => ?_
      simp (maxSteps := 4000000) only [amC, amX, evsA, evpA, elemsA, elemsP, sizedA, optA, refA, consO, Am.get, AV.elem, AV.cells, AV.one, hsetL, hset, hget, loadAV, rowAt?, loadCells', faddrAV, binAV, fillA, storeAV, AV.putCells, AV.ref, List.foldl, List.all, List.map, List.set, List.take, List.drop, Option.getD, Option.map, if_true, if_false, Nat.reduceEqDiff, Nat.reduceAdd, Nat.reduceLT, Nat.reduceLeDiff, reduceCtorEq, ↓reduceIte, pickAV, lenAV, intAV, slcA, slcAV, iaddrAV, extAV, fldAV, eqCells, eqCell, contAV, appendAV, foldAV, maxI, minI, Option.some.injEq, catT]
      refine hK _ _ _ nofun ?_
      clear hK K
      have hr : a = b := by rw [List.take_of_length_le (by omega), List.take_of_length_le (by omega)] at hi2; exact hi2
      rw [decide_eq_true hr]
      exact CWx.ret fun al hal => finK_ext hal (finK_pure (.inr rfl) (xs := [.bool true]) (by simp [resRV, Am.get]) rfl rfl)
  · have hl' : ((a.length : Int) != (b.length : Int)) = true := by simp only [bne_iff_ne, ne_eq]; omega
    refine CWx.r fun K hK => ?_
    simp (maxSteps := 4000000) only [amC, amX, evsA, evpA, elemsA, elemsP, sizedA, optA, refA, consO, Am.get, AV.elem, AV.cells, AV.one, hsetL, hset, hget, loadAV, rowAt?, loadCells', faddrAV, binAV, fillA, storeAV, AV.putCells, AV.ref, List.foldl, List.all, List.map, List.set, List.take, List.drop, Option.getD, Option.map, if_true, if_false, Nat.reduceEqDiff, Nat.reduceAdd, Nat.reduceLT, Nat.reduceLeDiff, reduceCtorEq, ↓reduceIte, pickAV, lenAV, intAV, slcA, slcAV, iaddrAV, extAV, fldAV, eqCells, eqCell, contAV, appendAV, foldAV, maxI, minI, Option.some.injEq, catT, ix_length, hl']
    refine hK _ _ _ nofun ?_
    clear hK K
    refine CWx.condT rfl ?_
    refine CWx.r fun K hK => ?_
    simp (maxSteps := 4000000) only [amC, amX, evsA, evpA, elemsA, elemsP, sizedA, optA, refA, consO, Am.get, AV.elem, AV.cells, AV.one, hsetL, hset, hget, loadAV, rowAt?, loadCells', faddrAV, binAV, fillA, storeAV, AV.putCells, AV.ref, List.foldl, List.all, List.map, List.set, List.take, List.drop, Option.getD, Option.map, if_true, if_false, Nat.reduceEqDiff, Nat.reduceAdd, Nat.reduceLT, Nat.reduceLeDiff, reduceCtorEq, ↓reduceIte, pickAV, lenAV, intAV, slcA, slcAV, iaddrAV, extAV, fldAV, eqCells, eqCell, contAV, appendAV, foldAV, maxI, minI, Option.some.injEq, catT]
    refine hK _ _ _ nofun ?_
    clear hK K
    have hr : a ≠ b := fun e => hl (by rw [e])
    rw [decide_eq_false hr]
    exact CWx.ret fun al hal => finK_ext hal (finK_pure (.inr rfl) (xs := [.bool false]) (by simp [resRV, Am.get]) rfl rfl)
end Go.Hull
end
