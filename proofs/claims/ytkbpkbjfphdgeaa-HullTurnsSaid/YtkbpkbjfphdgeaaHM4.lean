/- Insertion sort, equal neighbours, reversing: laws.
   Conditions: none. -/
import Derived.Test.YtkbpkbjfphdgeaaHW11
import Derived.Test.YtkbpkbjfphdgeaaHM3
set_option linter.unusedVariables false
namespace Go.Hull

section sort
variable (lt : Nat → Nat → Bool)

/-- One more, from the right; the list stands the other way round. -/
def insR (x : Nat) : List Nat → List Nat
  | [] => [x]
  | y :: r => if lt x y = true then y :: insR x r else x :: y :: r

theorem inner_insR : ∀ (r : List Nat) (x : Nat) (post : List Nat), inner lt r.length (r.reverse ++ x :: post) = (insR lt x r).reverse ++ post := by
  intro r
  induction r with
  | nil => intro x post; rfl
  | cons y r ih =>
    intro x post
    have e : (y :: r).reverse ++ x :: post = r.reverse ++ y :: x :: post := by simp
    have g1 : (r.reverse ++ y :: x :: post).getD (r.length + 1) 0 = x := by simp [List.getD_eq_getElem?_getD]
    have g0 : (r.reverse ++ y :: x :: post).getD r.length 0 = y := by simp [List.getD_eq_getElem?_getD]
    have s : ((r.reverse ++ y :: x :: post).set (r.length + 1) y).set r.length x = r.reverse ++ x :: y :: post := by
      rw [List.set_append_right _ _ (by simp), List.set_append_right _ _ (by simp)]
      simp [show r.length + 1 - r.length = 1 by omega]
    rw [e]
    simp only [List.length_cons, inner, g1, g0, insR]
    split
    · rw [s, ih]; simp
    · simp
theorem insR_length (x : Nat) : ∀ (r : List Nat), (insR lt x r).length = r.length + 1 := by
  intro r
  induction r with
  | nil => rfl
  | cons y r ih => simp only [insR]; split <;> simp [ih]
theorem outer_insR : ∀ (rest r : List Nat), outer lt rest.length r.length (r.reverse ++ rest) = (rest.foldl (fun r x => insR lt x r) r).reverse := by
  intro rest
  induction rest with
  | nil => intro r; simp [outer]
  | cons x rest ih =>
    intro r
    simp only [List.length_cons, outer, List.foldl_cons]
    rw [inner_insR, ← ih (insR lt x r), insR_length]
theorem insort_eq (a : Nat) (rest : List Nat) : insort lt (a :: rest) = (rest.foldl (fun r x => insR lt x r) [a]).reverse := by
  have := outer_insR lt rest [a]
  simpa [insort] using this

theorem insR_mem (x z : Nat) : ∀ (r : List Nat), z ∈ insR lt x r ↔ z = x ∨ z ∈ r := by
  intro r
  induction r with
  | nil => simp [insR]
  | cons y r ih =>
    simp only [insR]
    split
    · simp only [List.mem_cons, ih]
      constructor
      · rintro (h | h | h) <;> simp [h]
      · rintro (h | h | h) <;> simp [h]
    · simp only [List.mem_cons]
theorem fold_mem (z : Nat) : ∀ (rest r : List Nat), z ∈ rest.foldl (fun r x => insR lt x r) r ↔ z ∈ rest ∨ z ∈ r := by
  intro rest
  induction rest with
  | nil => intro r; simp
  | cons x rest ih =>
    intro r
    simp only [List.foldl_cons, ih, insR_mem, List.mem_cons]
    constructor
    · rintro (h | h | h) <;> simp [h]
    · rintro ((h | h) | h) <;> simp [h]
theorem insort_mem (z : Nat) (xs : List Nat) : z ∈ insort lt xs ↔ z ∈ xs := by
  cases xs with
  | nil => simp [insort, outer]
  | cons a rest => rw [insort_eq, List.mem_reverse, fold_mem]; simp only [List.mem_cons, List.not_mem_nil, or_false]; exact or_comm

variable (asym : ∀ a b, lt a b = true → lt b a = false) (ntrans : ∀ a b c, lt a b = false → lt b c = false → lt a c = false)

include asym ntrans in
theorem insR_sorted (x : Nat) : ∀ (r : List Nat), r.Pairwise (fun a b => lt a b = false) → (insR lt x r).Pairwise (fun a b => lt a b = false) := by
  intro r
  induction r with
  | nil => intro _; simp [insR]
  | cons y r ih =>
    intro h
    obtain ⟨h1, h2⟩ := List.pairwise_cons.1 h
    simp only [insR]
    split
    · rename_i hc
      refine List.pairwise_cons.2 ⟨fun z hz => ?_, ih h2⟩
      rcases (insR_mem lt x z r).1 hz with rfl | hz
      · exact asym _ _ hc
      · exact h1 z hz
    · rename_i hc
      have hc' : lt x y = false := by simpa using hc
      refine List.pairwise_cons.2 ⟨fun z hz => ?_, h⟩
      rcases List.mem_cons.1 hz with rfl | hz
      · exact hc'
      · exact ntrans _ _ _ hc' (h1 z hz)
include asym ntrans in
theorem fold_sorted : ∀ (rest r : List Nat), r.Pairwise (fun a b => lt a b = false) → (rest.foldl (fun r x => insR lt x r) r).Pairwise (fun a b => lt a b = false) := by
  intro rest
  induction rest with
  | nil => intro r h; exact h
  | cons x rest ih => intro r h; exact ih _ (insR_sorted lt asym ntrans x r h)
include asym ntrans in
theorem insort_sorted (xs : List Nat) : (insort lt xs).Pairwise (fun a b => lt b a = false) := by
  cases xs with
  | nil => simp [insort, outer]
  | cons a rest =>
    rw [insort_eq, List.pairwise_reverse]
    exact fold_sorted lt asym ntrans rest [a] (by simp)
end sort

section comp
variable (eq : Nat → Nat → Bool)

/-- The first one of each run that follows a. -/
def squash : Nat → List Nat → List Nat
  | _, [] => []
  | a, b :: r => if eq b a = true then squash b r else b :: squash b r

theorem compIn_take (k0 : Nat) : ∀ (rest : List Nat) (k2 k : Nat) (xs : List Nat) (a : Nat), 1 ≤ k0 + k2 → k < k0 + k2 → xs.drop (k0 + k2 - 1) = a :: rest →
    (compIn eq k0 rest.length k2 k xs).1.take (compIn eq k0 rest.length k2 k xs).2 = xs.take k ++ squash eq a rest := by
  intro rest
  induction rest with
  | nil => intro k2 k xs a _ _ _; simp [compIn, squash]
  | cons b rest ih =>
    intro k2 k xs a h1 hk hd
    have ga : xs[k0 + k2 - 1]? = some a := by
      have := congrArg (fun l => l[0]?) hd
      simpa using this
    have gb : xs[k0 + k2]? = some b := by
      have := congrArg (fun l => l[1]?) hd
      simp only [List.getElem?_drop, List.getElem?_cons_succ, List.getElem?_cons_zero] at this
      rwa [show k0 + k2 - 1 + 1 = k0 + k2 by omega] at this
    have hd' : xs.drop (k0 + k2) = b :: rest := by
      have := congrArg (List.drop 1) hd
      rw [List.drop_drop, show k0 + k2 - 1 + 1 = k0 + k2 by omega] at this
      simpa using this
    have hlen : k0 + k2 < xs.length := (List.getElem?_eq_some_iff.1 gb).1
    simp only [List.length_cons, compIn, List.getD_eq_getElem?_getD, ga, gb, Option.getD_some, squash]
    split
    · exact ih (k2 + 1) k xs b (by omega) (by omega) (by rw [show k0 + (k2 + 1) - 1 = k0 + k2 by omega]; exact hd')
    · have := ih (k2 + 1) (k + 1) (xs.set k b) b (by omega) (by omega) (by rw [show k0 + (k2 + 1) - 1 = k0 + k2 by omega, List.drop_set_of_lt (by omega)]; exact hd')
      rw [this, List.take_add_one, List.getElem?_set_self (by omega), List.take_set_of_le (by omega)]
      simp

theorem compOut_take : ∀ (rest : List Nat) (k : Nat) (xs : List Nat) (a : Nat), 1 ≤ k → xs.drop (k - 1) = a :: rest →
    (compOut eq rest.length k xs).1.take (compOut eq rest.length k xs).2 = xs.take k ++ squash eq a rest := by
  intro rest
  induction rest with
  | nil =>
    intro k xs a h1 hd
    have := congrArg List.length hd
    simp only [List.length_drop, List.length_cons, List.length_nil] at this
    simp only [List.length_nil, compOut, squash, List.append_nil]
    rw [List.take_of_length_le (Nat.le_refl _), List.take_of_length_le (by omega)]
  | cons b rest ih =>
    intro k xs a h1 hd
    have ga : xs[k - 1]? = some a := by
      have := congrArg (fun l => l[0]?) hd
      simpa using this
    have gb : xs[k]? = some b := by
      have := congrArg (fun l => l[1]?) hd
      simp only [List.getElem?_drop, List.getElem?_cons_succ, List.getElem?_cons_zero] at this
      rwa [show k - 1 + 1 = k by omega] at this
    have hd' : xs.drop k = b :: rest := by
      have := congrArg (List.drop 1) hd
      rw [List.drop_drop, show k - 1 + 1 = k by omega] at this
      simpa using this
    have hlen : k < xs.length := (List.getElem?_eq_some_iff.1 gb).1
    have hlr := congrArg List.length hd'
    simp only [List.length_drop, List.length_cons] at hlr
    simp only [List.length_cons, compOut, List.getD_eq_getElem?_getD, ga, gb, Option.getD_some, squash]
    split
    · have := compIn_take eq k rest 1 k xs b (by omega) (by omega) (by rw [show k + 1 - 1 = k by omega]; exact hd')
      rw [show xs.length - k - 1 = rest.length by omega, ← this]
      simp only [zeroed]
      have hle : (compIn eq k rest.length 1 k xs).2 ≤ (compIn eq k rest.length 1 k xs).1.length := by
        have h := compIn_spec eq (n := xs.foldl max 0 + 1) k rest.length 1 k xs (by omega) (by omega) (fun x hx => by
          have : ∀ (l : List Nat) (m : Nat), m ≤ l.foldl max m ∧ ∀ x ∈ l, x ≤ l.foldl max m := by
            intro l
            induction l with
            | nil => intro m; simp
            | cons y l ih => intro m; obtain ⟨i1, i2⟩ := ih (max m y); refine ⟨by simp only [List.foldl_cons]; omega, fun x hx => ?_⟩; rcases List.mem_cons.1 hx with rfl | hx; (· simp only [List.foldl_cons]; omega); exact i2 x hx
          have := (this xs 0).2 x hx; omega)
        omega
      rw [List.take_append_of_le_length (by rw [List.length_take]; omega), List.take_take, Nat.min_self]
    · have := ih (k + 1) xs b (by omega) (by rw [show k + 1 - 1 = k by omega]; exact hd')
      rw [this, List.take_add_one, gb]
      simp

theorem compact_take (a : Nat) (rest : List Nat) : (compact eq (a :: rest)).1.take (compact eq (a :: rest)).2 = a :: squash eq a rest := by
  unfold compact
  split
  · rename_i h
    simp only [List.length_cons] at h
    have : rest = [] := List.eq_nil_of_length_eq_zero (by omega)
    subst this
    simp [squash]
  · have := compOut_take eq rest 1 (a :: rest) a (Nat.le_refl _) rfl
    simpa using this
end comp

theorem rv_get (n : Nat) : ∀ (f i : Nat) (xs : List Nat), n ≤ xs.length → n ≤ i + f → ∀ k, (rv n f i xs)[k]? = if i ≤ k ∧ k < n - i then xs[n - 1 - k]? else xs[k]? := by
  intro f
  induction f with
  | zero => intro i xs hn hf k; simp only [rv]; rw [if_neg (by omega)]
  | succ f ih =>
    intro i xs hn hf k
    simp only [rv]
    split
    · rename_i hi
      have e1 : xs[n - 1 - i]? = some (xs.getD (n - 1 - i) 0) := by rw [List.getD_eq_getElem?_getD, List.getElem?_eq_getElem (by omega)]; rfl
      have e2 : xs[i]? = some (xs.getD i 0) := by rw [List.getD_eq_getElem?_getD, List.getElem?_eq_getElem (by omega)]; rfl
      have g : ∀ k, ((xs.set i (xs.getD (n - 1 - i) 0)).set (n - 1 - i) (xs.getD i 0))[k]? = if k = i then xs[n - 1 - i]? else if k = n - 1 - i then xs[i]? else xs[k]? := by
        intro k
        rw [List.getElem?_set, List.getElem?_set, e1, e2]
        simp only [List.length_set]
        by_cases h1 : n - 1 - i = k
        · rw [if_pos h1, if_pos (by omega), if_neg (by omega), if_pos (by omega)]
        · rw [if_neg h1]
          by_cases h2 : i = k
          · rw [if_pos h2, if_pos (by omega), if_pos (by omega)]
          · rw [if_neg h2, if_neg (by omega), if_neg (by omega)]
      rw [ih (i + 1) _ (by simp; omega) (by omega) k, g, g]
      by_cases c1 : i + 1 ≤ k ∧ k < n - (i + 1)
      · rw [if_pos c1, if_neg (by omega), if_neg (by omega), if_pos (by omega)]
      · rw [if_neg c1]
        by_cases c2 : k = i
        · rw [if_pos c2, if_pos (by omega), c2]
        · rw [if_neg c2]
          by_cases c3 : k = n - 1 - i
          · rw [if_pos c3, if_pos (by omega), c3, show n - 1 - (n - 1 - i) = i by omega]
          · rw [if_neg c3, if_neg (by omega)]
    · by_cases c : i ≤ k ∧ k < n - i
      · rw [if_pos c, show n - 1 - k = k by omega]
      · rw [if_neg c]

theorem rv_take {n : Nat} {xs : List Nat} (hn : n ≤ xs.length) : (rv n n 0 xs).take n = (xs.take n).reverse := by
  apply List.ext_getElem?
  intro k
  by_cases hk : k < n
  · rw [List.getElem?_take_of_lt hk, rv_get n n 0 xs hn (by omega), if_pos (by omega), List.getElem?_reverse (by rw [List.length_take]; omega), List.getElem?_take_of_lt (by rw [List.length_take]; omega), List.length_take, Nat.min_eq_left hn]
  · rw [List.getElem?_eq_none (by rw [List.length_take, rv_length]; omega), List.getElem?_eq_none (by rw [List.length_reverse, List.length_take]; omega)]
end Go.Hull
