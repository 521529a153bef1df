/- Two chains make a hull, in a circle: laws.
   Conditions: none. -/
import Derived.KernelRfl
import Derived.Test.YtkbpkbjfphdgeaaPart9
section
set_option linter.unusedVariables false
namespace Go.Hull

variable {D : Pt → Prop} {A B V : Nat → Pt} {x y : Nat}

theorem Two.vA (h : Two D A B x y) (hA : ∀ i, i < x → V i = A i) (hB : ∀ j, j < y → V (x + j) = B j) {i : Nat} (hi : i ≤ x) : V (i % (x + y)) = A i := by
  have y1 := h.y1
  rw [Nat.mod_eq_of_lt (by omega)]
  by_cases hx : i = x
  · subst hx; rw [h.join1]; exact hB 0 y1
  · exact hA i (by omega)
theorem Two.vB (h : Two D A B x y) (hA : ∀ i, i < x → V i = A i) (hB : ∀ j, j < y → V (x + j) = B j) {j : Nat} (hj : j ≤ y) : V ((x + j) % (x + y)) = B j := by
  have x1 := h.x1
  by_cases hy : j = y
  · subst hy; rw [Nat.mod_self, h.join2]; exact hA 0 x1
  · rw [Nat.mod_eq_of_lt (by omega)]; exact hB j (by omega)
theorem Two.edges (h : Two D A B x y) (hA : ∀ i, i < x → V i = A i) (hB : ∀ j, j < y → V (x + j) = B j) {i : Nat} (hi : i < x + y) {q : Pt} (hq : D q) : 0 ≤ left (V i) (V ((i + 1) % (x + y))) q := by
  by_cases hx : i < x
  · rw [hA i hx, h.vA hA hB (by omega)]
    exact h.lo.edge i hx q hq
  · obtain ⟨j, rfl⟩ : ∃ j, i = x + j := ⟨i - x, by omega⟩
    rw [hB j (by omega), show x + j + 1 = x + (j + 1) by omega, h.vB hA hB (by omega)]
    exact h.edgeB (by omega) hq
theorem Two.turning (h : Two D A B x y) (hA : ∀ i, i < x → V i = A i) (hB : ∀ j, j < y → V (x + j) = B j) (hn : 2 < x + y) {i : Nat} (hi : i < x + y) : 0 < left (V i) (V ((i + 1) % (x + y))) (V ((i + 2) % (x + y))) := by
  have x1 := h.x1
  have y1 := h.y1
  by_cases hx : i < x
  · rw [hA i hx, h.vA hA hB (by omega)]
    by_cases hx2 : i + 1 < x
    · rw [h.vA hA hB (by omega)]
      exact h.lo.turns i hx2
    · have t := h.turn1 hn
      rw [show i + 2 = x + 1 by omega, h.vB hA hB (by omega), show i + 1 = x by omega, show i = x - 1 by omega]
      exact t
  · obtain ⟨j, rfl⟩ : ∃ j, i = x + j := ⟨i - x, by omega⟩
    rw [hB j (by omega), show x + j + 1 = x + (j + 1) by omega, h.vB hA hB (by omega)]
    by_cases hy2 : j + 1 < y
    · rw [show x + j + 2 = x + (j + 2) by omega, h.vB hA hB (by omega)]
      exact h.turnB hy2
    · have t := h.turn2 hn
      rw [show x + j + 2 = 1 + (x + y) by omega, Nat.add_mod_right, h.vA hA hB (by omega), show j + 1 = y by omega, show j = y - 1 by omega]
      exact t
theorem Two.apart' (h : Two D A B x y) (hA : ∀ i, i < x → V i = A i) (hB : ∀ j, j < y → V (x + j) = B j) {i k : Nat} (hik : i < k) (hk : k < x + y) : V i ≠ V k := by
  intro e
  by_cases hx : k < x
  · rw [hA i (by omega), hA k hx] at e
    have := h.lo.lt hik (by omega)
    rw [e, before_irrefl] at this
    cases this
  · obtain ⟨j, rfl⟩ : ∃ j, k = x + j := ⟨k - x, by omega⟩
    rw [hB j (by omega)] at e
    by_cases hx2 : i < x
    · rw [hA i hx2] at e
      exact h.apart hx2 (by omega) e
    · obtain ⟨j', rfl⟩ : ∃ j, i = x + j := ⟨i - x, by omega⟩
      rw [hB j' (by omega)] at e
      have := h.ltB (i := j') (j := j) (by omega) (by omega)
      rw [e, before_irrefl] at this
      cases this
theorem length_le_of_nodup {α : Type} [BEq α] [LawfulBEq α] : ∀ (xs ys : List α), xs.Nodup → (∀ a ∈ xs, a ∈ ys) → xs.length ≤ ys.length := by
  intro xs
  induction xs with
  | nil => intro ys _ _; simp
  | cons a xs ih =>
    intro ys hn hs
    have ha := hs a (by simp)
    have hn' := List.nodup_cons.1 hn
    have := ih (ys.erase a) hn'.2 fun b hb => (List.mem_erase_of_ne (fun e => hn'.1 (by rw [← e]; exact hb))).2 (hs b (by simp [hb]))
    rw [List.length_erase_of_mem ha] at this
    have hp := List.length_pos_of_mem ha
    simp only [List.length_cons]; omega
theorem nodup_of_getD {d : Pt} {xs : List Pt} (h : ∀ i k, i < k → k < xs.length → xs.getD i d ≠ xs.getD k d) : xs.Nodup := by
  rw [List.nodup_iff_pairwise_ne, List.pairwise_iff_getElem]
  intro i j hi hj hij
  have := h i j hij hj
  simpa [List.getD_eq_getElem?_getD, List.getElem?_eq_getElem hi, List.getElem?_eq_getElem hj] using this
end Go.Hull
end
section
set_option linter.unusedVariables false
namespace Go.Hull

section sort
variable (lt : Nat → Nat → Bool)

/-- One more, from the right; the list stands the other way round. -/
def insR (x : Nat) : List Nat → List Nat
  | [] => [x]
  | y :: r => if lt x y = true then y :: insR x r else x :: y :: r
theorem inner_insR : ∀ (r : List Nat) (x : Nat) (post : List Nat), inner lt r.length (r.reverse ++ x :: post) = (insR lt x r).reverse ++ post := by
  intro r
  induction r with
  | nil => intro x post; rfl
  | cons y r ih =>
    intro x post
    have e : (y :: r).reverse ++ x :: post = r.reverse ++ y :: x :: post := by simp
    have g1 : (r.reverse ++ y :: x :: post).getD (r.length + 1) 0 = x := by simp [List.getD_eq_getElem?_getD]
    have g0 : (r.reverse ++ y :: x :: post).getD r.length 0 = y := by simp [List.getD_eq_getElem?_getD]
    have s : ((r.reverse ++ y :: x :: post).set (r.length + 1) y).set r.length x = r.reverse ++ x :: y :: post := by
      rw [List.set_append_right _ _ (by simp), List.set_append_right _ _ (by simp)]
      simp [show r.length + 1 - r.length = 1 by omega]
    rw [e]
    simp only [List.length_cons, inner, g1, g0, insR]
    split
    · rw [s, ih]; simp
    · simp
theorem insR_length (x : Nat) : ∀ (r : List Nat), (insR lt x r).length = r.length + 1 := by
  intro r
  induction r with
  | nil => rfl
  | cons y r ih => simp only [insR]; split <;> simp [ih]
theorem outer_insR : ∀ (rest r : List Nat), outer lt rest.length r.length (r.reverse ++ rest) = (rest.foldl (fun r x => insR lt x r) r).reverse := by
  intro rest
  induction rest with
  | nil => intro r; simp [outer]
  | cons x rest ih =>
    intro r
    simp only [List.length_cons, outer, List.foldl_cons]
    rw [inner_insR, ← ih (insR lt x r), insR_length]
theorem insort_eq (a : Nat) (rest : List Nat) : insort lt (a :: rest) = (rest.foldl (fun r x => insR lt x r) [a]).reverse := by
  have := outer_insR lt rest [a]
  simpa [insort] using this
theorem insR_mem (x z : Nat) : ∀ (r : List Nat), z ∈ insR lt x r ↔ z = x ∨ z ∈ r := by
  intro r
  induction r with
  | nil => simp [insR]
  | cons y r ih =>
    simp only [insR]
    split
    · simp only [List.mem_cons, ih]
      constructor
      · rintro (h | h | h) <;> simp [h]
      · rintro (h | h | h) <;> simp [h]
    · simp only [List.mem_cons]
theorem fold_mem (z : Nat) : ∀ (rest r : List Nat), z ∈ rest.foldl (fun r x => insR lt x r) r ↔ z ∈ rest ∨ z ∈ r := by
  intro rest
  induction rest with
  | nil => intro r; simp
  | cons x rest ih =>
    intro r
    simp only [List.foldl_cons, ih, insR_mem, List.mem_cons]
    constructor
    · rintro (h | h | h) <;> simp [h]
    · rintro ((h | h) | h) <;> simp [h]
theorem insort_mem (z : Nat) (xs : List Nat) : z ∈ insort lt xs ↔ z ∈ xs := by
  cases xs with
  | nil => simp [insort, outer]
  | cons a rest => rw [insort_eq, List.mem_reverse, fold_mem]; simp only [List.mem_cons, List.not_mem_nil, or_false]; exact or_comm
variable (asym : ∀ a b, lt a b = true → lt b a = false) (ntrans : ∀ a b c, lt a b = false → lt b c = false → lt a c = false)

include asym ntrans in
theorem insR_sorted (x : Nat) : ∀ (r : List Nat), r.Pairwise (fun a b => lt a b = false) → (insR lt x r).Pairwise (fun a b => lt a b = false) := by
  intro r
  induction r with
  | nil => intro _; simp [insR]
  | cons y r ih =>
    intro h
    obtain ⟨h1, h2⟩ := List.pairwise_cons.1 h
    simp only [insR]
    split
    · rename_i hc
      refine List.pairwise_cons.2 ⟨fun z hz => ?_, ih h2⟩
      rcases (insR_mem lt x z r).1 hz with rfl | hz
      · exact asym _ _ hc
      · exact h1 z hz
    · rename_i hc
      have hc' : lt x y = false := by simpa using hc
      refine List.pairwise_cons.2 ⟨fun z hz => ?_, h⟩
      rcases List.mem_cons.1 hz with rfl | hz
      · exact hc'
      · exact ntrans _ _ _ hc' (h1 z hz)
include asym ntrans in
theorem fold_sorted : ∀ (rest r : List Nat), r.Pairwise (fun a b => lt a b = false) → (rest.foldl (fun r x => insR lt x r) r).Pairwise (fun a b => lt a b = false) := by
  intro rest
  induction rest with
  | nil => intro r h; exact h
  | cons x rest ih => intro r h; exact ih _ (insR_sorted lt asym ntrans x r h)
include asym ntrans in
theorem insort_sorted (xs : List Nat) : (insort lt xs).Pairwise (fun a b => lt b a = false) := by
  cases xs with
  | nil => simp [insort, outer]
  | cons a rest =>
    rw [insort_eq, List.pairwise_reverse]
    exact fold_sorted lt asym ntrans rest [a] (by simp)
end sort

section comp
variable (eq : Nat → Nat → Bool)

/-- The first one of each run that follows a. -/
def squash : Nat → List Nat → List Nat
  | _, [] => []
  | a, b :: r => if eq b a = true then squash b r else b :: squash b r
theorem compIn_take (k0 : Nat) : ∀ (rest : List Nat) (k2 k : Nat) (xs : List Nat) (a : Nat), 1 ≤ k0 + k2 → k < k0 + k2 → xs.drop (k0 + k2 - 1) = a :: rest →
    (compIn eq k0 rest.length k2 k xs).1.take (compIn eq k0 rest.length k2 k xs).2 = xs.take k ++ squash eq a rest := by
  intro rest
  induction rest with
  | nil => intro k2 k xs a _ _ _; simp [compIn, squash]
  | cons b rest ih =>
    intro k2 k xs a h1 hk hd
    have ga : xs[k0 + k2 - 1]? = some a := by
      have := congrArg (fun l => l[0]?) hd
      simpa using this
    have gb : xs[k0 + k2]? = some b := by
      have := congrArg (fun l => l[1]?) hd
      simp only [List.getElem?_drop, List.getElem?_cons_succ, List.getElem?_cons_zero] at this
      rwa [show k0 + k2 - 1 + 1 = k0 + k2 by omega] at this
    have hd' : xs.drop (k0 + k2) = b :: rest := by
      have := congrArg (List.drop 1) hd
      rw [List.drop_drop, show k0 + k2 - 1 + 1 = k0 + k2 by omega] at this
      simpa using this
    have hlen : k0 + k2 < xs.length := (List.getElem?_eq_some_iff.1 gb).1
    simp only [List.length_cons, compIn, List.getD_eq_getElem?_getD, ga, gb, Option.getD_some, squash]
    split
    · exact ih (k2 + 1) k xs b (by omega) (by omega) (by rw [show k0 + (k2 + 1) - 1 = k0 + k2 by omega]; exact hd')
    · have := ih (k2 + 1) (k + 1) (xs.set k b) b (by omega) (by omega) (by rw [show k0 + (k2 + 1) - 1 = k0 + k2 by omega, List.drop_set_of_lt (by omega)]; exact hd')
      rw [this, List.take_add_one, List.getElem?_set_self (by omega), List.take_set_of_le (by omega)]
      simp
theorem compOut_take : ∀ (rest : List Nat) (k : Nat) (xs : List Nat) (a : Nat), 1 ≤ k → xs.drop (k - 1) = a :: rest →
    (compOut eq rest.length k xs).1.take (compOut eq rest.length k xs).2 = xs.take k ++ squash eq a rest := by
  intro rest
  induction rest with
  | nil =>
    intro k xs a h1 hd
    have := congrArg List.length hd
    simp only [List.length_drop, List.length_cons, List.length_nil] at this
    simp only [List.length_nil, compOut, squash, List.append_nil]
    rw [List.take_of_length_le (Nat.le_refl _), List.take_of_length_le (by omega)]
  | cons b rest ih =>
    intro k xs a h1 hd
    have ga : xs[k - 1]? = some a := by
      have := congrArg (fun l => l[0]?) hd
      simpa using this
    have gb : xs[k]? = some b := by
      have := congrArg (fun l => l[1]?) hd
      simp only [List.getElem?_drop, List.getElem?_cons_succ, List.getElem?_cons_zero] at this
      rwa [show k - 1 + 1 = k by omega] at this
    have hd' : xs.drop k = b :: rest := by
      have := congrArg (List.drop 1) hd
      rw [List.drop_drop, show k - 1 + 1 = k by omega] at this
      simpa using this
    have hlen : k < xs.length := (List.getElem?_eq_some_iff.1 gb).1
    have hlr := congrArg List.length hd'
    simp only [List.length_drop, List.length_cons] at hlr
    simp only [List.length_cons, compOut, List.getD_eq_getElem?_getD, ga, gb, Option.getD_some, squash]
    split
    · have := compIn_take eq k rest 1 k xs b (by omega) (by omega) (by rw [show k + 1 - 1 = k by omega]; exact hd')
      rw [show xs.length - k - 1 = rest.length by omega, ← this]
      simp only [zeroed]
      have hle : (compIn eq k rest.length 1 k xs).2 ≤ (compIn eq k rest.length 1 k xs).1.length := by
        have h := compIn_spec eq (n := xs.foldl max 0 + 1) k rest.length 1 k xs (by omega) (by omega) (fun x hx => by
          have : ∀ (l : List Nat) (m : Nat), m ≤ l.foldl max m ∧ ∀ x ∈ l, x ≤ l.foldl max m := by
            intro l
            induction l with
            | nil => intro m; simp
            | cons y l ih => intro m; obtain ⟨i1, i2⟩ := ih (max m y); refine ⟨by simp only [List.foldl_cons]; omega, fun x hx => ?_⟩; rcases List.mem_cons.1 hx with rfl | hx; (· simp only [List.foldl_cons]; omega); exact i2 x hx
          have := (this xs 0).2 x hx; omega)
        omega
      rw [List.take_append_of_le_length (by rw [List.length_take]; omega), List.take_take, Nat.min_self]
    · have := ih (k + 1) xs b (by omega) (by rw [show k + 1 - 1 = k by omega]; exact hd')
      rw [this, List.take_add_one, gb]
      simp
theorem compact_take (a : Nat) (rest : List Nat) : (compact eq (a :: rest)).1.take (compact eq (a :: rest)).2 = a :: squash eq a rest := by
  unfold compact
  split
  · rename_i h
    simp only [List.length_cons] at h
    have : rest = [] := List.eq_nil_of_length_eq_zero (by omega)
    subst this
    simp [squash]
  · have := compOut_take eq rest 1 (a :: rest) a (Nat.le_refl _) rfl
    simpa using this
end comp

theorem rv_get (n : Nat) : ∀ (f i : Nat) (xs : List Nat), n ≤ xs.length → n ≤ i + f → ∀ k, (rv n f i xs)[k]? = if i ≤ k ∧ k < n - i then xs[n - 1 - k]? else xs[k]? := by
  intro f
  induction f with
  | zero => intro i xs hn hf k; simp only [rv]; rw [if_neg (by omega)]
  | succ f ih =>
    intro i xs hn hf k
    simp only [rv]
    split
    · rename_i hi
      have e1 : xs[n - 1 - i]? = some (xs.getD (n - 1 - i) 0) := by rw [List.getD_eq_getElem?_getD, List.getElem?_eq_getElem (by omega)]; rfl
      have e2 : xs[i]? = some (xs.getD i 0) := by rw [List.getD_eq_getElem?_getD, List.getElem?_eq_getElem (by omega)]; rfl
      have g : ∀ k, ((xs.set i (xs.getD (n - 1 - i) 0)).set (n - 1 - i) (xs.getD i 0))[k]? = if k = i then xs[n - 1 - i]? else if k = n - 1 - i then xs[i]? else xs[k]? := by
        intro k
        rw [List.getElem?_set, List.getElem?_set, e1, e2]
        simp only [List.length_set]
        by_cases h1 : n - 1 - i = k
        · rw [if_pos h1, if_pos (by omega), if_neg (by omega), if_pos (by omega)]
        · rw [if_neg h1]
          by_cases h2 : i = k
          · rw [if_pos h2, if_pos (by omega), if_pos (by omega)]
          · rw [if_neg h2, if_neg (by omega), if_neg (by omega)]
      rw [ih (i + 1) _ (by simp; omega) (by omega) k, g, g]
      by_cases c1 : i + 1 ≤ k ∧ k < n - (i + 1)
      · rw [if_pos c1, if_neg (by omega), if_neg (by omega), if_pos (by omega)]
      · rw [if_neg c1]
        by_cases c2 : k = i
        · rw [if_pos c2, if_pos (by omega), c2]
        · rw [if_neg c2]
          by_cases c3 : k = n - 1 - i
          · rw [if_pos c3, if_pos (by omega), c3, show n - 1 - (n - 1 - i) = i by omega]
          · rw [if_neg c3, if_neg (by omega)]
    · by_cases c : i ≤ k ∧ k < n - i
      · rw [if_pos c, show n - 1 - k = k by omega]
      · rw [if_neg c]
theorem rv_take {n : Nat} {xs : List Nat} (hn : n ≤ xs.length) : (rv n n 0 xs).take n = (xs.take n).reverse := by
  apply List.ext_getElem?
  intro k
  by_cases hk : k < n
  · rw [List.getElem?_take_of_lt hk, rv_get n n 0 xs hn (by omega), if_pos (by omega), List.getElem?_reverse (by rw [List.length_take]; omega), List.getElem?_take_of_lt (by rw [List.length_take]; omega), List.length_take, Nat.min_eq_left hn]
  · rw [List.getElem?_eq_none (by rw [List.length_take, rv_length]; omega), List.getElem?_eq_none (by rw [List.length_reverse, List.length_take]; omega)]
end Go.Hull
end
section
set_option linter.unusedSimpArgs false
set_option linter.unusedVariables false
set_option maxHeartbeats 2000000
namespace Go.Hull
open Go Go.Am Go.Proofs

def ixV (v : List Nat) : AV := .sv false 1 (ix v)
theorem flat_ixV (v : List Nat) (i : Nat) : flatN true (i + 3) (ixV v) = true := by
  unfold ixV
  simp only [flatN]
  induction v with
  | nil => rfl
  | cons n v ih => exact ih
theorem lt_ixV (m : Nat) (v : List Nat) : (ixV v).lt m = true := by simp only [ixV, AV.lt, ltL_ix]
end Go.Hull
end
section
namespace Go.Hull.Aw
open Go Go.Am Go.Proofs

def nm (f : Nat) : Bool := natIn f [87, 104, 114, 127, 84, 64, 99, 67, 93, 109, 116]
def tb : AV := .sv false 2 [.agg [.int .i64 0, .int .i64 0], .agg [.int .i64 4, .int .i64 0], .agg [.int .i64 2, .int .i64 1], .agg [.int .i64 4, .int .i64 4], .agg [.int .i64 0, .int .i64 4], .agg [.int .i64 2, .int .i64 0]]
def ms0 : List Memo := []
theorem ok0 : MemoOk Try.prog ms0 := memoOk_nil
theorem x_check : CallsF Try.prog 50 [tb] [] (.int .i64 0) [] := xFm_sound hm tOk ok0 20 _ _ _ _ _ (by kernel_rfl : xFm nm T ms0 1000 20 50 [tb] [] = some (.int .i64 0, []))
def ms1 : List Memo := ⟨50, [tb], .int .i64 0, []⟩ :: ms0
theorem ok1 : MemoOk Try.prog ms1 := memoOk_cons x_check ok0
theorem x_order : CallsF Try.prog 83 [tb] [] (.tup [.sl 0 0 0 6, .int .i64 0]) [.row false 0 false 1 [.int .i64 0, .int .i64 4, .int .i64 5, .int .i64 2, .int .i64 1, .int .i64 3]] := xFm_sound hm tOk ok1 20 _ _ _ _ _ (by kernel_rfl : xFm nm T ms1 1000 20 83 [tb] [] = some (.tup [.sl 0 0 0 6, .int .i64 0], [.row false 0 false 1 [.int .i64 0, .int .i64 4, .int .i64 5, .int .i64 2, .int .i64 1, .int .i64 3]]))
def ms2 : List Memo := ⟨83, [tb], .tup [.sl 0 0 0 6, .int .i64 0], [.row false 0 false 1 [.int .i64 0, .int .i64 4, .int .i64 5, .int .i64 2, .int .i64 1, .int .i64 3]]⟩ :: ms1
theorem ok2 : MemoOk Try.prog ms2 := memoOk_cons x_order ok1
theorem x_around : CallsF Try.prog 51 [tb] [] (.sl 0 0 0 4) [.row false 0 false 1 [.int .i64 0, .int .i64 1, .int .i64 3, .int .i64 4]] := xFm_sound hm tOk ok2 20 _ _ _ _ _ (by kernel_rfl : xFm nm T ms2 1000 20 51 [tb] [] = some (.sl 0 0 0 4, [.row false 0 false 1 [.int .i64 0, .int .i64 1, .int .i64 3, .int .i64 4]]))
def ms3 : List Memo := ⟨51, [tb], .sl 0 0 0 4, [.row false 0 false 1 [.int .i64 0, .int .i64 1, .int .i64 3, .int .i64 4]]⟩ :: ms2
theorem ok3 : MemoOk Try.prog ms3 := memoOk_cons x_around ok2
theorem x_hull : CallsF Try.prog 13 [tb] [] (.tup [.sl 0 0 0 4, .int .i64 0]) [.row false 0 false 1 [.int .i64 0, .int .i64 1, .int .i64 3, .int .i64 4]] := xFm_sound hm tOk ok3 20 _ _ _ _ _ (by kernel_rfl : xFm nm T ms3 1000 20 13 [tb] [] = some (.tup [.sl 0 0 0 4, .int .i64 0], [.row false 0 false 1 [.int .i64 0, .int .i64 1, .int .i64 3, .int .i64 4]]))
def ms4 : List Memo := ⟨13, [tb], .tup [.sl 0 0 0 4, .int .i64 0], [.row false 0 false 1 [.int .i64 0, .int .i64 1, .int .i64 3, .int .i64 4]]⟩ :: ms3
theorem ok4 : MemoOk Try.prog ms4 := memoOk_cons x_hull ok3
theorem x_in : CallsF Try.prog 15 [tb, .agg [.int .i64 2, .int .i64 1]] [] (.tup [.int .i64 1, .int .i64 0]) [] := xFm_sound hm tOk ok4 20 _ _ _ _ _ (by kernel_rfl : xFm nm T ms4 1000 20 15 [tb, .agg [.int .i64 2, .int .i64 1]] [] = some (.tup [.int .i64 1, .int .i64 0], []))
def ms5 : List Memo := ⟨15, [tb, .agg [.int .i64 2, .int .i64 1]], .tup [.int .i64 1, .int .i64 0], []⟩ :: ms4
theorem ok5 : MemoOk Try.prog ms5 := memoOk_cons x_in ok4
theorem x_on : CallsF Try.prog 15 [tb, .agg [.int .i64 2, .int .i64 0]] [] (.tup [.int .i64 0, .int .i64 0]) [] := xFm_sound hm tOk ok5 20 _ _ _ _ _ (by kernel_rfl : xFm nm T ms5 1000 20 15 [tb, .agg [.int .i64 2, .int .i64 0]] [] = some (.tup [.int .i64 0, .int .i64 0], []))
def ms6 : List Memo := ⟨15, [tb, .agg [.int .i64 2, .int .i64 0]], .tup [.int .i64 0, .int .i64 0], []⟩ :: ms5
theorem ok6 : MemoOk Try.prog ms6 := memoOk_cons x_on ok5
theorem x_ext : CallsF Try.prog 17 [tb, .agg [.int .i64 1, .int .i64 0]] [] (.tup [.sl 0 0 0 2, .int .i64 0]) [.row false 0 false 1 [.int .i64 1, .int .i64 3]] := xFm_sound hm tOk ok6 20 _ _ _ _ _ (by kernel_rfl : xFm nm T ms6 1000 20 17 [tb, .agg [.int .i64 1, .int .i64 0]] [] = some (.tup [.sl 0 0 0 2, .int .i64 0], [.row false 0 false 1 [.int .i64 1, .int .i64 3]]))
def ms7 : List Memo := ⟨17, [tb, .agg [.int .i64 1, .int .i64 0]], .tup [.sl 0 0 0 2, .int .i64 0], [.row false 0 false 1 [.int .i64 1, .int .i64 3]]⟩ :: ms6
theorem ok7 : MemoOk Try.prog ms7 := memoOk_cons x_ext ok6
theorem x_opp01 : CallsF Try.prog 65 [.sv false 2 [.agg [.int .i64 0, .int .i64 0], .agg [.int .i64 4, .int .i64 0], .agg [.int .i64 4, .int .i64 4], .agg [.int .i64 0, .int .i64 4]], .agg [.int .i64 0, .int .i64 0], .agg [.int .i64 4, .int .i64 0]] [] (.bool true) [] := xFm_sound hm tOk ok7 20 _ _ _ _ _ (by kernel_rfl : xFm nm T ms7 1000 20 65 [.sv false 2 [.agg [.int .i64 0, .int .i64 0], .agg [.int .i64 4, .int .i64 0], .agg [.int .i64 4, .int .i64 4], .agg [.int .i64 0, .int .i64 4]], .agg [.int .i64 0, .int .i64 0], .agg [.int .i64 4, .int .i64 0]] [] = some (.bool true, []))
def ms8 : List Memo := ⟨65, [.sv false 2 [.agg [.int .i64 0, .int .i64 0], .agg [.int .i64 4, .int .i64 0], .agg [.int .i64 4, .int .i64 4], .agg [.int .i64 0, .int .i64 4]], .agg [.int .i64 0, .int .i64 0], .agg [.int .i64 4, .int .i64 0]], .bool true, []⟩ :: ms7
theorem ok8 : MemoOk Try.prog ms8 := memoOk_cons x_opp01 ok7
theorem x_opp02 : CallsF Try.prog 65 [.sv false 2 [.agg [.int .i64 0, .int .i64 0], .agg [.int .i64 4, .int .i64 0], .agg [.int .i64 4, .int .i64 4], .agg [.int .i64 0, .int .i64 4]], .agg [.int .i64 0, .int .i64 0], .agg [.int .i64 4, .int .i64 4]] [] (.bool true) [] := xFm_sound hm tOk ok8 20 _ _ _ _ _ (by kernel_rfl : xFm nm T ms8 1000 20 65 [.sv false 2 [.agg [.int .i64 0, .int .i64 0], .agg [.int .i64 4, .int .i64 0], .agg [.int .i64 4, .int .i64 4], .agg [.int .i64 0, .int .i64 4]], .agg [.int .i64 0, .int .i64 0], .agg [.int .i64 4, .int .i64 4]] [] = some (.bool true, []))
def ms9 : List Memo := ⟨65, [.sv false 2 [.agg [.int .i64 0, .int .i64 0], .agg [.int .i64 4, .int .i64 0], .agg [.int .i64 4, .int .i64 4], .agg [.int .i64 0, .int .i64 4]], .agg [.int .i64 0, .int .i64 0], .agg [.int .i64 4, .int .i64 4]], .bool true, []⟩ :: ms8
theorem ok9 : MemoOk Try.prog ms9 := memoOk_cons x_opp02 ok8
theorem x_opp03 : CallsF Try.prog 65 [.sv false 2 [.agg [.int .i64 0, .int .i64 0], .agg [.int .i64 4, .int .i64 0], .agg [.int .i64 4, .int .i64 4], .agg [.int .i64 0, .int .i64 4]], .agg [.int .i64 0, .int .i64 0], .agg [.int .i64 0, .int .i64 4]] [] (.bool true) [] := xFm_sound hm tOk ok9 20 _ _ _ _ _ (by kernel_rfl : xFm nm T ms9 1000 20 65 [.sv false 2 [.agg [.int .i64 0, .int .i64 0], .agg [.int .i64 4, .int .i64 0], .agg [.int .i64 4, .int .i64 4], .agg [.int .i64 0, .int .i64 4]], .agg [.int .i64 0, .int .i64 0], .agg [.int .i64 0, .int .i64 4]] [] = some (.bool true, []))
def ms10 : List Memo := ⟨65, [.sv false 2 [.agg [.int .i64 0, .int .i64 0], .agg [.int .i64 4, .int .i64 0], .agg [.int .i64 4, .int .i64 4], .agg [.int .i64 0, .int .i64 4]], .agg [.int .i64 0, .int .i64 0], .agg [.int .i64 0, .int .i64 4]], .bool true, []⟩ :: ms9
theorem ok10 : MemoOk Try.prog ms10 := memoOk_cons x_opp03 ok9
theorem x_opp12 : CallsF Try.prog 65 [.sv false 2 [.agg [.int .i64 0, .int .i64 0], .agg [.int .i64 4, .int .i64 0], .agg [.int .i64 4, .int .i64 4], .agg [.int .i64 0, .int .i64 4]], .agg [.int .i64 4, .int .i64 0], .agg [.int .i64 4, .int .i64 4]] [] (.bool true) [] := xFm_sound hm tOk ok10 20 _ _ _ _ _ (by kernel_rfl : xFm nm T ms10 1000 20 65 [.sv false 2 [.agg [.int .i64 0, .int .i64 0], .agg [.int .i64 4, .int .i64 0], .agg [.int .i64 4, .int .i64 4], .agg [.int .i64 0, .int .i64 4]], .agg [.int .i64 4, .int .i64 0], .agg [.int .i64 4, .int .i64 4]] [] = some (.bool true, []))
def ms11 : List Memo := ⟨65, [.sv false 2 [.agg [.int .i64 0, .int .i64 0], .agg [.int .i64 4, .int .i64 0], .agg [.int .i64 4, .int .i64 4], .agg [.int .i64 0, .int .i64 4]], .agg [.int .i64 4, .int .i64 0], .agg [.int .i64 4, .int .i64 4]], .bool true, []⟩ :: ms10
theorem ok11 : MemoOk Try.prog ms11 := memoOk_cons x_opp12 ok10
theorem x_opp13 : CallsF Try.prog 65 [.sv false 2 [.agg [.int .i64 0, .int .i64 0], .agg [.int .i64 4, .int .i64 0], .agg [.int .i64 4, .int .i64 4], .agg [.int .i64 0, .int .i64 4]], .agg [.int .i64 4, .int .i64 0], .agg [.int .i64 0, .int .i64 4]] [] (.bool true) [] := xFm_sound hm tOk ok11 20 _ _ _ _ _ (by kernel_rfl : xFm nm T ms11 1000 20 65 [.sv false 2 [.agg [.int .i64 0, .int .i64 0], .agg [.int .i64 4, .int .i64 0], .agg [.int .i64 4, .int .i64 4], .agg [.int .i64 0, .int .i64 4]], .agg [.int .i64 4, .int .i64 0], .agg [.int .i64 0, .int .i64 4]] [] = some (.bool true, []))
def ms12 : List Memo := ⟨65, [.sv false 2 [.agg [.int .i64 0, .int .i64 0], .agg [.int .i64 4, .int .i64 0], .agg [.int .i64 4, .int .i64 4], .agg [.int .i64 0, .int .i64 4]], .agg [.int .i64 4, .int .i64 0], .agg [.int .i64 0, .int .i64 4]], .bool true, []⟩ :: ms11
theorem ok12 : MemoOk Try.prog ms12 := memoOk_cons x_opp13 ok11
theorem x_opp23 : CallsF Try.prog 65 [.sv false 2 [.agg [.int .i64 0, .int .i64 0], .agg [.int .i64 4, .int .i64 0], .agg [.int .i64 4, .int .i64 4], .agg [.int .i64 0, .int .i64 4]], .agg [.int .i64 4, .int .i64 4], .agg [.int .i64 0, .int .i64 4]] [] (.bool true) [] := xFm_sound hm tOk ok12 20 _ _ _ _ _ (by kernel_rfl : xFm nm T ms12 1000 20 65 [.sv false 2 [.agg [.int .i64 0, .int .i64 0], .agg [.int .i64 4, .int .i64 0], .agg [.int .i64 4, .int .i64 4], .agg [.int .i64 0, .int .i64 4]], .agg [.int .i64 4, .int .i64 4], .agg [.int .i64 0, .int .i64 4]] [] = some (.bool true, []))
def ms13 : List Memo := ⟨65, [.sv false 2 [.agg [.int .i64 0, .int .i64 0], .agg [.int .i64 4, .int .i64 0], .agg [.int .i64 4, .int .i64 4], .agg [.int .i64 0, .int .i64 4]], .agg [.int .i64 4, .int .i64 4], .agg [.int .i64 0, .int .i64 4]], .bool true, []⟩ :: ms12
theorem ok13 : MemoOk Try.prog ms13 := memoOk_cons x_opp23 ok12
theorem x_sorted : CallsF Try.prog 63 [.clo 94 [.rp true [.sv false 1 [.int .i64 0, .int .i64 1, .int .i64 3, .int .i64 4]]]] [] (.sl 0 0 0 4) [.row false 0 false 1 [.int .i64 0, .int .i64 1, .int .i64 3, .int .i64 4]] := xFm_sound hm tOk ok13 20 _ _ _ _ _ (by kernel_rfl : xFm nm T ms13 1000 20 63 [.clo 94 [.rp true [.sv false 1 [.int .i64 0, .int .i64 1, .int .i64 3, .int .i64 4]]]] [] = some (.sl 0 0 0 4, [.row false 0 false 1 [.int .i64 0, .int .i64 1, .int .i64 3, .int .i64 4]]))
def ms14 : List Memo := ⟨63, [.clo 94 [.rp true [.sv false 1 [.int .i64 0, .int .i64 1, .int .i64 3, .int .i64 4]]]], .sl 0 0 0 4, [.row false 0 false 1 [.int .i64 0, .int .i64 1, .int .i64 3, .int .i64 4]]⟩ :: ms13
theorem ok14 : MemoOk Try.prog ms14 := memoOk_cons x_sorted ok13
theorem x_anti : CallsF Try.prog 20 [tb] [] (.tup [.sl 0 0 0 6, .int .i64 0]) [.row false 0 false 2 [.agg [.int .i64 0, .int .i64 1], .agg [.int .i64 0, .int .i64 3], .agg [.int .i64 0, .int .i64 4], .agg [.int .i64 1, .int .i64 3], .agg [.int .i64 1, .int .i64 4], .agg [.int .i64 3, .int .i64 4]]] := xFm_sound hm tOk ok14 20 _ _ _ _ _ (by kernel_rfl : xFm nm T ms14 1000 20 20 [tb] [] = some (.tup [.sl 0 0 0 6, .int .i64 0], [.row false 0 false 2 [.agg [.int .i64 0, .int .i64 1], .agg [.int .i64 0, .int .i64 3], .agg [.int .i64 0, .int .i64 4], .agg [.int .i64 1, .int .i64 3], .agg [.int .i64 1, .int .i64 4], .agg [.int .i64 3, .int .i64 4]]]))
def ms15 : List Memo := ⟨20, [tb], .tup [.sl 0 0 0 6, .int .i64 0], [.row false 0 false 2 [.agg [.int .i64 0, .int .i64 1], .agg [.int .i64 0, .int .i64 3], .agg [.int .i64 0, .int .i64 4], .agg [.int .i64 1, .int .i64 3], .agg [.int .i64 1, .int .i64 4], .agg [.int .i64 3, .int .i64 4]]]⟩ :: ms14
theorem ok15 : MemoOk Try.prog ms15 := memoOk_cons x_anti ok14
theorem x_far : CallsF Try.prog 44 [tb] [] (.tup [.int .i64 32, .agg [.int .i64 0, .int .i64 3], .int .i64 0]) [] := xFm_sound hm tOk ok15 20 _ _ _ _ _ (by kernel_rfl : xFm nm T ms15 1000 20 44 [tb] [] = some (.tup [.int .i64 32, .agg [.int .i64 0, .int .i64 3], .int .i64 0], []))
def ms16 : List Memo := ⟨44, [tb], .tup [.int .i64 32, .agg [.int .i64 0, .int .i64 3], .int .i64 0], []⟩ :: ms15
theorem ok16 : MemoOk Try.prog ms16 := memoOk_cons x_far ok15
theorem x_sep : CallsF Try.prog 23 [.sv false 2 [.agg [.int .i64 0, .int .i64 0], .agg [.int .i64 0, .int .i64 5]], .sv false 2 [.agg [.int .i64 1, .int .i64 0]]] [] (.tup [.bool true, .agg [.int .i64 1, .int .i64 0], .int .i64 0, .int .i64 0]) [] := xFm_sound hm tOk ok16 20 _ _ _ _ _ (by kernel_rfl : xFm nm T ms16 1000 20 23 [.sv false 2 [.agg [.int .i64 0, .int .i64 0], .agg [.int .i64 0, .int .i64 5]], .sv false 2 [.agg [.int .i64 1, .int .i64 0]]] [] = some (.tup [.bool true, .agg [.int .i64 1, .int .i64 0], .int .i64 0, .int .i64 0], []))
def ms17 : List Memo := ⟨23, [.sv false 2 [.agg [.int .i64 0, .int .i64 0], .agg [.int .i64 0, .int .i64 5]], .sv false 2 [.agg [.int .i64 1, .int .i64 0]]], .tup [.bool true, .agg [.int .i64 1, .int .i64 0], .int .i64 0, .int .i64 0], []⟩ :: ms16
theorem ok17 : MemoOk Try.prog ms17 := memoOk_cons x_sep ok16
theorem x_awake : CallsF Try.prog 12 [] [] (.bool true) [] := xFm_sound hm tOk ok17 20 _ _ _ _ _ (by kernel_rfl : xFm nm T ms17 1000 20 12 [] [] = some (.bool true, []))
end Go.Hull.Aw
end
section
set_option linter.unusedSimpArgs false
set_option linter.unusedVariables false
set_option maxHeartbeats 4000000
namespace Go.Hull
open Go Go.Am Go.Proofs

def P (l : List Pt) (i : Nat) : Pt := l.getD i (0, 0)
structure HullT (l : List Pt) (v : List Nat) : Prop where
  ne : 0 < v.length
  le : v.length ≤ l.length
  mem : ∀ x ∈ v, x < l.length
  first : ∀ p ∈ l, before p (P l (v.getD 0 0)) = false
  big : 2 < v.length → ∀ i, i < v.length → ∀ p ∈ l, 0 ≤ left (P l (v.getD i 0)) (P l (v.getD ((i + 1) % v.length) 0)) p
  turns : 2 < v.length → ∀ i, i < v.length → 0 < left (P l (v.getD i 0)) (P l (v.getD ((i + 1) % v.length) 0)) (P l (v.getD ((i + 2) % v.length) 0))
  two : v.length = 2 → ∀ i, i < 2 → ∀ p ∈ l, left (P l (v.getD i 0)) (P l (v.getD ((i + 1) % v.length) 0)) p = 0
  two' : v.length = 2 → ∀ p ∈ l, before (P l (v.getD 1 0)) p = false
  one : v.length = 1 → ∀ p ∈ l, p = P l (v.getD 0 0)
end Go.Hull
end
section
set_option linter.unusedVariables false
namespace Go.Hull

theorem lessB_eq (l : List Pt) (a b : Nat) : lessB l a b = before (P l a) (P l b) := by
  have : ∀ x y : Bool, (x = true ↔ y = true) → x = y := by decide
  apply this
  unfold lessB P
  generalize l.getD a (0, 0) = p
  generalize l.getD b (0, 0) = q
  simp only [before, Bool.or_eq_true, Bool.and_eq_true, decide_eq_true_eq, beq_iff_eq, cmpP, cmpI]
  by_cases h1 : p.1 < q.1
  · simp [h1]
  · by_cases h2 : q.1 < p.1
    · simp [h1, h2]; omega
    · have e : p.1 = q.1 := by omega
      by_cases h3 : p.2 < q.2
      · simp [e, h3]
      · by_cases h4 : q.2 < p.2
        · simp [e, h3, h4]
        · simp [e, h3, h4]
theorem sameB_iff (l : List Pt) (a b : Nat) : sameB l a b = true ↔ P l a = P l b := by
  unfold sameB eqP P
  generalize l.getD a (0, 0) = p
  generalize l.getD b (0, 0) = q
  simp only [Bool.and_true, Bool.and_eq_true, beq_iff_eq]
  exact ⟨fun h => Prod.ext h.1 h.2, fun h => by rw [h]; exact ⟨rfl, rfl⟩⟩
theorem before_false {p q : Pt} (h : before p q = false) : q = p ∨ before q p = true := by
  rcases before_total q p with h1 | h1 | h1
  · exact .inl h1
  · exact .inr h1
  · rw [h] at h1; cases h1
theorem squash_spec (l : List Pt) : ∀ (r : List Nat) (a : Nat), (a :: r).Pairwise (fun x y => before (P l y) (P l x) = false) →
    ((a :: squash (sameB l) a r).Pairwise (fun x y => before (P l x) (P l y) = true)) ∧ (∀ x ∈ a :: r, ∃ y ∈ a :: squash (sameB l) a r, P l y = P l x) ∧ (∀ y ∈ squash (sameB l) a r, y ∈ r) := by
  intro r
  induction r with
  | nil => intro a _; exact ⟨by simp [squash], fun x hx => ⟨x, by simpa [squash] using hx, rfl⟩, fun y hy => by simp [squash] at hy⟩
  | cons b r ih =>
    intro a h
    obtain ⟨h1, h2⟩ := List.pairwise_cons.1 h
    obtain ⟨i1, i2, i3⟩ := ih b h2
    simp only [squash]
    split
    · rename_i he
      have he' : P l b = P l a := (sameB_iff l b a).1 he
      refine ⟨?_, fun x hx => ?_, fun y hy => List.mem_cons_of_mem _ (i3 y hy)⟩
      · obtain ⟨j1, j2⟩ := List.pairwise_cons.1 i1
        exact List.pairwise_cons.2 ⟨fun y hy => by rw [← he']; exact j1 y hy, j2⟩
      · rcases List.mem_cons.1 hx with rfl | hx
        · exact ⟨x, by simp, rfl⟩
        · obtain ⟨y, hy, e⟩ := i2 x hx
          rcases List.mem_cons.1 hy with rfl | hy
          · exact ⟨a, by simp, by rw [← he', e]⟩
          · exact ⟨y, by simp [hy], e⟩
    · rename_i he
      have he' : ¬ P l b = P l a := fun e => he ((sameB_iff l b a).2 e)
      have hab : before (P l a) (P l b) = true := by
        rcases before_false (h1 b (by simp)) with e | e
        · exact absurd e.symm he'
        · exact e
      refine ⟨List.pairwise_cons.2 ⟨fun y hy => ?_, i1⟩, fun x hx => ?_, fun y hy => ?_⟩
      · rcases List.mem_cons.1 hy with rfl | hy
        · exact hab
        · exact before_trans hab ((List.pairwise_cons.1 i1).1 y hy)
      · rcases List.mem_cons.1 hx with rfl | hx
        · exact ⟨x, by simp, rfl⟩
        · obtain ⟨y, hy, e⟩ := i2 x hx
          exact ⟨y, List.mem_cons_of_mem _ hy, e⟩
      · rcases List.mem_cons.1 hy with rfl | hy
        · simp
        · exact List.mem_cons_of_mem _ (i3 y hy)
structure Dist (l : List Pt) (d : List Nat) : Prop where
  inc : (d.map (P l)).Pairwise (fun p q => before p q = true)
  cover : ∀ p ∈ l, p ∈ d.map (P l)
  mem : ∀ i ∈ d, i < l.length
theorem orderI_sorted (l : List Pt) : (orderI l).Pairwise (fun x y => before (P l y) (P l x) = false) := by
  have := insort_sorted (lessB l) (fun a b h => by rw [lessB_eq] at *; exact before_asymm h) (fun a b c h1 h2 => by
    rw [lessB_eq] at *
    cases h : before (P l a) (P l c) with
    | false => rfl
    | true =>
      rcases before_false h1 with e | e
      · rw [← e, h2] at h; cases h
      · have := before_trans e h; rw [h2] at this; cases this) (List.range l.length)
  unfold orderI
  exact this.imp fun {a b} h => by rw [← lessB_eq]; exact h
theorem dist (l : List Pt) : Dist l (distI l) := by
  have hs := orderI_sorted l
  have hm : ∀ i, i ∈ orderI l ↔ i < l.length := fun i => by unfold orderI; rw [insort_mem, List.mem_range]
  have key : ∀ p ∈ l, ∃ i, i ∈ orderI l ∧ P l i = p := fun p hp => by
    obtain ⟨i, hi, e⟩ := List.getElem_of_mem hp
    exact ⟨i, (hm i).2 hi, by unfold P; rw [List.getD_eq_getElem?_getD, List.getElem?_eq_getElem hi, e]; rfl⟩
  unfold distI compI
  cases ho : orderI l with
  | nil =>
    rw [ho] at hm key
    refine ⟨by simp [compact], fun p hp => ?_, fun i hi => by simp [compact] at hi⟩
    obtain ⟨i, hi, -⟩ := key p hp
    simp at hi
  | cons a r =>
    rw [ho] at hs hm key
    rw [compact_take]
    obtain ⟨i1, i2, i3⟩ := squash_spec l r a hs
    refine ⟨List.pairwise_map.2 i1, fun p hp => ?_, fun i hi => (hm i).1 ?_⟩
    · obtain ⟨i, hi, e⟩ := key p hp
      obtain ⟨y, hy, e2⟩ := i2 i hi
      exact List.mem_map.2 ⟨y, hy, by rw [e2, e]⟩
    · rcases List.mem_cons.1 hi with rfl | hi
      · simp
      · exact List.mem_cons_of_mem _ (i3 i hi)
theorem pop_map (l : List Pt) (i : Nat) : ∀ (st : List Nat), (pop l i st).map (P l) = popP (P l i) (st.map (P l)) := by
  intro st
  induction st with
  | nil => rfl
  | cons b st ih =>
    cases st with
    | nil => rfl
    | cons a r =>
      simp only [pop, List.map_cons, popP]
      simp only [List.map_cons] at ih
      by_cases h : left (l.getD a (0, 0)) (l.getD b (0, 0)) (l.getD i (0, 0)) ≤ 0
      · rw [if_pos h, if_pos (show left (P l a) (P l b) (P l i) ≤ 0 from h), ih]
      · rw [if_neg h, if_neg (show ¬ left (P l a) (P l b) (P l i) ≤ 0 from h)]
        rfl
theorem chain_map (l : List Pt) (ord : List Nat) : (chainS l ord).map (P l) = chainP (ord.map (P l)) := by
  have : ∀ (ord st : List Nat), (ord.foldl (fun st i => i :: pop l i st) st).map (P l) = (ord.map (P l)).foldl (fun st p => p :: popP p st) (st.map (P l)) := by
    intro ord
    induction ord with
    | nil => intro st; rfl
    | cons o ord ih => intro st; simp only [List.foldl_cons, List.map_cons]; rw [ih, List.map_cons, pop_map]
  exact this ord []
theorem popP_neg (p : Pt) : ∀ (st : List Pt), (popP p st).map neg = popP (neg p) (st.map neg) := by
  intro st
  induction st with
  | nil => rfl
  | cons b st ih =>
    cases st with
    | nil => rfl
    | cons a r =>
      simp only [popP, List.map_cons, left_neg]
      simp only [List.map_cons] at ih
      split
      · rw [ih]
      · rfl
theorem chainP_neg (ps : List Pt) : (chainP ps).map neg = chainP (ps.map neg) := by
  have : ∀ (ps st : List Pt), (ps.foldl (fun st p => p :: popP p st) st).map neg = (ps.map neg).foldl (fun st p => p :: popP p st) (st.map neg) := by
    intro ps
    induction ps with
    | nil => intro st; rfl
    | cons o ps ih => intro st; simp only [List.foldl_cons, List.map_cons]; rw [ih, List.map_cons, popP_neg]
  exact this ps []
theorem revI_eq {l : List Pt} (hl : 0 < l.length) : revI l = (distI l).reverse := by
  obtain ⟨a1, a2, a3, a4⟩ := compI_spec hl
  unfold revI distI
  exact rv_take (by omega)
end Go.Hull
end
section
set_option linter.unusedVariables false
namespace Go.Hull

theorem chainS_mem {l : List Pt} {n : Nat} : ∀ (ord st : List Nat), (∀ x ∈ ord, x < n) → (∀ x ∈ st, x < n) → ∀ x ∈ ord.foldl (fun st i => i :: pop l i st) st, x < n := by
  intro ord
  induction ord with
  | nil => intro st _ h; exact h
  | cons o ord ih =>
    intro st h1 h2
    refine ih _ (fun x hx => h1 x (by simp [hx])) fun x hx => ?_
    rcases List.mem_cons.1 hx with rfl | hx
    · exact h1 _ (by simp)
    · exact pop_mem st h2 x hx
theorem getD_map_P (l : List Pt) (s : List Nat) {i : Nat} (hi : i < s.length) : (s.map (P l)).getD i (0, 0) = P l (s.getD i 0) := by
  simp [List.getD_eq_getElem?_getD, List.getElem?_eq_getElem hi]
theorem getD_rev (s : List Nat) {i : Nat} (hi : i < s.length) : s.reverse.getD i 0 = s.getD (s.length - 1 - i) 0 := by
  rw [List.getD_eq_getElem?_getD, List.getElem?_reverse hi, List.getD_eq_getElem?_getD]
theorem getD_map_neg (s : List Pt) (i : Nat) : (s.map neg).getD i (0, 0) = neg (s.getD i (0, 0)) := by
  simp only [List.getD_eq_getElem?_getD, List.getElem?_map]
  cases s[i]? <;> rfl
theorem Ch.congr {D D' : Pt → Prop} {A A' : Nat → Pt} {x x' : Nat} (h : Ch D A x) (hD : ∀ q, D' q ↔ D q) (hA : ∀ i, A' i = A i) (hx : x' = x) : Ch D' A' x' := by
  have e1 : D' = D := funext fun q => propext (hD q)
  have e2 : A' = A := funext hA
  rw [e1, e2, hx]; exact h
theorem Ch.pos {D : Pt → Prop} {A : Nat → Pt} {x : Nat} (h : Ch D A x) {p q : Pt} (hp : D p) (hq : D q) (hpq : before p q = true) : 0 < x := by
  cases x with
  | succ x => omega
  | zero =>
    have e : ∀ q, D q → q = A 0 := fun q hq => by
      rcases h.first q hq with e | e
      · exact e
      · rcases h.last q hq with e' | e'
        · exact e'
        · rw [before_asymm e] at e'; cases e'
    rw [e p hp, e q hq, before_irrefl] at hpq
    cases hpq
theorem two_of (ps : List Pt) (hne : ps ≠ []) (hp : ps.Pairwise (fun p q => before p q = true)) {p q : Pt} (h1 : p ∈ ps) (h2 : q ∈ ps) (hpq : before p q = true) :
    Two (· ∈ ps) (fun i => (chainP ps).getD ((chainP ps).length - 1 - i) (0, 0)) (fun i => (chainP ps.reverse).getD ((chainP ps.reverse).length - 1 - i) (0, 0)) ((chainP ps).length - 1) ((chainP ps.reverse).length - 1) := by
  have lo := (ready_chain hne hp).ch
  have hp' : (ps.reverse.map neg).Pairwise (fun p q => before p q = true) := by
    rw [List.pairwise_map, List.pairwise_reverse]
    exact hp.imp fun {a b} h => by rw [before_neg]; exact h
  have hi0 := (ready_chain (ps := ps.reverse.map neg) (by simpa using hne) hp').ch
  rw [← chainP_neg] at hi0
  have hi : Ch (fun q => neg q ∈ ps) (fun i => neg ((chainP ps.reverse).getD ((chainP ps.reverse).length - 1 - i) (0, 0))) ((chainP ps.reverse).length - 1) := by
    refine hi0.congr (fun q => ?_) (fun i => ?_) (by rw [List.length_map])
    · rw [List.mem_map]
      constructor
      · exact fun h => ⟨neg q, by simpa using h, neg_neg' q⟩
      · rintro ⟨a, ha, rfl⟩
        rw [neg_neg']; simpa using ha
    · rw [getD_map_neg, List.length_map]
  exact ⟨lo, hi, lo.pos h1 h2 hpq, hi.pos (p := neg q) (q := neg p) (by rw [neg_neg']; exact h2) (by rw [neg_neg']; exact h1) (by rw [before_neg]; exact hpq)⟩
theorem hullTN (l : List Pt) (hl : 0 < l.length) : HullT l (hullI l) ∧ ((hullI l).map (P l)).Nodup := by
  obtain ⟨a1, a2, a3, a4⟩ := compI_spec hl
  obtain ⟨d1, d2, d3⟩ := dist l
  have dl := distI_length hl
  by_cases h3 : (compI l).2 < 3
  · have hh : hullI l = distI l := by unfold hullI; rw [if_pos h3]
    rw [hh]
    refine ⟨?_, List.nodup_iff_pairwise_ne.2 (d1.imp fun {a b} h e => by rw [e, before_irrefl] at h; cases h)⟩
    obtain ⟨d, hd⟩ : ∃ d, d = distI l := ⟨_, rfl⟩
    rw [← hd] at d1 d2 d3 dl ⊢
    match d, d1, d2, d3, dl with
    | [], _, _, _, dl => simp at dl; omega
    | [a], d1, d2, d3, dl =>
      have e : ∀ p ∈ l, p = P l a := fun p hp => by have := d2 p hp; simpa using this
      exact ⟨by simp, by simp; omega, d3, fun p hp => by rw [e p hp]; exact before_irrefl _, fun h => by simp at h, fun h => by simp at h, fun h => by simp at h, fun h => by simp at h, fun _ => e⟩
    | [a, b], d1, d2, d3, dl =>
      have e : ∀ p ∈ l, p = P l a ∨ p = P l b := fun p hp => by have := d2 p hp; simpa using this
      have hab : before (P l a) (P l b) = true := by simpa using d1
      refine ⟨by simp, by simp at dl ⊢; omega, d3, fun p hp => ?_, fun h => by simp at h, fun h => by simp at h, fun _ i hi p hp => ?_, fun _ p hp => ?_, fun h => by simp at h⟩
      · rcases e p hp with rfl | rfl
        · exact before_irrefl _
        · exact before_asymm hab
      · match i, hi with
        | 0, _ =>
          show left (P l a) (P l b) p = 0
          rcases e p hp with rfl | rfl
          · exact left_self1 _ _
          · exact left_self2 _ _
        | 1, _ =>
          rw [show (1 + 1) % [a, b].length = 0 from by simp]
          show left (P l b) (P l a) p = 0
          rcases e p hp with rfl | rfl
          · exact left_self2 _ _
          · exact left_self1 _ _
      · show before (P l b) p = false
        rcases e p hp with rfl | rfl
        · exact before_asymm hab
        · exact before_irrefl _
    | a :: b :: c :: r, _, _, _, dl => simp at dl; omega
  · have hh : hullI l = ((chainS l (distI l)).reverse.take ((chainS l (distI l)).length - 1)) ++ ((chainS l (distI l).reverse).reverse.take ((chainS l (distI l).reverse).length - 1)) := by
      unfold hullI; rw [if_neg h3, revI_eq hl]
    obtain ⟨ps, hps⟩ : ∃ ps, ps = (distI l).map (P l) := ⟨_, rfl⟩
    obtain ⟨S, hS⟩ : ∃ S, S = chainS l (distI l) := ⟨_, rfl⟩
    obtain ⟨W, hW⟩ : ∃ W, W = chainS l (distI l).reverse := ⟨_, rfl⟩
    have hSp : S.map (P l) = chainP ps := by rw [hS, chain_map, hps]
    have hWp : W.map (P l) = chainP ps.reverse := by rw [hW, chain_map, hps, List.map_reverse]
    have hSm : ∀ x ∈ S, x < l.length := by rw [hS]; exact chainS_mem _ _ d3 (by simp)
    have hWm : ∀ x ∈ W, x < l.length := by rw [hW]; exact chainS_mem _ _ (fun x hx => d3 x (by simpa using hx)) (by simp)
    rw [← hS, ← hW] at hh
    rw [← hps] at d1 d2
    have pl : ps.length = (compI l).2 := by rw [hps, List.length_map, dl]
    have hne : ps ≠ [] := by intro e; rw [e] at pl; simp at pl; omega
    obtain ⟨p, q, hp, hq, hpq⟩ : ∃ p q, p ∈ ps ∧ q ∈ ps ∧ before p q = true := by
      match ps, pl, d1 with
      | [], pl, _ => simp at pl; omega
      | [a], pl, _ => simp at pl; omega
      | a :: b :: r, _, d1 => exact ⟨a, b, by simp, by simp, (List.pairwise_cons.1 d1).1 b (by simp)⟩
    have T := two_of ps hne d1 hp hq hpq
    rw [← hSp, ← hWp] at T
    simp only [List.length_map] at T
    obtain ⟨A, hA⟩ : ∃ A : Nat → Pt, A = fun i => (S.map (P l)).getD (S.length - 1 - i) (0, 0) := ⟨_, rfl⟩
    obtain ⟨B, hB⟩ : ∃ B : Nat → Pt, B = fun i => (W.map (P l)).getD (W.length - 1 - i) (0, 0) := ⟨_, rfl⟩
    rw [← hA, ← hB] at T
    obtain ⟨x, hx⟩ : ∃ x, x = S.length - 1 := ⟨_, rfl⟩
    obtain ⟨y, hy⟩ : ∃ y, y = W.length - 1 := ⟨_, rfl⟩
    rw [← hx, ← hy] at T hh
    have x1 := T.x1
    have y1 := T.y1
    obtain ⟨v, hv⟩ : ∃ v, v = hullI l := ⟨_, rfl⟩
    rw [← hv] at hh ⊢
    have l1 : (S.reverse.take x).length = x := by rw [List.length_take, List.length_reverse]; omega
    have l2 : (W.reverse.take y).length = y := by rw [List.length_take, List.length_reverse]; omega
    have hvl : v.length = x + y := by rw [hh, List.length_append, l1, l2]
    have vA : ∀ i, i < x → P l (v.getD i 0) = A i := fun i hi => by
      have : v.getD i 0 = S.reverse.getD i 0 := by
        rw [hh, List.getD_eq_getElem?_getD, List.getElem?_append_left (by omega), List.getElem?_take_of_lt hi, List.getD_eq_getElem?_getD]
      rw [this, getD_rev S (by omega), hA]
      exact (getD_map_P l S (by omega)).symm
    have vB : ∀ j, j < y → P l (v.getD (x + j) 0) = B j := fun j hj => by
      have : v.getD (x + j) 0 = W.reverse.getD j 0 := by
        rw [hh, List.getD_eq_getElem?_getD, List.getElem?_append_right (by omega), l1, show x + j - x = j by omega, List.getElem?_take_of_lt hj, List.getD_eq_getElem?_getD]
      rw [this, getD_rev W (by omega), hB]
      exact (getD_map_P l W (by omega)).symm
    have vm : ∀ z ∈ v, z < l.length := fun z hz => by
      rw [hh] at hz
      rcases List.mem_append.1 hz with h | h
      · exact hSm z (List.mem_reverse.1 (List.mem_of_mem_take h))
      · exact hWm z (List.mem_reverse.1 (List.mem_of_mem_take h))
    have lows : ∀ q, q ∈ ps → before q (A 0) = false := fun q hq => by
      rcases T.lo.first q hq with e | e
      · rw [e]; exact before_irrefl _
      · exact before_asymm e
    have V0 := vA 0 x1
    have n1 : (v.map (P l)).Nodup := nodup_of_getD (d := (0, 0)) fun i k hik hk => by
      rw [List.length_map] at hk
      rw [getD_map_P l v (by omega), getD_map_P l v hk]
      exact T.apart' (V := fun i => P l (v.getD i 0)) vA vB hik (by omega)
    refine ⟨⟨by omega, ?_, vm, fun p hp => by rw [V0]; exact lows p (d2 p hp), fun h i hi p hp => ?_, fun h i hi => ?_, fun h i hi p hp => ?_, fun h p hp => ?_, fun h => by omega⟩, n1⟩
    · have n2 := length_le_of_nodup (v.map (P l)) ps n1 fun a ha => by
        obtain ⟨z, hz, rfl⟩ := List.mem_map.1 ha
        have := vm z hz
        exact d2 _ (by unfold P; rw [List.getD_eq_getElem?_getD, List.getElem?_eq_getElem this]; simp)
      rw [List.length_map, pl] at n2
      omega
    · rw [hvl] at hi ⊢
      exact T.edges (V := fun i => P l (v.getD i 0)) vA vB hi (d2 p hp)
    · rw [hvl] at hi h ⊢
      exact T.turning (V := fun i => P l (v.getD i 0)) vA vB h hi
    · rw [hvl] at h
      have e0 := T.edges (V := fun i => P l (v.getD i 0)) vA vB (i := 0) (by omega) (d2 p hp)
      have e1 := T.edges (V := fun i => P l (v.getD i 0)) vA vB (i := 1) (by omega) (d2 p hp)
      rw [h] at e0 e1
      simp only [Nat.zero_add, show 1 % 2 = 1 from rfl, show (1 + 1) % 2 = 0 from rfl] at e0 e1
      rw [left_swap] at e1
      have ee : left (P l (v.getD 0 0)) (P l (v.getD 1 0)) p = 0 := by omega
      rw [hvl, h]
      match i, hi with
      | 0, _ => exact ee
      | 1, _ =>
        show left (P l (v.getD 1 0)) (P l (v.getD 0 0)) p = 0
        rw [left_swap, ee]; rfl
    · rw [hvl] at h
      have V1 := vB 0 y1
      rw [show x + 0 = 1 by omega, ← T.join1] at V1
      rw [V1]
      rcases T.lo.last p (d2 p hp) with e | e
      · rw [e]; exact before_irrefl _
      · exact before_asymm e
end Go.Hull
end
section
set_option linter.unusedVariables false
namespace Go.Hull

def dot (u v : Pt) : Int := u.1 * v.1 + u.2 * v.2
structure HullV (l : List Pt) (v : List Nat) : Prop where
  T : HullT l v
  nd : (v.map (P l)).Nodup
  fst : ∀ i ∈ v, ∀ k, k < i → P l k ≠ P l i
theorem P_mem {l : List Pt} {i : Nat} (h : i < l.length) : P l i ∈ l := by
  unfold P; rw [List.getD_eq_getElem?_getD, List.getElem?_eq_getElem h]; simp
theorem HullT.pmem {l : List Pt} {v : List Nat} (h : HullT l v) {i : Nat} (hi : i < v.length) : P l (v.getD i 0) ∈ l := P_mem (getD_lt h.mem hi)
theorem HullV.inj {l : List Pt} {v : List Nat} (h : HullV l v) {i k : Nat} (hi : i < v.length) (hk : k < v.length) (e : P l (v.getD i 0) = P l (v.getD k 0)) : i = k := by
  have hn := h.nd
  rw [List.nodup_iff_pairwise_ne, List.pairwise_iff_getElem] at hn
  have g : ∀ (i k : Nat) (hi : i < v.length) (hk : k < v.length), i < k → P l (v.getD i 0) ≠ P l (v.getD k 0) := fun i k hi hk hik => by
    have := hn i k (by simpa using hi) (by simpa using hk) hik
    simpa [List.getD_eq_getElem?_getD, List.getElem?_eq_getElem hi, List.getElem?_eq_getElem hk] using this
  rcases Nat.lt_trichotomy i k with h1 | h1 | h1
  · exact absurd e (g i k hi hk h1)
  · exact h1
  · exact absurd e.symm (g k i hk hi h1)
theorem dot_self_pos {u : Pt} (h : u ≠ (0, 0)) : 0 < dot u u := by
  obtain ⟨a, b⟩ := u
  simp only [dot]
  have h1 : 0 ≤ a * a := by rcases Int.le_total 0 a with h | h; exact Int.mul_nonneg h h; exact Int.mul_nonneg_of_nonpos_of_nonpos h h
  have h2 : 0 ≤ b * b := by rcases Int.le_total 0 b with h | h; exact Int.mul_nonneg h h; exact Int.mul_nonneg_of_nonpos_of_nonpos h h
  by_cases ha : a = 0
  · by_cases hb : b = 0
    · exact absurd (by rw [ha, hb]) h
    · have : b * b ≠ 0 := fun e => by rcases Int.mul_eq_zero.1 e with e | e <;> exact hb e
      omega
  · have : a * a ≠ 0 := fun e => by rcases Int.mul_eq_zero.1 e with e | e <;> exact ha e
    omega
theorem left_self1' (a c : Pt) : left a a c = 0 := by simp only [left, turn, sub]; grind
theorem sub_zero {p q : Pt} : sub p q = (0, 0) → p = q := fun h => by
  simp only [sub, Prod.mk.injEq] at h
  exact Prod.ext (by omega) (by omega)
end Go.Hull
end
section
set_option linter.unusedVariables false
namespace Go.Hull

theorem HullV.two_ne {l : List Pt} {v : List Nat} (h : HullV l v) (h2 : v.length = 2) : before (P l (v.getD 0 0)) (P l (v.getD 1 0)) = true := by
  rcases before_false (h.T.first _ (h.T.pmem (i := 1) (by omega))) with e | e
  · have := h.inj (i := 0) (k := 1) (by omega) (by omega) e; omega
  · exact e
/-- Firstness: of equal points the one that stands first is kept. -/
theorem insR_stable (l : List Pt) (x : Nat) : ∀ (r : List Nat), (∀ y ∈ r, y < x) → r.Pairwise (fun a b => P l a = P l b → b < a) → (insR (lessB l) x r).Pairwise (fun a b => P l a = P l b → b < a) := by
  intro r
  induction r with
  | nil => intro _ _; simp [insR]
  | cons y r ih =>
    intro hx h
    obtain ⟨h1, h2⟩ := List.pairwise_cons.1 h
    simp only [insR]
    split
    · rename_i hc
      refine List.pairwise_cons.2 ⟨fun z hz e => ?_, ih (fun z hz => hx z (by simp [hz])) h2⟩
      rcases (insR_mem _ x z r).1 hz with rfl | hz
      · rw [lessB_eq, e, before_irrefl] at hc; cases hc
      · exact h1 z hz e
    · exact List.pairwise_cons.2 ⟨fun z hz _ => hx z hz, h⟩
theorem fold_stable (l : List Pt) : ∀ (rest r : List Nat), (∀ y ∈ r, ∀ x ∈ rest, y < x) → rest.Pairwise (· < ·) → r.Pairwise (fun a b => P l a = P l b → b < a) → (rest.foldl (fun r x => insR (lessB l) x r) r).Pairwise (fun a b => P l a = P l b → b < a) := by
  intro rest
  induction rest with
  | nil => intro r _ _ h; exact h
  | cons x rest ih =>
    intro r h1 h2 h3
    obtain ⟨p1, p2⟩ := List.pairwise_cons.1 h2
    refine ih _ (fun y hy z hz => ?_) p2 (insR_stable l x r (fun y hy => h1 y hy x (by simp)) h3)
    rcases (insR_mem _ x y r).1 hy with rfl | hy
    · exact p1 z hz
    · exact h1 y hy z (by simp [hz])
theorem orderI_stable (l : List Pt) : (orderI l).Pairwise (fun a b => P l a = P l b → a < b) := by
  unfold orderI
  cases hr : List.range l.length with
  | nil => simp [insort, outer]
  | cons a rest =>
    rw [insort_eq, List.pairwise_reverse]
    have hp : (List.range l.length).Pairwise (· < ·) := List.pairwise_lt_range
    rw [hr] at hp
    obtain ⟨p1, p2⟩ := List.pairwise_cons.1 hp
    exact (fold_stable l rest [a] (fun y hy x hx => by rw [List.mem_singleton.1 hy]; exact p1 x hx) p2 (by simp)).imp fun {a b} h e => h e.symm
theorem squash_first (l : List Pt) : ∀ (r : List Nat) (a : Nat), (a :: r).Pairwise (fun x y => before (P l y) (P l x) = false) → (a :: r).Pairwise (fun x y => P l x = P l y → x < y) →
    ∀ y ∈ a :: squash (sameB l) a r, ∀ x ∈ a :: r, P l x = P l y → y ≤ x := by
  intro r
  induction r with
  | nil =>
    intro a _ _ y hy x hx _
    simp only [squash, List.mem_singleton] at hy hx
    omega
  | cons b r ih =>
    intro a h g y hy x hx e
    obtain ⟨h1, h2⟩ := List.pairwise_cons.1 h
    obtain ⟨g1, g2⟩ := List.pairwise_cons.1 g
    have ib := ih b h2 g2
    have ha : ∀ x ∈ a :: b :: r, P l x = P l a → a ≤ x := fun x hx e => by
      rcases List.mem_cons.1 hx with rfl | hx
      · exact Nat.le_refl _
      · exact Nat.le_of_lt (g1 x hx e.symm)
    rcases List.mem_cons.1 hy with rfl | hy
    · exact ha x hx e
    · have sp := squash_spec l (b :: r) a h
      have lt := (List.pairwise_cons.1 sp.1).1 y hy
      rcases List.mem_cons.1 hx with rfl | hx
      · rw [e, before_irrefl] at lt; cases lt
      · simp only [squash] at hy
        split at hy
        · exact ib y (List.mem_cons_of_mem _ hy) x hx e
        · exact ib y hy x hx e
theorem distI_first (l : List Pt) : ∀ y ∈ distI l, ∀ k, k < y → P l k ≠ P l y := by
  have hs := orderI_sorted l
  have ht := orderI_stable l
  have hm : ∀ i, i ∈ orderI l ↔ i < l.length := fun i => by unfold orderI; rw [insort_mem, List.mem_range]
  have hd := (dist l).mem
  unfold distI compI at hd ⊢
  cases ho : orderI l with
  | nil => intro y hy; simp [compact] at hy
  | cons a r =>
    rw [ho] at hs ht hm hd
    rw [compact_take] at hd ⊢
    intro y hy k hk e
    have := squash_first l r a hs ht y hy k ((hm k).2 (by have := hd y hy; omega)) e
    omega
theorem chainS_sub {l : List Pt} {d : Nat → Prop} : ∀ (ord st : List Nat), (∀ x ∈ ord, d x) → (∀ x ∈ st, d x) → ∀ x ∈ ord.foldl (fun st i => i :: pop l i st) st, d x := by
  intro ord
  induction ord with
  | nil => intro st _ h; exact h
  | cons o ord ih =>
    intro st h1 h2
    refine ih _ (fun x hx => h1 x (by simp [hx])) fun x hx => ?_
    rcases List.mem_cons.1 hx with rfl | hx
    · exact h1 _ (by simp)
    · have : ∀ (st : List Nat), (∀ x ∈ st, d x) → ∀ x ∈ pop l o st, d x := by
        intro st
        induction st with
        | nil => intro h; exact h
        | cons b st ih =>
          intro h
          cases st with
          | nil => exact h
          | cons a r =>
            simp only [pop]
            split
            · exact ih fun x hx => h x (List.mem_cons_of_mem _ hx)
            · exact h
      exact this st h2 x hx
theorem hullI_sub {l : List Pt} (hl : 0 < l.length) : ∀ x ∈ hullI l, x ∈ distI l := by
  intro x hx
  unfold hullI at hx
  split at hx
  · exact hx
  · rw [revI_eq hl] at hx
    rcases List.mem_append.1 hx with h | h
    · exact chainS_sub _ _ (fun x hx => hx) (by simp) x (List.mem_reverse.1 (List.mem_of_mem_take h))
    · exact chainS_sub (d := (· ∈ distI l)) _ _ (fun x hx => List.mem_reverse.1 hx) (by simp) x (List.mem_reverse.1 (List.mem_of_mem_take h))
theorem hullV (l : List Pt) (hl : 0 < l.length) : HullV l (hullI l) := by
  obtain ⟨h1, h2⟩ := hullTN l hl
  exact ⟨h1, h2, fun i hi k hk => distI_first l i (hullI_sub hl i hi) k hk⟩
/-- Moved points. -/
def addP (d p : Pt) : Pt := (p.1 + d.1, p.2 + d.2)
theorem left_add (d a b c : Pt) : left (addP d a) (addP d b) (addP d c) = left a b c := by simp only [left, turn, sub, addP]; grind
theorem before_add (d a b : Pt) : before (addP d a) (addP d b) = before a b := by
  have : ∀ x y : Bool, (x = true ↔ y = true) → x = y := by decide
  apply this
  rw [before_iff, before_iff]
  simp only [Lp, sub, addP]; omega
theorem addP_inj {d a b : Pt} (h : addP d a = addP d b) : a = b := by
  simp only [addP, Prod.mk.injEq] at h
  exact Prod.ext (by omega) (by omega)
theorem P_add (d : Pt) (l : List Pt) {i : Nat} (hi : i < l.length) : P (l.map (addP d)) i = addP d (P l i) := by
  simp [P, List.getD_eq_getElem?_getD, List.getElem?_eq_getElem hi]
theorem HullV.moved {l : List Pt} {v : List Nat} (h : HullV l v) (d : Pt) : HullV (l.map (addP d)) v := by
  have T := h.T
  have e : ∀ i, i < v.length → P (l.map (addP d)) (v.getD i 0) = addP d (P l (v.getD i 0)) := fun i hi => P_add d l (getD_lt T.mem hi)
  have md : ∀ k, k % v.length < v.length := fun k => Nat.mod_lt _ T.ne
  have pm : ∀ {Q : Pt → Prop}, (∀ p ∈ l, Q (addP d p)) → ∀ p ∈ l.map (addP d), Q p := fun {Q} hq p hp => by
    obtain ⟨a, ha, rfl⟩ := List.mem_map.1 hp
    exact hq a ha
  refine ⟨⟨T.ne, by rw [List.length_map]; exact T.le, fun x hx => by rw [List.length_map]; exact T.mem x hx, pm fun p hp => ?_, fun h2 i hi => pm fun p hp => ?_, fun h2 i hi => ?_, fun h2 i hi => pm fun p hp => ?_, fun h2 => pm fun p hp => ?_, fun h1 => pm fun p hp => ?_⟩, ?_, fun i hi k hk hh => ?_⟩
  · rw [e 0 T.ne, before_add]; exact T.first p hp
  · rw [e i hi, e _ (md _), left_add]; exact T.big h2 i hi p hp
  · rw [e i hi, e _ (md _), e _ (md _), left_add]; exact T.turns h2 i hi
  · rw [e i (by omega), e _ (md _), left_add]; exact T.two h2 i hi p hp
  · rw [e 1 (by omega), before_add]; exact T.two' h2 p hp
  · rw [e 0 (by omega), T.one h1 p hp]
  · have : v.map (P (l.map (addP d))) = (v.map (P l)).map (addP d) := by
      rw [List.map_map]
      exact List.map_congr_left fun x hx => P_add d l (T.mem x hx)
    rw [this, List.nodup_iff_pairwise_ne, List.pairwise_map]
    exact (List.nodup_iff_pairwise_ne.1 h.nd).imp fun {a b} hab hh => hab (addP_inj hh)
  · have hil := T.mem i hi
    rw [P_add d l hil, P_add d l (by omega)] at hh
    exact h.fst i hi k hk (addP_inj hh)
theorem getD_range {n i : Nat} (h : i < n) : (List.range n).getD i 0 = i := by
  rw [List.getD_eq_getElem?_getD, List.getElem?_range h]; rfl
theorem HullV.alone {l : List Pt} {v : List Nat} (h : HullV l v) : HullV (v.map (P l)) (List.range v.length) := by
  have T := h.T
  have al : (v.map (P l)).length = v.length := List.length_map ..
  have e : ∀ i, i < v.length → P (v.map (P l)) ((List.range v.length).getD i 0) = P l (v.getD i 0) := fun i hi => by
    rw [getD_range hi]; exact getD_map_P l v hi
  have md : ∀ k, k % v.length < v.length := fun k => Nat.mod_lt _ T.ne
  have pm : ∀ p ∈ v.map (P l), p ∈ l := fun p hp => by
    obtain ⟨a, ha, rfl⟩ := List.mem_map.1 hp
    exact P_mem (T.mem a ha)
  have rl : (List.range v.length).length = v.length := List.length_range
  refine ⟨⟨by rw [rl]; exact T.ne, by rw [rl, al]; exact Nat.le_refl _, fun x hx => by rw [al]; exact List.mem_range.1 hx, fun p hp => ?_, fun h2 i hi p hp => ?_, fun h2 i hi => ?_, fun h2 i hi p hp => ?_, fun h2 p hp => ?_, fun h1 p hp => ?_⟩, ?_, fun i hi k hk hh => ?_⟩
  · rw [e 0 T.ne]; exact T.first p (pm p hp)
  · rw [rl] at h2 hi ⊢; rw [e i hi, e _ (md _)]; exact T.big h2 i hi p (pm p hp)
  · rw [rl] at h2 hi ⊢; rw [e i hi, e _ (md _), e _ (md _)]; exact T.turns h2 i hi
  · rw [rl] at h2 ⊢; rw [e i (by omega), e _ (md _)]; exact T.two h2 i hi p (pm p hp)
  · rw [rl] at h2; rw [e 1 (by omega)]; exact T.two' h2 p (pm p hp)
  · rw [rl] at h1; rw [e 0 (by omega)]; exact T.one h1 p (pm p hp)
  · have : (List.range v.length).map (P (v.map (P l))) = v.map (P l) := by
      refine List.ext_getElem (by simp) fun i h1 h2 => ?_
      have hi : i < v.length := by simpa using h2
      have := getD_map_P l v hi
      simp only [List.getElem_map, List.getElem_range]
      have gv : v.getD i 0 = v[i] := by rw [List.getD_eq_getElem?_getD, List.getElem?_eq_getElem hi]; rfl
      rw [gv] at this
      exact this
    rw [this]; exact h.nd
  · have hi' := List.mem_range.1 hi
    have e1 := e i hi'
    have e2 := e k (by omega)
    rw [getD_range hi'] at e1
    rw [getD_range (by omega)] at e2
    rw [e1, e2] at hh
    have := h.inj (i := k) (k := i) (by omega) hi' hh
    omega
end Go.Hull
end
section
set_option linter.unusedSimpArgs false
set_option linter.unusedVariables false
set_option maxHeartbeats 2000000
namespace Go.Hull
open Go Go.Am Go.Proofs

theorem viewG_pts {hl : List Blk} {b g i k : Nat} {nil frz : Bool} {xs : List Pt} (hb : hget hl b = .row nil g frz 2 (xs.map pt)) (h : i + k ≤ xs.length) : viewG hl 6 (.sl b g i k) = some (pts ((xs.drop i).take k), [b]) := by
  have he : ((xs.map pt).drop i).take k = ((xs.drop i).take k).map pt := by rw [List.map_take, List.map_drop]
  have h1 : optL (viewG hl 5) (((xs.drop i).take k).map pt) = some ((((xs.drop i).take k).map pt).map fun x => (x, [])) := optL_self _ fun x hx => by
    obtain ⟨n, -, rfl⟩ := List.mem_map.1 hx
    exact viewG_flat rfl 4
  have h2 : (((((xs.drop i).take k).map pt).map fun x => (x, ([] : List Nat))).all fun y => Nat.beq y.1.cells.length 2) = true := by
    rw [List.all_eq_true]
    intro y hy
    obtain ⟨x, hx, rfl⟩ := List.mem_map.1 hy
    obtain ⟨n, -, rfl⟩ := List.mem_map.1 hx
    rfl
  have hc : True ∧ i + k ≤ (xs.map pt).length := ⟨trivial, by rw [List.length_map]; exact h⟩
  unfold viewG
  simp only [flatN, AV.lt, Nat.not_lt_zero, decide_false, Bool.false_eq_true, if_false, hb]
  rw [if_pos hc]
  simp only [he, h1, h2, if_true, catT_nil]
  simp only [List.map_map, Function.comp_def, pts]
theorem viewArgs_flatL {hl : List Blk} : ∀ (xs : List AV), (xs.all (flatN true 5)) = true → viewArgs hl xs = some (xs, []) := by
  intro xs
  induction xs with
  | nil => intro _; rfl
  | cons x xs ih =>
    intro h
    simp only [List.all_cons, Bool.and_eq_true] at h
    simp only [viewArgs, viewG_flat h.1 5, ih h.2, List.append_nil]
theorem c56' {u v : Pt} (hu : smallV u) (hv : smallV v) : CallsF Try.prog 56 [pt u, pt v] [] (.int .i64 (dot u v)) [] := by
  obtain ⟨⟨a1, a2⟩, a3, a4⟩ := hu
  obtain ⟨⟨b1, b2⟩, b3, b4⟩ := hv
  have m1 := mul_bd a1 a2 b1 b2
  have m2 := mul_bd a3 a4 b3 b4
  have e1 := wr (u.1 * v.1) (by omega) (by omega)
  have e2 := wr (u.2 * v.2) (by omega) (by omega)
  have e3 := wr (u.1 * v.1 + u.2 * v.2) (by omega) (by omega)
  refine callsF_cwx hm hf56 (by simp [cf56]) ?_
  simp only [cf56, argsAl]
  unfold pt
  refine CWx.r fun K hK => ?_
  simp (maxSteps := 4000000) only [amC, amX, dr3, dr4, AV.elem, AV.cells, AV.one, loadAV, faddrAV, binAV, storeAV, AV.putCells, AV.ref, if_true, if_false, Nat.reduceEqDiff, Nat.reduceAdd, Nat.reduceLT, Nat.reduceLeDiff, reduceCtorEq, ↓reduceIte, pickAV, lenAV, intAV, slcA, slcAV, iaddrAV, extAV, fldAV, eqCell, contAV, appendAV, maxI, minI, Option.some.injEq, catT, AV.cells, AV.elem, AV.one, List.all_cons, List.all_nil]
  refine hK _ _ _ nofun ?_
  clear hK K
  refine CWx.r fun K hK => ?_
  simp (maxSteps := 4000000) only [amC, amX, dr3, dr4, AV.elem, AV.cells, AV.one, loadAV, faddrAV, binAV, storeAV, AV.putCells, AV.ref, if_true, if_false, Nat.reduceEqDiff, Nat.reduceAdd, Nat.reduceLT, Nat.reduceLeDiff, reduceCtorEq, ↓reduceIte, pickAV, lenAV, intAV, slcA, slcAV, iaddrAV, extAV, fldAV, eqCell, contAV, appendAV, maxI, minI, Option.some.injEq, catT, AV.cells, e1, e2, e3]
  refine hK _ _ _ nofun ?_
  clear hK K
  exact CWx.ret fun al hal => finK_ext hal (finK_pure (.inr rfl) (xs := [.int .i64 (dot u v)]) (by simp [resRV, Am.get, dot]) rfl rfl)
def firstI (g : Pt → Bool) (l : List Pt) : Int := if l.any g = true then (l.findIdx g : Int) else -1
theorem c71 (l : List Pt) (hn : l.length < 4611686018427387904) (fid : Nat) (caps : List AV) (g : Pt → Bool) (hf : ∀ p ∈ l, CallsF Try.prog fid (pt p :: caps) [] (.bool (g p)) []) (hfl : (caps.all (flatN true 5)) = true) (hlt : ∀ m, ltL m caps = true) :
    CallsF Try.prog 71 [pts l, .clo fid caps] [] (.int .i64 (firstI g l)) [] := by
  refine callsF_cwx hm hf71 (by simp [cf71]) ?_
  simp only [cf71, argsAl]
  refine CWx.r fun K hK => ?_
  simp (maxSteps := 4000000) only [amC, amX, dr3, dr4, AV.elem, AV.cells, AV.one, loadAV, faddrAV, binAV, storeAV, AV.putCells, AV.ref, if_true, if_false, Nat.reduceEqDiff, Nat.reduceAdd, Nat.reduceLT, Nat.reduceLeDiff, reduceCtorEq, ↓reduceIte, pickAV, lenAV, intAV, slcA, slcAV, iaddrAV, extAV, fldAV, eqCell, contAV, appendAV, maxI, minI, Option.some.injEq, catT]
  refine hK _ _ _ nofun ?_
  clear hK K
  refine CWx.seq ?_
  refine CWx.r fun K hK => ?_
  simp (maxSteps := 4000000) only [amC, amX, dr3, dr4, AV.elem, AV.cells, AV.one, loadAV, faddrAV, binAV, storeAV, AV.putCells, AV.ref, if_true, if_false, Nat.reduceEqDiff, Nat.reduceAdd, Nat.reduceLT, Nat.reduceLeDiff, reduceCtorEq, ↓reduceIte, pickAV, lenAV, intAV, slcA, slcAV, iaddrAV, extAV, fldAV, eqCell, contAV, appendAV, maxI, minI, Option.some.injEq, catT, pts, List.length_map]
  refine hK _ _ _ nofun ?_
  clear hK K
  refine CWx.block ?_
  refine CWx.loopF (fun i : Nat => l.length - i) (fun i => ⟨[(0, pts l), (1, .clo fid caps), (7, .int .i64 (l.length : Int)), (8, .int .i64 (i : Int))], []⟩)
    (fun i => i ≤ l.length ∧ ∀ j, j < i → g (P l j) = false) (fun i hi => ?_) 0 ⟨Nat.zero_le _, fun j hj => by omega⟩ (Fgt.mk' 0 (by simp) (by simp [keepB, Am.get, AV.lt, ltL, ltL_pt, pts, hlt]) rfl trivial)
  by_cases h : (i : Int) < (l.length : Int)
  · have hi' : i < l.length := by omega
    have pm := get_pts (getp hi')
    have pl : l.getD i (0, 0) ∈ l := P_mem hi'
    have gi : l[i] = P l i := by unfold P; rw [List.getD_eq_getElem?_getD, List.getElem?_eq_getElem hi']; rfl
    refine CWx.r fun K hK => ?_
    simp (maxSteps := 4000000) only [amC, amX, dr3, dr4, AV.elem, AV.cells, AV.one, loadAV, faddrAV, binAV, storeAV, AV.putCells, AV.ref, if_true, if_false, Nat.reduceEqDiff, Nat.reduceAdd, Nat.reduceLT, Nat.reduceLeDiff, reduceCtorEq, ↓reduceIte, pickAV, lenAV, intAV, slcA, slcAV, iaddrAV, extAV, fldAV, eqCell, contAV, appendAV, maxI, minI, Option.some.injEq, catT, h]
    refine hK _ _ _ nofun ?_
    clear hK K
    refine CWx.seq ?_
    refine CWx.condT rfl (CWx.skip (CWx.go ?_))
    refine CWx.seq ?_
    refine CWx.block ?_
    refine CWx.r fun K hK => ?_
    simp (maxSteps := 4000000) only [amC, amX, dr3, dr4, AV.elem, AV.cells, AV.one, loadAV, faddrAV, binAV, storeAV, AV.putCells, AV.ref, if_true, if_false, Nat.reduceEqDiff, Nat.reduceAdd, Nat.reduceLT, Nat.reduceLeDiff, reduceCtorEq, ↓reduceIte, pickAV, lenAV, intAV, slcA, slcAV, iaddrAV, extAV, fldAV, eqCell, contAV, appendAV, maxI, minI, Option.some.injEq, catT]
    refine hK _ _ _ nofun ?_
    clear hK K
    refine CWx.r fun K hK => ?_
    simp (maxSteps := 4000000) only [amC, amX, dr3, dr4, AV.elem, AV.cells, AV.one, loadAV, faddrAV, binAV, storeAV, AV.putCells, AV.ref, if_true, if_false, Nat.reduceEqDiff, Nat.reduceAdd, Nat.reduceLT, Nat.reduceLeDiff, reduceCtorEq, ↓reduceIte, pickAV, lenAV, intAV, slcA, slcAV, iaddrAV, extAV, fldAV, eqCell, contAV, appendAV, maxI, minI, Option.some.injEq, catT, pts, h, List.length_map, Int.natCast_nonneg, Int.toNat_natCast, pm, pt, AV.cells]
    refine RCx.view (fid := fid) (caps := caps) rfl rfl (viewArgs_flatL (pt (l.getD i (0, 0)) :: caps) (by simp only [List.all_cons, hfl, Bool.and_true]; rfl)) (hf _ pl) rfl ?_
    by_cases hg : g (l.getD i (0, 0)) = true
    · simp (maxSteps := 4000000) only [amC, amX, dr3, dr4, AV.elem, AV.cells, AV.one, loadAV, faddrAV, binAV, storeAV, AV.putCells, AV.ref, if_true, if_false, Nat.reduceEqDiff, Nat.reduceAdd, Nat.reduceLT, Nat.reduceLeDiff, reduceCtorEq, ↓reduceIte, pickAV, lenAV, intAV, slcA, slcAV, iaddrAV, extAV, fldAV, eqCell, contAV, appendAV, maxI, minI, Option.some.injEq, catT, hg]
      refine hK _ _ _ nofun ?_
      clear hK K
      refine CWx.condT rfl ?_
      refine CWx.r fun K hK => ?_
      simp (maxSteps := 4000000) only [amC, amX, dr3, dr4, AV.elem, AV.cells, AV.one, loadAV, faddrAV, binAV, storeAV, AV.putCells, AV.ref, if_true, if_false, Nat.reduceEqDiff, Nat.reduceAdd, Nat.reduceLT, Nat.reduceLeDiff, reduceCtorEq, ↓reduceIte, pickAV, lenAV, intAV, slcA, slcAV, iaddrAV, extAV, fldAV, eqCell, contAV, appendAV, maxI, minI, Option.some.injEq, catT]
      refine hK _ _ _ nofun ?_
      clear hK K
      have hr : firstI g l = (i : Int) := by
        unfold firstI
        rw [if_pos (List.any_eq_true.2 ⟨_, pl, hg⟩), (List.findIdx_eq hi').2 ⟨by rw [gi]; exact hg, fun j hj => by
          have := hi.2 j hj
          unfold P at this
          rw [List.getD_eq_getElem?_getD, List.getElem?_eq_getElem (by omega)] at this
          exact this⟩]
      rw [hr]
      exact CWx.ret fun al hal => finK_ext hal (finK_pure (.inr rfl) (xs := [.int .i64 (i : Int)]) (by simp [resRV, Am.get]) rfl rfl)
    · simp (maxSteps := 4000000) only [amC, amX, dr3, dr4, AV.elem, AV.cells, AV.one, loadAV, faddrAV, binAV, storeAV, AV.putCells, AV.ref, if_true, if_false, Nat.reduceEqDiff, Nat.reduceAdd, Nat.reduceLT, Nat.reduceLeDiff, reduceCtorEq, ↓reduceIte, pickAV, lenAV, intAV, slcA, slcAV, iaddrAV, extAV, fldAV, eqCell, contAV, appendAV, maxI, minI, Option.some.injEq, catT, hg]
      refine hK _ _ _ nofun ?_
      clear hK K
      refine CWx.condF rfl (CWx.skip (CWx.go ?_))
      refine CWx.e fun K hK => ?_
      simp (maxSteps := 4000000) only [amC, amX, dr3, dr4, AV.elem, AV.cells, AV.one, loadAV, faddrAV, binAV, storeAV, AV.putCells, AV.ref, if_true, if_false, Nat.reduceEqDiff, Nat.reduceAdd, Nat.reduceLT, Nat.reduceLeDiff, reduceCtorEq, ↓reduceIte, pickAV, lenAV, intAV, slcA, slcAV, iaddrAV, extAV, fldAV, eqCell, contAV, appendAV, maxI, minI, Option.some.injEq, catT, wrap_nat i (by omega)]
      refine hK _ _ _ nofun ?_
      clear hK K
      intro al hal
      refine ⟨i + 1, by omega, ⟨by omega, fun j hj => ?_⟩, Fgt.ofx hal (Fgt.mk' 0 (by simp) (by simp [keepB, Am.get, AV.lt, ltL, ltL_pt, pts, hlt]) rfl trivial)⟩
      by_cases hji : j = i
      · subst hji; exact Bool.eq_false_iff.2 hg
      · exact hi.2 j (by omega)
  · refine CWx.r fun K hK => ?_
    simp (maxSteps := 4000000) only [amC, amX, dr3, dr4, AV.elem, AV.cells, AV.one, loadAV, faddrAV, binAV, storeAV, AV.putCells, AV.ref, if_true, if_false, Nat.reduceEqDiff, Nat.reduceAdd, Nat.reduceLT, Nat.reduceLeDiff, reduceCtorEq, ↓reduceIte, pickAV, lenAV, intAV, slcA, slcAV, iaddrAV, extAV, fldAV, eqCell, contAV, appendAV, maxI, minI, Option.some.injEq, catT, h]
    refine hK _ _ _ nofun ?_
    clear hK K
    refine CWx.seq ?_
    refine CWx.condF rfl (CWx.exit (CWx.go ?_))
    refine CWx.r fun K hK => ?_
    simp (maxSteps := 4000000) only [amC, amX, dr3, dr4, AV.elem, AV.cells, AV.one, loadAV, faddrAV, binAV, storeAV, AV.putCells, AV.ref, if_true, if_false, Nat.reduceEqDiff, Nat.reduceAdd, Nat.reduceLT, Nat.reduceLeDiff, reduceCtorEq, ↓reduceIte, pickAV, lenAV, intAV, slcA, slcAV, iaddrAV, extAV, fldAV, eqCell, contAV, appendAV, maxI, minI, Option.some.injEq, catT]
    refine hK _ _ _ nofun ?_
    clear hK K
    have hr : firstI g l = -1 := by
      unfold firstI
      rw [if_neg]
      intro ha
      obtain ⟨p, hp, hgp⟩ := List.any_eq_true.1 ha
      obtain ⟨j, hj, rfl⟩ := List.getElem_of_mem hp
      have := hi.2 j (by omega)
      unfold P at this
      rw [List.getD_eq_getElem?_getD, List.getElem?_eq_getElem hj] at this
      rw [show (some l[j]).getD (0, 0) = l[j] from rfl] at this
      rw [this] at hgp; cases hgp
    rw [hr]
    exact CWx.ret fun al hal => finK_ext hal (finK_pure (.inr rfl) (xs := [.int .i64 (-1)]) (by simp [resRV, Am.get]) rfl rfl)
theorem c27 (l : List Pt) (hn : l.length < 4611686018427387904) (fid : Nat) (caps : List AV) (g : Pt → Bool) (hf : ∀ p ∈ l, CallsF Try.prog fid (pt p :: caps) [] (.bool (g p)) []) (hfl : (caps.all (flatN true 5)) = true) (hlt : ∀ m, ltL m caps = true) (hcf : flatN true 5 (.clo fid caps) = true) :
    CallsF Try.prog 27 [pts l, .clo fid caps] [] (.bool (l.any g)) [] := by
  refine callsF_cwx hm hf27 (by simp [cf27]) ?_
  simp only [cf27, argsAl]
  refine CWx.r fun K hK => ?_
  simp (maxSteps := 4000000) only [amC, amX, dr3, dr4, AV.elem, AV.cells, AV.one, loadAV, faddrAV, binAV, storeAV, AV.putCells, AV.ref, if_true, if_false, Nat.reduceEqDiff, Nat.reduceAdd, Nat.reduceLT, Nat.reduceLeDiff, reduceCtorEq, ↓reduceIte, pickAV, lenAV, intAV, slcA, slcAV, iaddrAV, extAV, fldAV, eqCell, contAV, appendAV, maxI, minI, Option.some.injEq, catT]
  refine hK _ _ _ nofun ?_
  clear hK K
  refine CWx.r fun K hK => ?_
  simp (maxSteps := 4000000) only [amC, amX, dr3, dr4, AV.elem, AV.cells, AV.one, loadAV, faddrAV, binAV, storeAV, AV.putCells, AV.ref, if_true, if_false, Nat.reduceEqDiff, Nat.reduceAdd, Nat.reduceLT, Nat.reduceLeDiff, reduceCtorEq, ↓reduceIte, pickAV, lenAV, intAV, slcA, slcAV, iaddrAV, extAV, fldAV, eqCell, contAV, appendAV, maxI, minI, Option.some.injEq, catT]
  refine RCx.view (fid := 71) (caps := []) rfl rfl (viewArgs_flat2 (flat_pts l 2) hcf) (c71 l hn fid caps g hf hfl hlt) rfl ?_
  by_cases ha : l.any g = true
  · have h0 : (0 : Int) ≤ firstI g l := by unfold firstI; rw [if_pos ha]; omega
    simp (maxSteps := 4000000) only [amC, amX, dr3, dr4, AV.elem, AV.cells, AV.one, loadAV, faddrAV, binAV, storeAV, AV.putCells, AV.ref, if_true, if_false, Nat.reduceEqDiff, Nat.reduceAdd, Nat.reduceLT, Nat.reduceLeDiff, reduceCtorEq, ↓reduceIte, pickAV, lenAV, intAV, slcA, slcAV, iaddrAV, extAV, fldAV, eqCell, contAV, appendAV, maxI, minI, Option.some.injEq, catT, h0]
    refine hK _ _ _ nofun ?_
    clear hK K
    rw [ha]
    exact CWx.ret fun al hal => finK_ext hal (finK_pure (.inr rfl) (xs := [.bool true]) (by simp [resRV, Am.get]) rfl rfl)
  · have h0 : ¬ (0 : Int) ≤ firstI g l := by unfold firstI; rw [if_neg ha]; decide
    have ha' : l.any g = false := by simpa using ha
    simp (maxSteps := 4000000) only [amC, amX, dr3, dr4, AV.elem, AV.cells, AV.one, loadAV, faddrAV, binAV, storeAV, AV.putCells, AV.ref, if_true, if_false, Nat.reduceEqDiff, Nat.reduceAdd, Nat.reduceLT, Nat.reduceLeDiff, reduceCtorEq, ↓reduceIte, pickAV, lenAV, intAV, slcA, slcAV, iaddrAV, extAV, fldAV, eqCell, contAV, appendAV, maxI, minI, Option.some.injEq, catT, h0]
    refine hK _ _ _ nofun ?_
    clear hK K
    rw [ha']
    exact CWx.ret fun al hal => finK_ext hal (finK_pure (.inr rfl) (xs := [.bool false]) (by simp [resRV, Am.get]) rfl rfl)
end Go.Hull
end
section
set_option linter.unusedSimpArgs false
set_option linter.unusedVariables false
set_option maxHeartbeats 4000000
namespace Go.Hull
open Go Go.Am Go.Proofs

theorem viewG_ixT {hl : List Blk} {b g k : Nat} {nil frz : Bool} {xs v : List Nat} (hb : hget hl b = .row nil g frz 1 (ix xs)) (hv : xs.take k = v) (h : k ≤ xs.length) : viewG hl 6 (.sl b g 0 k) = some (ixV v, [b]) := by
  have := viewG_ix (i := 0) (k := k) hb (by omega)
  rw [List.drop_zero, hv] at this
  exact this
theorem viewG_ptsL {hl : List Blk} {b g k : Nat} {nil frz : Bool} {xs : List Pt} (hb : hget hl b = .row nil g frz 2 (xs.map pt)) (h : k = xs.length) : viewG hl 6 (.sl b g 0 k) = some (pts xs, [b]) := by
  have := viewG_pts (i := 0) (k := k) hb (by omega)
  rw [List.drop_zero, List.take_of_length_le (by omega)] at this
  exact this
theorem ltL_append (m : Nat) (a b : List AV) : ltL m (a ++ b) = (ltL m a && ltL m b) := by
  induction a with
  | nil => rfl
  | cons x a ih => simp only [List.cons_append, ltL, ih, Bool.and_assoc]
theorem flat_sv (vol : Bool) (v : List Nat) : flatN true 5 (.sv vol 1 (ix v)) = true := by
  simp only [flatN]
  induction v with
  | nil => rfl
  | cons n v ih => exact ih
theorem len_pts (l : List Pt) : lenAV (pts l) = some (.int .i64 (l.length : Int)) := by simp [pts, lenAV]
theorem ia_pts (h : Nat → Blk) (l : List Pt) (k : Int) (hk : 0 ≤ k ∧ k < (l.length : Int)) : iaddrAV h 2 k (pts l) = some (.rp false [.int .i64 (P l k.toNat).1, .int .i64 (P l k.toNat).2]) := by
  have h1 : k.toNat < l.length := by omega
  simp only [pts, iaddrAV, List.length_map, true_and, if_pos hk, get_pts (getp h1), Option.map_some, AV.cells, pt, P]
theorem ia_ptsD (h : Nat → Blk) (l : List Pt) (n : Nat) (k : Int) (hk : 0 ≤ k ∧ k < ((l.length - n : Nat) : Int)) : iaddrAV h 2 k (pts (l.drop n)) = some (.rp false [.int .i64 (P l (n + k.toNat)).1, .int .i64 (P l (n + k.toNat)).2]) := by
  rw [ia_pts h (l.drop n) k ⟨hk.1, by rw [List.length_drop]; exact hk.2⟩]
  simp only [P, List.getD_eq_getElem?_getD, List.getElem?_drop]
theorem cells_pt (p : Pt) : (pt p).cells = [.int .i64 p.1, .int .i64 p.2] := rfl
theorem ref_pts (l : List Pt) : (pts l).ref = [] := rfl
theorem ref_pt (p : Pt) : (pt p).ref = [] := rfl
theorem ref_ixV (v : List Nat) : (ixV v).ref = [] := rfl
theorem cont_ixV (h : Nat → Blk) (v : List Nat) : contAV h 1 (ixV v) = some (ix v) := rfl
theorem cont_pts (h : Nat → Blk) (l : List Pt) : contAV h 2 (pts l) = some (l.map pt) := rfl
theorem eqvA_pt (neg : Bool) (p q : Pt) : eqvA neg true [.i, .i] (pt p) (pt q) = some { v := .bool (if neg then !(decide (p = q)) else decide (p = q)) } := by
  have h : (p.1 == q.1 && (p.2 == q.2 && true)) = decide (p = q) := by
    obtain ⟨a, b⟩ := p
    obtain ⟨c, d⟩ := q
    simp [Prod.mk.injEq, ← Bool.decide_and]
    by_cases h1 : a = c <;> by_cases h2 : b = d <;> simp [h1, h2]
  simp only [eqvA, pt, eqCells, eqCell, if_true, Option.map_some]
  rw [h]
theorem put_pt (p : Pt) (a b : Int) : (pt p).putCells 0 [.int .i64 a, .int .i64 b] = pt (a, b) := rfl
theorem put_pt0 (p : Pt) (a : Int) : (pt p).putCells 0 [.int .i64 a] = pt (a, p.2) := rfl
theorem put_pt1 (p : Pt) (a : Int) : (pt p).putCells 1 [.int .i64 a] = pt (p.1, a) := rfl
theorem elem_pt (p : Pt) : (pt p).elem = true := rfl
theorem pair_eta (p : Pt) : (p.1, p.2) = p := rfl
theorem fold_pt2 (a b : Int) : AV.agg [.int .i64 a, .int .i64 b] = pt (a, b) := rfl
theorem elem_pts (l : List Pt) : (pts l).elem = true := rfl
theorem cells_pts (l : List Pt) : (pts l).cells = [pts l] := rfl
theorem elem_ixV (l : List Nat) : (ixV l).elem = true := rfl
theorem cells_ixV (l : List Nat) : (ixV l).cells = [ixV l] := rfl
theorem len_ixV (v : List Nat) : lenAV (ixV v) = some (.int .i64 (v.length : Int)) := by simp [ixV, lenAV, ix_length]
theorem ia_ixV (h : Nat → Blk) (v : List Nat) (k : Int) (hk : 0 ≤ k ∧ k < (v.length : Int)) : iaddrAV h 1 k (ixV v) = some (.rp false [.int .i64 ((v.getD k.toNat 0 : Nat) : Int)]) := by
  have h1 : k.toNat < v.length := by omega
  simp only [ixV, iaddrAV, ix_length, true_and, if_pos hk, ix_get v h1, Option.map_some, AV.cells, pt, P]
theorem ixg (v : List Nat) (k : Nat) (h : k < v.length) : (ix v)[k]? = some (.int .i64 ((v.getD k 0 : Nat) : Int)) := ix_get v h
theorem ptsg (l : List Pt) (k : Nat) (h : k < l.length) : (l.map pt)[k]? = some (pt (P l k)) := get_pts (getp h)
theorem one_ix (n : Nat) : AV.one (.int .i64 (n : Int)) = true := rfl
theorem ix_nil : ix [] = [] := rfl
theorem ix_snoc (xs : List Nat) (n : Nat) : ix xs ++ [AV.int .i64 (n : Int)] = ix (xs ++ [n]) := by simp [ix]
theorem pts_snoc (l : List Pt) (p : Pt) : l.map pt ++ [pt p] = (l ++ [p]).map pt := by simp
theorem slc_ixV (h : List Blk) (v : List Nat) (a : Nat) (ha : a ≤ v.length) : slcA h 1 (some (a : Int)) none (ixV v) = some ⟨ixV (v.drop a), []⟩ := by
  simp only [slcA, ixV, slcAV, if_true, Option.getD_some, Option.getD_none, ix_length]
  rw [if_pos (by omega)]
  simp only [Option.map_some, Int.toNat_natCast, ix_drop, ix_take]
  rw [List.take_of_length_le (by simp)]
theorem slc_pts (h : List Blk) (v : List Pt) (a : Nat) (ha : a ≤ v.length) : slcA h 2 (some (a : Int)) none (pts v) = some ⟨pts (v.drop a), []⟩ := by
  simp only [slcA, pts, slcAV, if_true, Option.getD_some, Option.getD_none, List.length_map]
  rw [if_pos (by omega)]
  simp only [Option.map_some, Int.toNat_natCast]
  rw [← List.map_drop, List.take_of_length_le (by simp; try omega)]
theorem map_take' {α β : Type} (f : α → β) (l : List α) (n : Nat) : (l.map f).take n = (l.take n).map f := List.map_take.symm
theorem map_drop' {α β : Type} (f : α → β) (l : List α) (n : Nat) : (l.map f).drop n = (l.drop n).map f := List.map_drop.symm
set_option linter.defProp false
def enc0 := And.intro @put_pt (And.intro @put_pt0 (And.intro @put_pt1 (And.intro @ref_pts (And.intro @ref_pt (And.intro @ref_ixV (And.intro @eqvA_pt (And.intro @cont_ixV (And.intro @cont_pts (And.intro @len_pts (And.intro @ia_ptsD (And.intro @ia_pts (And.intro @cells_pt (And.intro @elem_pt (And.intro @fold_pt2 (And.intro @pair_eta (And.intro @len_ixV (And.intro @ia_ixV (And.intro @ix_length (And.intro @ix_append (And.intro @ix_take (And.intro @ix_drop (And.intro @wr62 (And.intro @natAdd1 (And.intro @natAddN (And.intro @natSub1 (And.intro @natSubN (And.intro @tmodN (And.intro @tdivN (And.intro @toNat_cast (And.intro @Int.toNat_zero (And.intro @Int.natCast_nonneg (And.intro @ixg (And.intro @ptsg (And.intro @appB (And.intro @List.isEmpty_nil.{0} (And.intro @List.isEmpty_cons.{0} (And.intro @elem_pts (And.intro @cells_pts (And.intro @elem_ixV (And.intro @cells_ixV (And.intro @Bool.or_self (And.intro @Bool.false_or (And.intro @Bool.or_false (And.intro @or_true (And.intro @true_or (And.intro @Bool.false_and (And.intro @not_true_eq_false (And.intro @not_false_eq_true (And.intro @one_ix (And.intro @gX_tt (And.intro @gX_ff (And.intro @gX_tf (And.intro @gX_ft (And.intro @beq_self_eq_true.{0} (And.intro @all_ix (And.intro @ix_snoc (And.intro @pts_snoc (And.intro @bne_self_eq_false.{0} (@List.take_take.{0})))))))))))))))))))))))))))))))))))))))))))))))))))))))))))
def enc1 := And.intro @Nat.min_self (And.intro @List.length_map.{0,0} (And.intro @List.length_take.{0} (And.intro @slc_ixV (And.intro @slc_pts (And.intro @map_take' (@map_drop'))))))
def topN (l : List Pt) (d : Pt) : Nat → Int
  | 0 => dot (P l 0) d
  | i + 1 => maxI (topN l d i) (dot (P l i) d)
theorem ok_small {p : Pt} (h : okP p = true) : smallV p := by
  obtain ⟨⟨a, b⟩, c, d⟩ := okP_iff.1 h
  exact ⟨⟨by omega, by omega⟩, by omega, by omega⟩
theorem c61 (l : List Pt) (d : Pt) (hl : 0 < l.length) (hn : l.length < 4611686018427387904) (hs : ∀ p ∈ l, smallV p) (hd : smallV d) :
    CallsF Try.prog 61 [pts l, pt d] [] (.int .i64 (topN l d l.length)) [] := by
  have hsm : ∀ k, k < l.length → smallV (P l k) := fun k hk => hs _ (P_mem hk)
  refine callsF_cwx hm hf61 (by simp [cf61]) ?_
  simp only [cf61, argsAl]
  repeat' first
    | (refine hK _ _ _ (by first | exact fun h => Bool.noConfusion h | exact fun _ => rfl) ?_; clear hK K)
    | (refine CWx.r fun K hK => ?_; simp (maxSteps := 4000000) (disch := omega) only [dr0, dr1, dr2, dr3, dr4, if_true, if_false, Option.some.injEq, Nat.reduceEqDiff, Int.reduceToNat, Nat.reduceSub, Nat.reduceAdd, Nat.reduceMul, Nat.reduceLT, Nat.reduceLeDiff, reduceCtorEq, ↓reduceIte, catT, enc0, enc1, if_pos, if_neg])
    | refine CWx.go ?_
    | (apply RCx.view (fid := 56) (caps := []) rfl rfl; (focus ((simp only [evsA, evA_t, evA_c, Am.get, Nat.reduceEqDiff, ↓reduceIte, List.nil_append, List.cons_append, List.append_nil]; repeat' first | exact viewArgs_nil | apply viewArgs_cons | exact viewG_flat (flat_pts _ _) _ | exact viewG_flat (flat_ixV _ _) _ | exact viewG_flat (flat_sv _ _) _ | exact viewG_ixT rfl (by assumption) (by omega) | exact viewG_ptsL rfl (by first | omega | (simp; done) | (simp; omega)) | exact viewG_ix rfl (by first | omega | (simp; omega)) | exact viewG_flat rfl _; done))); (focus (refine c56' (hsm _ ?_) hd <;> first | omega | assumption)); (focus rfl); simp (maxSteps := 4000000) (disch := omega) only [dr0, dr1, dr2, dr3, dr4, if_true, if_false, Option.some.injEq, Nat.reduceEqDiff, Int.reduceToNat, Nat.reduceSub, Nat.reduceAdd, Nat.reduceMul, Nat.reduceLT, Nat.reduceLeDiff, reduceCtorEq, ↓reduceIte, catT, enc0, enc1, if_pos, if_neg])
    | (refine gX_split (fun hb => ?_) (fun hb => ?_) <;> (try simp only [hb]) <;> (try simp only [bset0, reduceCtorEq] at hb) <;> simp (maxSteps := 4000000) (disch := omega) only [dr0, dr1, dr2, dr3, dr4, if_true, if_false, Option.some.injEq, Nat.reduceEqDiff, Int.reduceToNat, Nat.reduceSub, Nat.reduceAdd, Nat.reduceMul, Nat.reduceLT, Nat.reduceLeDiff, reduceCtorEq, ↓reduceIte, catT, enc0, enc1, if_pos, if_neg])
    | (refine CWx.br rfl (fun hb => ?_) (fun hb => ?_) <;> first | exact Bool.noConfusion hb | (first | (simp only [bset0, reduceCtorEq] at hb; done) | ((try simp only [bset0, reduceCtorEq] at hb); first | contradiction | skip)))
    | (refine CWx.e fun K hK => ?_; simp (maxSteps := 4000000) (disch := omega) only [dr0, dr1, dr2, dr3, dr4, if_true, if_false, Option.some.injEq, Nat.reduceEqDiff, Int.reduceToNat, Nat.reduceSub, Nat.reduceAdd, Nat.reduceMul, Nat.reduceLT, Nat.reduceLeDiff, reduceCtorEq, ↓reduceIte, catT, enc0, enc1, if_pos, if_neg])
    | (refine CWx.block (id := 0) ?_; refine CWx.loopK (ι := Nat) [3, 13, 14] (fun i => l.length - i) (fun i => [(15, .int .i64 (i : Int)), (5, .int .i64 (topN l d i))]) (fun i => [.row false 0 false 2 [pt d]]) (fun i => i ≤ l.length) (fun i => by simp only [keepA, Am.get, List.cons_append, List.nil_append, Nat.reduceEqDiff, ↓reduceIte]; exact rfl) (0) ?_ ?_ (fun i hi => ?_); (focus ((try dsimp only) <;> (first | trivial | omega | (refine ⟨?_, ?_⟩ <;> first | omega | trivial | simp_all) | simp_all); done)); (focus (refine Fgt.mk' 1 (by simp) ?_ ?_ ?_ <;> simp [-List.map_take, -List.map_map, AV.isY, ltL_append, ix_nil, keepB, Am.get, AV.lt, ltL, lt_pts, lt_pt, lt_ixV, ltL_ix, ltL_pt, Blk.lt, ltB, topN]; done)); have Hi := hi; (skip))
    | refine CWx.seq ?_
    | refine CWx.block (id := 1) ?_
    | refine CWx.skip ?_
    | refine CWx.exit ?_
    | (refine CWx.ret fun al hal => finK_ext hal (finK_pure (.inr rfl) (by simp only [resRV, Am.get, Nat.reduceEqDiff, ↓reduceIte]; exact rfl) ?_ ?_); (focus (first | (rfl; done) | ((simp only [tupAV]; congr <;> omega); done) | (simp [tupAV, *]; done))); (focus (first | rfl | (simp [AV.allR, allRL, allRL_ix]; done))))
    | (intro al hal; refine ⟨i + 1, ?_, ?_, Fgt.ofx hal ?_⟩; (focus (first | omega | (dsimp only; omega))); (focus ((try dsimp only) <;> (first | trivial | omega | (refine ⟨?_, ?_⟩ <;> first | omega | trivial | simp_all) | simp_all); done)); (focus (refine Fgt.mk' 1 (by simp) ?_ ?_ ?_ <;> simp [-List.map_take, -List.map_map, AV.isY, ltL_append, ix_nil, keepB, Am.get, AV.lt, ltL, lt_pts, lt_pt, lt_ixV, ltL_ix, ltL_pt, Blk.lt, ltB, topN, topN]; done)))
theorem chk_ok {l : List Pt} (h : chk l = 0) : l.all okP = true := by
  unfold chk at h
  split at h
  · cases h
  · by_cases h' : l.all okP = true
    · exact h'
    · rw [if_neg h'] at h; cases h
theorem ok_P {l : List Pt} (h : l.all okP = true) : ∀ k, k < l.length → okP (P l k) = true := fun k hk => all_ok h hk
theorem allUp {A : Nat → Prop} {i : Nat} (h : ∀ j, j < i → A j) (hi : A i) : ∀ j, j < i + 1 → A j := fun j hj => by
  by_cases e : j = i
  · rw [e]; exact hi
  · exact h j (by omega)
end Go.Hull
end
