/- Two chains make a hull, in a circle: laws.
   Conditions: none. -/
import Derived.Test.YtkbpkbjfphdgeaaHM2
set_option linter.unusedVariables false
namespace Go.Hull

variable {D : Pt → Prop} {A B V : Nat → Pt} {x y : Nat}

theorem Two.vA (h : Two D A B x y) (hA : ∀ i, i < x → V i = A i) (hB : ∀ j, j < y → V (x + j) = B j) {i : Nat} (hi : i ≤ x) : V (i % (x + y)) = A i := by
  have y1 := h.y1
  rw [Nat.mod_eq_of_lt (by omega)]
  by_cases hx : i = x
  · subst hx; rw [h.join1]; exact hB 0 y1
  · exact hA i (by omega)
theorem Two.vB (h : Two D A B x y) (hA : ∀ i, i < x → V i = A i) (hB : ∀ j, j < y → V (x + j) = B j) {j : Nat} (hj : j ≤ y) : V ((x + j) % (x + y)) = B j := by
  have x1 := h.x1
  by_cases hy : j = y
  · subst hy; rw [Nat.mod_self, h.join2]; exact hA 0 x1
  · rw [Nat.mod_eq_of_lt (by omega)]; exact hB j (by omega)

theorem Two.edges (h : Two D A B x y) (hA : ∀ i, i < x → V i = A i) (hB : ∀ j, j < y → V (x + j) = B j) {i : Nat} (hi : i < x + y) {q : Pt} (hq : D q) : 0 ≤ left (V i) (V ((i + 1) % (x + y))) q := by
  by_cases hx : i < x
  · rw [hA i hx, h.vA hA hB (by omega)]
    exact h.lo.edge i hx q hq
  · obtain ⟨j, rfl⟩ : ∃ j, i = x + j := ⟨i - x, by omega⟩
    rw [hB j (by omega), show x + j + 1 = x + (j + 1) by omega, h.vB hA hB (by omega)]
    exact h.edgeB (by omega) hq

theorem Two.turning (h : Two D A B x y) (hA : ∀ i, i < x → V i = A i) (hB : ∀ j, j < y → V (x + j) = B j) (hn : 2 < x + y) {i : Nat} (hi : i < x + y) : 0 < left (V i) (V ((i + 1) % (x + y))) (V ((i + 2) % (x + y))) := by
  have x1 := h.x1
  have y1 := h.y1
  by_cases hx : i < x
  · rw [hA i hx, h.vA hA hB (by omega)]
    by_cases hx2 : i + 1 < x
    · rw [h.vA hA hB (by omega)]
      exact h.lo.turns i hx2
    · have t := h.turn1 hn
      rw [show i + 2 = x + 1 by omega, h.vB hA hB (by omega), show i + 1 = x by omega, show i = x - 1 by omega]
      exact t
  · obtain ⟨j, rfl⟩ : ∃ j, i = x + j := ⟨i - x, by omega⟩
    rw [hB j (by omega), show x + j + 1 = x + (j + 1) by omega, h.vB hA hB (by omega)]
    by_cases hy2 : j + 1 < y
    · rw [show x + j + 2 = x + (j + 2) by omega, h.vB hA hB (by omega)]
      exact h.turnB hy2
    · have t := h.turn2 hn
      rw [show x + j + 2 = 1 + (x + y) by omega, Nat.add_mod_right, h.vA hA hB (by omega), show j + 1 = y by omega, show j = y - 1 by omega]
      exact t

theorem Two.apart' (h : Two D A B x y) (hA : ∀ i, i < x → V i = A i) (hB : ∀ j, j < y → V (x + j) = B j) {i k : Nat} (hik : i < k) (hk : k < x + y) : V i ≠ V k := by
  intro e
  by_cases hx : k < x
  · rw [hA i (by omega), hA k hx] at e
    have := h.lo.lt hik (by omega)
    rw [e, before_irrefl] at this
    cases this
  · obtain ⟨j, rfl⟩ : ∃ j, k = x + j := ⟨k - x, by omega⟩
    rw [hB j (by omega)] at e
    by_cases hx2 : i < x
    · rw [hA i hx2] at e
      exact h.apart hx2 (by omega) e
    · obtain ⟨j', rfl⟩ : ∃ j, i = x + j := ⟨i - x, by omega⟩
      rw [hB j' (by omega)] at e
      have := h.ltB (i := j') (j := j) (by omega) (by omega)
      rw [e, before_irrefl] at this
      cases this

theorem length_le_of_nodup {α : Type} [BEq α] [LawfulBEq α] : ∀ (xs ys : List α), xs.Nodup → (∀ a ∈ xs, a ∈ ys) → xs.length ≤ ys.length := by
  intro xs
  induction xs with
  | nil => intro ys _ _; simp
  | cons a xs ih =>
    intro ys hn hs
    have ha := hs a (by simp)
    have hn' := List.nodup_cons.1 hn
    have := ih (ys.erase a) hn'.2 fun b hb => (List.mem_erase_of_ne (fun e => hn'.1 (by rw [← e]; exact hb))).2 (hs b (by simp [hb]))
    rw [List.length_erase_of_mem ha] at this
    have hp := List.length_pos_of_mem ha
    simp only [List.length_cons]; omega

theorem nodup_of_getD {d : Pt} {xs : List Pt} (h : ∀ i k, i < k → k < xs.length → xs.getD i d ≠ xs.getD k d) : xs.Nodup := by
  rw [List.nodup_iff_pairwise_ne, List.pairwise_iff_getElem]
  intro i j hi hj hij
  have := h i j hij hj
  simpa [List.getD_eq_getElem?_getD, List.getElem?_eq_getElem hi, List.getElem?_eq_getElem hj] using this
end Go.Hull
