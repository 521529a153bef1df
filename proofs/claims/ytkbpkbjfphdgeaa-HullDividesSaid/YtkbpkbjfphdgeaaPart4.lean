/- Renaming of rows, and calls beside rows of the caller's own.
   Conditions: none. -/
import Derived.OrdersIn
import Derived.Test.YtkbpkbjfphdgeaaPart3
section
set_option linter.unusedSimpArgs false
set_option linter.unusedVariables false
namespace Go.Am
open Go Go.RowKit

mutual
def AV.ren (σ : Nat → Nat) : AV → AV
  | .agg cs => .agg (renL σ cs)
  | .tup cs => .tup (renL σ cs)
  | .sv v sz xs => .sv v sz (renL σ xs)
  | .rp v cs => .rp v (renL σ cs)
  | .clo f cs => .clo f (renL σ cs)
  | .sl b g i n => .sl (σ b) g i n
  | .ptr b g i o => .ptr (σ b) g i o
  | x => x
def renL (σ : Nat → Nat) : List AV → List AV
  | [] => []
  | x :: xs => x.ren σ :: renL σ xs
end

mutual
/-- Nothing in it leads to memory that is only read. -/
def AV.clean : AV → Bool
  | .agg cs => cleanL cs
  | .tup cs => cleanL cs
  | .clo _ cs => cleanL cs
  | .sv _ _ _ => false
  | .rp _ _ => false
  | _ => true
def cleanL : List AV → Bool
  | [] => true
  | x :: xs => x.clean && cleanL xs
end

theorem renL_eq (σ : Nat → Nat) (l : List AV) : renL σ l = l.map (AV.ren σ) := by
  induction l with
  | nil => rfl
  | cons a l ih => simp [renL, ih]
theorem cleanL_eq (l : List AV) : cleanL l = l.all AV.clean := by
  induction l with
  | nil => rfl
  | cons a l ih => simp [cleanL, ih]
theorem ren_cells (σ : Nat → Nat) (x : AV) : (x.ren σ).cells = x.cells.map (AV.ren σ) := by
  cases x <;> simp [AV.ren, AV.cells, renL_eq]
theorem cellAt_ren (σ : Nat → Nat) (xs : List AV) (k j : Nat) : cellAt (renL σ xs) k j = (cellAt xs k j).map (AV.ren σ) := by
  unfold cellAt
  rw [renL_eq, List.getElem?_map]
  cases xs[k]? with
  | none => rfl
  | some e => simp [ren_cells]
theorem cleanL_mem {l : List AV} (h : cleanL l = true) {x : AV} (hx : x ∈ l) : x.clean = true := by
  rw [cleanL_eq] at h; exact List.all_eq_true.1 h x hx
theorem clean_cellAt {xs : List AV} (h : cleanL xs = true) {k j : Nat} {x : AV} (hk : cellAt xs k j = some x) : x.clean = true := by
  unfold cellAt at hk
  cases he : xs[k]? with
  | none => simp [he] at hk
  | some e =>
    simp only [he, Option.bind_some] at hk
    have h1 := cleanL_mem h (List.mem_of_getElem? he)
    have h2 := List.mem_of_getElem? hk
    cases e <;> simp only [AV.cells, List.mem_singleton] at h2 <;> first | (subst h2; exact h1) | exact cleanL_mem (by simpa [AV.clean] using h1) h2
theorem ren_getElem {σ : Nat → Nat} {cs : List AV} {i : Nat} {y : AV} (h : (renL σ cs)[i]? = some y) : ∃ x, cs[i]? = some x ∧ y = x.ren σ := by
  rw [renL_eq, List.getElem?_map] at h
  cases hc : cs[i]? with
  | none => simp [hc] at h
  | some x => simp only [hc, Option.map_some, Option.some.injEq] at h; exact ⟨x, rfl, h.symm⟩
theorem VRel.ren {κ κ' : K} {w : World} {σ : Nat → Nat} {x : AV} {v : Value} (h : VRel κ w x v) (hy : κ.yl = none) (hρ : ∀ b g y, κ.rho b g = some y → κ'.rho (σ b) g = some y)
    (hp : (∀ c off, Pr κ c off → Pr κ' c off) ∨ x.clean = true) : VRel κ' w (x.ren σ) v := by
  have sub : ∀ {cs : List AV}, (∀ c off, Pr κ c off → Pr κ' c off) ∨ cleanL cs = true → ∀ x ∈ cs, (∀ c off, Pr κ c off → Pr κ' c off) ∨ x.clean = true := fun h x hx => h.imp_right fun h => cleanL_mem h hx
  have list : ∀ {cs : List AV} {vs : Array Value}, (∀ (i : Nat) (x : AV) (v : Value), cs[i]? = some x → vs[i]? = some v → ((∀ c off, Pr κ c off → Pr κ' c off) ∨ x.clean = true) → VRel κ' w (x.ren σ) v) → ((∀ c off, Pr κ c off → Pr κ' c off) ∨ cleanL cs = true) →
      ∀ (i : Nat) (y : AV) (v : Value), (renL σ cs)[i]? = some y → vs[i]? = some v → VRel κ' w y v := by
    intro cs vs ih hall i y v hy hv
    obtain ⟨x, hc, rfl⟩ := ren_getElem hy
    exact ih i x v hc hv (sub hall x (List.mem_of_getElem? hc))
  induction h with
  | int => exact .int _ _
  | bool => exact .bool _
  | str => exact .str _
  | nilp => exact .nilp
  | nilf => exact .nilf
  | nili => exact .nili
  | nils => exact .nils
  | und => exact .und _
  | agg hl _ ih => exact .agg (by rw [renL_eq]; simpa using hl) (list ih (by simpa [AV.clean] using hp))
  | tup hl _ ih => exact .tup (by rw [renL_eq]; simpa using hl) (list ih (by simpa [AV.clean] using hp))
  | sv a c F hn hcap hc hm hs hr' ih =>
    rename_i vol sz xs
    have hp : ∀ c off, Pr κ c off → Pr κ' c off := hp.resolve_right (by simp [AV.clean])
    have hget : ∀ (k j : Nat) (y : AV), cellAt (renL σ xs) k j = some y → ∃ x, cellAt xs k j = some x ∧ y = x.ren σ := fun k j y hk => by
      rw [cellAt_ren] at hk
      cases hq : cellAt xs k j with
      | none => simp [hq] at hk
      | some x => simp only [hq, Option.map_some, Option.some.injEq] at hk; exact ⟨x, rfl, hk.symm⟩
    have := VRel.sv (κ := κ') (w := w) (vol := vol) (sz := sz) (xs := renL σ xs) a c F (by rw [renL_eq]; simpa using hn) (fun h => by rw [renL_eq, List.length_map]; exact hcap h) (fun hne => hc (by rintro rfl; simp [renL] at hne))
      (fun p k j y ha hk => by obtain ⟨x, h1, _⟩ := hget k j y hk; exact ⟨(hm p k j x ha h1).1, hp _ _ (hm p k j x ha h1).2⟩)
      (fun e he => by rw [renL_eq] at he; obtain ⟨e', h1, rfl⟩ := List.mem_map.1 he; rw [ren_cells]; simpa using hs e' h1)
      (fun k j y hk => by obtain ⟨x, h1, rfl⟩ := hget k j y hk; exact ih k j x h1 (.inl hp))
    rw [show (renL σ xs).length = xs.length by rw [renL_eq]; simp] at this
    exact this
  | sl loc a c hρ' hn ha hb => exact .sl loc a c (hρ _ _ _ hρ') hn ha hb
  | slnil hρ' => exact .slnil (hρ _ _ _ hρ')
  | ptr loc hρ' => exact .ptr loc (hρ _ _ _ hρ')
  | rp p' F hps hm hr' ih =>
    have hp : ∀ c off, Pr κ c off → Pr κ' c off := hp.resolve_right (by simp [AV.clean])
    refine .rp p' F hps (fun j y hj => ?_) (fun j y hj => ?_)
    all_goals
      obtain ⟨x, hq, rfl⟩ := ren_getElem hj
      first
        | exact ⟨(hm j x hq).1, hp _ _ (hm j x hq).2⟩
        | exact ih j x hq (.inl hp)
  | clo hl _ ih => exact .clo (by rw [renL_eq]; simpa using hl) (list ih (by simpa [AV.clean] using hp))
  | yld h => rw [hy] at h; cases h
theorem VRel.unren {κ κ' : K} {w : World} {σ : Nat → Nat} {m : Nat} {X : AV} {v : Value} (h : VRel κ w X v) : ∀ (x : AV), X = x.ren σ → x.lt m = true → (∀ b g, b < m → κ'.rho b g = κ.rho (σ b) g) → (∀ c off, Pr κ c off → Pr κ' c off) → VRel κ' w x v := by
  have list : ∀ {cs : List AV} {vs : Array Value}, (∀ (i : Nat) (x : AV) (v : Value), (renL σ cs)[i]? = some x → vs[i]? = some v → ∀ (y : AV), x = y.ren σ → y.lt m = true → VRel κ' w y v) → ltL m cs = true →
      ∀ (i : Nat) (y : AV) (v : Value), cs[i]? = some y → vs[i]? = some v → VRel κ' w y v := by
    intro cs vs ih hall i y v hy hv
    exact ih i (y.ren σ) v (by rw [renL_eq, List.getElem?_map, hy]; rfl) hv y rfl (ltL_mem hall y (List.mem_of_getElem? hy))
  induction h with
  | int => intro x e hl hρ hp; cases x <;> simp only [AV.ren, AV.int.injEq, reduceCtorEq] at e; obtain ⟨rfl, rfl⟩ := e; exact .int _ _
  | bool => intro x e hl hρ hp; cases x <;> simp only [AV.ren, AV.bool.injEq, reduceCtorEq] at e; subst e; exact .bool _
  | str => intro x e hl hρ hp; cases x <;> simp only [AV.ren, AV.str.injEq, reduceCtorEq] at e; subst e; exact .str _
  | nilp => intro x e hl hρ hp; cases x <;> simp only [AV.ren, reduceCtorEq] at e; exact .nilp
  | nilf => intro x e hl hρ hp; cases x <;> simp only [AV.ren, reduceCtorEq] at e; exact .nilf
  | nili => intro x e hl hρ hp; cases x <;> simp only [AV.ren, reduceCtorEq] at e; exact .nili
  | nils => intro x e hl hρ hp; cases x <;> simp only [AV.ren, reduceCtorEq] at e; exact .nils
  | und => intro x e hl hρ hp; cases x <;> simp only [AV.ren, reduceCtorEq] at e; exact .und _
  | agg hlen _ ih =>
    intro x e hl hρ hp
    cases x <;> simp only [AV.ren, AV.agg.injEq, reduceCtorEq] at e
    subst e
    exact .agg (by rw [renL_eq] at hlen; simpa using hlen) (list (fun i x v h1 h2 y h3 h4 => ih i x v h1 h2 y h3 h4 hρ hp) hl)
  | tup hlen _ ih =>
    intro x e hl hρ hp
    cases x <;> simp only [AV.ren, AV.tup.injEq, reduceCtorEq] at e
    subst e
    exact .tup (by rw [renL_eq] at hlen; simpa using hlen) (list (fun i x v h1 h2 y h3 h4 => ih i x v h1 h2 y h3 h4 hρ hp) hl)
  | clo hlen _ ih =>
    intro x e hl hρ hp
    cases x <;> simp only [AV.ren, AV.clo.injEq, reduceCtorEq] at e
    obtain ⟨rfl, rfl⟩ := e
    exact .clo (by rw [renL_eq] at hlen; simpa using hlen) (list (fun i x v h1 h2 y h3 h4 => ih i x v h1 h2 y h3 h4 hρ hp) hl)
  | sv a c F hn hcap hc hm hs hr' ih =>
    intro x e hl hρ hp
    cases x <;> simp only [AV.ren, AV.sv.injEq, reduceCtorEq] at e
    rename_i vol' sz' xs
    obtain ⟨rfl, rfl, rfl⟩ := e
    have hcell : ∀ k j y, cellAt xs k j = some y → cellAt (renL σ xs) k j = some (y.ren σ) := fun k j y hk => by rw [cellAt_ren, hk]; rfl
    have := fun vol (hcap' : vol = true → c = xs.length) => VRel.sv (κ := κ') (w := w) (vol := vol) (xs := xs) a c F (by rw [renL_eq] at hn; simpa using hn) hcap' (fun hne => hc (by rw [renL_eq]; simpa using hne))
      (fun p k j y ha hk => ⟨(hm p k j _ ha (hcell _ _ _ hk)).1, hp _ _ (hm p k j _ ha (hcell _ _ _ hk)).2⟩)
      (fun e he => by have := hs (e.ren σ) (by rw [renL_eq]; exact List.mem_map_of_mem he); rw [ren_cells] at this; simpa using this)
      (fun k j y hk => ih k j _ (hcell _ _ _ hk) y rfl (mem_cellAt (by simpa [AV.lt] using hl) hk) hρ hp)
    rw [show (renL σ xs).length = xs.length by rw [renL_eq]; simp]
    exact this _ (fun h => by have := hcap h; rwa [renL_eq, List.length_map] at this)
  | sl loc a c hρ' hn ha hb =>
    intro x e hl hρ hp
    cases x <;> simp only [AV.ren, AV.sl.injEq, reduceCtorEq] at e
    obtain ⟨rfl, rfl, rfl, rfl⟩ := e
    exact .sl loc a c ((hρ _ _ (by simpa [AV.lt] using hl)).trans hρ') hn ha hb
  | slnil hρ' =>
    intro x e hl hρ hp
    cases x <;> simp only [AV.ren, AV.sl.injEq, reduceCtorEq] at e
    obtain ⟨rfl, rfl, rfl, rfl⟩ := e
    exact .slnil ((hρ _ _ (by simpa [AV.lt] using hl)).trans hρ')
  | ptr loc hρ' =>
    intro x e hl hρ hp
    cases x <;> simp only [AV.ren, AV.ptr.injEq, reduceCtorEq] at e
    obtain ⟨rfl, rfl, rfl, rfl⟩ := e
    exact .ptr loc ((hρ _ _ (by simpa [AV.lt] using hl)).trans hρ')
  | rp p' F hps hm hr' ih =>
    intro x e hl hρ hp
    cases x <;> simp only [AV.ren, AV.rp.injEq, reduceCtorEq] at e
    rename_i vol' cs
    obtain ⟨rfl, rfl⟩ := e
    have hcell : ∀ (j : Nat) (y : AV), cs[j]? = some y → (renL σ cs)[j]? = some (y.ren σ) := fun j y hk => by rw [renL_eq, List.getElem?_map, hk]; rfl
    exact .rp p' F hps (fun j y hj => ⟨(hm j _ (hcell j y hj)).1, hp _ _ (hm j _ (hcell j y hj)).2⟩) (fun j y hj => ih j _ (hcell j y hj) y rfl (ltL_mem (by simpa [AV.lt] using hl) y (List.mem_of_getElem? hj)) hρ hp)
  | yld =>
    intro x e hl hρ hp
    cases x <;> simp only [AV.ren, reduceCtorEq] at e
    simp [AV.lt] at hl
def Blk.ren (σ : Nat → Nat) : Blk → Blk
  | .dead => .dead
  | .row nil g frz sz xs => .row nil g frz sz (renL σ xs)
def Blk.clean : Blk → Bool
  | .dead => true
  | .row _ _ _ _ xs => cleanL xs
mutual
theorem ren_id {σ : Nat → Nat} : ∀ (x : AV), x.lt 0 = true → x.ren σ = x
  | .agg cs, h => by simp only [AV.ren]; rw [renL_id cs h]
  | .tup cs, h => by simp only [AV.ren]; rw [renL_id cs h]
  | .sv _ _ cs, h => by simp only [AV.ren]; rw [renL_id cs h]
  | .rp _ cs, h => by simp only [AV.ren]; rw [renL_id cs h]
  | .clo _ cs, h => by simp only [AV.ren]; rw [renL_id cs h]
  | .sl _ _ _ _, h => by simp [AV.lt] at h
  | .ptr _ _ _ _, h => by simp [AV.lt] at h
  | .yld, h => by simp [AV.lt] at h
  | .int _ _, _ => rfl
  | .bool _, _ => rfl
  | .str _, _ => rfl
  | .nilp, _ => rfl
  | .nilf, _ => rfl
  | .nili, _ => rfl
  | .nils, _ => rfl
  | .und, _ => rfl
theorem renL_id {σ : Nat → Nat} : ∀ (l : List AV), ltL 0 l = true → renL σ l = l
  | [], _ => rfl
  | x :: xs, h => by
    simp only [ltL, Bool.and_eq_true] at h
    simp only [renL]
    rw [ren_id x h.1, renL_id xs h.2]
end

end Go.Am
end
section
set_option linter.unusedSimpArgs false
set_option linter.unusedVariables false
namespace Go.Am
open Go Go.RowKit

def sigma (names : List Nat) (n : Nat) (b : Nat) : Nat := match names[b]? with
  | some x => x
  | none => n + (b - names.length)
def frW (σ : Nat → Nat) : Nat → List Blk → List (Nat × Blk)
  | _, [] => []
  | i, b :: bs => (σ i, b.ren σ) :: frW σ (i + 1) bs
theorem updL_cons (h : Nat → Blk) (p : Nat × Blk) (l : List (Nat × Blk)) : updL h (p :: l) = updL (upd h p.1 p.2) l := rfl
theorem updL_other {b : Nat} : ∀ (l : List (Nat × Blk)) (h : Nat → Blk), (∀ p ∈ l, p.1 ≠ b) → updL h l b = h b := by
  intro l
  induction l with
  | nil => intro h _; rfl
  | cons p l ih =>
    intro h hb
    rw [updL_cons, ih _ (fun q hq => hb q (by simp [hq])), upd_other]
    exact fun e => hb p (by simp) e.symm
theorem frW_keys {σ : Nat → Nat} : ∀ (hr : List Blk) (i : Nat), ∀ p ∈ frW σ i hr, ∃ k, k < hr.length ∧ p.1 = σ (i + k) := by
  intro hr
  induction hr with
  | nil => intro i p hp; simp [frW] at hp
  | cons b bs ih =>
    intro i p hp
    simp only [frW, List.mem_cons] at hp
    rcases hp with rfl | hp
    · exact ⟨0, by simp, rfl⟩
    · obtain ⟨k, hk, e⟩ := ih (i + 1) p hp
      exact ⟨k + 1, by simpa using hk, by rw [e]; congr 1; omega⟩
theorem updL_frW {σ : Nat → Nat} : ∀ (hr : List Blk) (i : Nat) (h : Nat → Blk), (∀ a b, i ≤ a → a < i + hr.length → i ≤ b → b < i + hr.length → σ a = σ b → a = b) → ∀ k, k < hr.length → updL h (frW σ i hr) (σ (i + k)) = (hget hr k).ren σ := by
  intro hr
  induction hr with
  | nil => intro i h _ k hk; simp at hk
  | cons b bs ih =>
    intro i h hinj k hk
    simp only [frW, updL_cons]
    cases k with
    | zero =>
      rw [updL_other]
      · simp [hget]
      · intro p hp e
        obtain ⟨k, hk2, e2⟩ := frW_keys bs (i + 1) p hp
        rw [e2] at e
        have := hinj (i + 1 + k) (i + 0) (by omega) (by simp; omega) (by omega) (by simp) e
        omega
    | succ k =>
      have := ih (i + 1) (upd h (σ i) (b.ren σ)) (fun a c h1 h2 h3 h4 => hinj a c (by omega) (by simp; omega) (by omega) (by simp; omega)) k (by simpa using hk)
      rw [show i + 1 + k = i + (k + 1) by omega] at this
      rw [this]; simp [hget]
structure FrOk (h : Nat → Blk) (names : List Nat) (n : Nat) (hs hr : List Blk) : Prop where
  len : names.length = hs.length
  le : hs.length ≤ hr.length
  nodup : names.Nodup
  lt : ∀ x ∈ names, x < n
  rows : ∀ (i x : Nat), names[i]? = some x → h x = (hget hs i).ren (sigma names n)
  fresh : ∀ b, n ≤ b → b < n + (hr.length - hs.length) → h b = .dead
  low : ∀ b ∈ hs, b.lt hs.length = true
/-- Which heap block is one of a named row? -/
def Named (κ : K) (h : Nat → Blk) (names : List Nat) (c : Nat) : Prop := ∃ b ∈ names, ∃ loc, Lies κ h b loc ∧ loc.c = c
structure K0 (κ : K) (h : Nat → Blk) (w : World) (names : List Nat) (vw : Bool) (κ0 : K) : Prop where
  B : κ0.B = κ.B
  rho : ∀ i x g, names[i]? = some x → κ0.rho i g = κ.rho x g
  rho' : ∀ i g, names[i]? = none → κ0.rho i g = none
  pr : ∀ c, κ.prot c ≤ κ0.prot c
  nm : ∀ c, Named κ h names c → κ0.prot c = κ.prot c
  lt : ∀ c, κ0.prot c ≠ 0 → c < w.heap.size
  view : vw = true → ∀ c off v, ¬ Named κ h names c → w.cell? ⟨c, off, none⟩ = some v → Pr κ0 c off
  novw : vw = false → κ0.prot = κ.prot
  yl : κ0.yl = none
theorem K0.Pr {κ κ0 : K} {h : Nat → Blk} {w : World} {names : List Nat} {vw : Bool} (k : K0 κ h w names vw κ0) {c off : Nat} (hp : Pr κ c off) : Am.Pr κ0 c off := by
  rcases hp with hp | hp
  · exact .inl (by rw [k.B]; exact hp)
  · exact .inr (Nat.lt_of_lt_of_le hp (k.pr c))
open Classical in
theorem K0.exists {κ : K} {h : Nat → Blk} {w : World} (hi : Inv κ h w) (names : List Nat) (vw : Bool) : ∃ κ0, K0 κ h w names vw κ0 := by
  refine ⟨{ B := κ.B, yl := none, rho := fun i g => match names[i]? with | some x => κ.rho x g | none => none,
            prot := fun c => if Named κ h names c ∨ vw = false then κ.prot c else match w.heap[c]? with | some (.cells C _ _) => max (κ.prot c) C.size | _ => κ.prot c }, rfl, ?_, ?_, ?_, ?_, ?_, ?_, ?_, rfl⟩
  · intro i x g hx; simp [hx]
  · intro i g hx; simp [hx]
  · intro c
    simp only
    split
    · exact Nat.le_refl _
    · split
      · exact Nat.le_max_left _ _
      · exact Nat.le_refl _
  · intro c hc; simp [hc]
  · intro c hc
    simp only at hc
    split at hc
    · exact hi.prot c hc
    · split at hc
      · rename_i hC; exact (Array.getElem?_eq_some_iff.1 hC).1
      · exact hi.prot c hc
  · intro hvw c off v hn hv
    refine .inr ?_
    simp only
    rw [if_neg (by simp [hn, hvw])]
    unfold World.cell? at hv
    cases hC : w.heap[c]? with
    | none => simp [hC] at hv
    | some o =>
      cases o with
      | cells C e f =>
        simp only [hC] at hv
        simp only
        have : off < C.size := by
          cases hq : C[off]? with
          | none => simp [hq] at hv
          | some u => exact (Array.getElem?_eq_some_iff.1 hq).1
        exact Nat.lt_of_lt_of_le this (Nat.le_max_right _ _)
      | _ => simp [hC] at hv
  · intro hvw; simp [hvw]
def ArgView (vw : Bool) (h : Nat → Blk) (T names : List Nat) (X x : AV) : Prop :=
  ∀ (κ κ0 : K) (w : World) (h' : Nat → Blk) (v : Value), (∀ b ∈ T, h' b = h b) → K0 κ h' w names vw κ0 → Inv κ h' w → VRel κ w X v → VRel κ0 w x v
theorem ArgView.same {vw : Bool} {h : Nat → Blk} {T names : List Nat} {n : Nat} {x : AV} (hx : x.lt names.length = true) : ArgView vw h T names (x.ren (sigma names n)) x := fun κ κ0 w h' v _ k _ hv =>
  hv.unren x rfl hx (fun b g hb => by
    rw [k.rho b names[b] g (List.getElem?_eq_getElem hb)]
    simp [sigma, hb]) (fun c off => k.Pr)
structure CallsL (P : Program) (f : FuncId) (X : List AV) (h : Nat → Blk) (T : List Nat) (r : AV) (W : List (Nat × Blk)) : Prop where
  enter : ∀ (as : Array Value) (w : World), (callFunc f as).run P w = .ok (.enter f as) w
  calls : ∀ (κ : K) (w : World) (h' : Nat → Blk) (vs : Array Value), (∀ b ∈ T, h' b = h b) → Inv κ h' w → X.length = vs.size → (∀ (i : Nat) (x : AV) (v : Value), X[i]? = some x → vs[i]? = some v → VRel κ w x v) →
    CallsIn Fence.wide 0 P f vs w fun e w' => ∃ v κ', e = .returned v ∧ Ext κ w κ' w' ∧ Inv κ' (updL h' W) w' ∧ VRel κ' w' r v ∧ Chg κ h' w κ' (updL h' W) w'
theorem sigma_inj {names : List Nat} {n : Nat} (hn : names.Nodup) (hlt : ∀ x ∈ names, x < n) {a b : Nat} (h : sigma names n a = sigma names n b) : a = b := by
  unfold sigma at h
  cases ha : names[a]? with
  | some x =>
    rw [ha] at h
    cases hb : names[b]? with
    | some y =>
      rw [hb] at h
      simp only at h
      subst h
      exact (List.getElem?_inj (List.getElem?_eq_some_iff.1 ha).1 hn).1 (ha.trans hb.symm)
    | none =>
      rw [hb] at h
      have := hlt x (List.mem_of_getElem? ha)
      simp only at h; omega
  | none =>
    rw [ha] at h
    cases hb : names[b]? with
    | some y =>
      rw [hb] at h
      have := hlt y (List.mem_of_getElem? hb)
      simp only at h; omega
    | none =>
      rw [hb] at h
      simp only at h
      have h1 := List.getElem?_eq_none_iff.1 ha
      have h2 := List.getElem?_eq_none_iff.1 hb
      omega
theorem CallsF.frame {P : Program} {f : FuncId} {args : List AV} {hs : List Blk} {r : AV} {hr : List Blk} (vw : Bool) (hC : CallsF P f args hs r hr) {h : Nat → Blk} {names : List Nat} {n : Nat} (ho : FrOk h names n hs hr) {T : List Nat} (hT : ∀ x ∈ names, x ∈ T)
    (hT2 : ∀ b, n ≤ b → b < n + (hr.length - hs.length) → b ∈ T) {X : List AV} (hX : X.length = args.length) (hview : ∀ (i : Nat) (Y y : AV), X[i]? = some Y → args[i]? = some y → ArgView vw h T names Y y) (hclean : vw = true → r.clean = true ∧ ∀ b ∈ hr, b.clean = true) :
    CallsL P f X h T (r.ren (sigma names n)) (frW (sigma names n) 0 hr) := by
  refine ⟨hC.enter, fun κ w h' vs hT' hi hlen hrel => ?_⟩
  have hlen' := ho.len
  have hle' := ho.le
  obtain ⟨κ0, k0⟩ := K0.exists hi names vw
  -- the callee's state
  have hname : ∀ (i x : Nat), names[i]? = some x → h' x = (hget hs i).ren (sigma names n) := fun i x hx => (hT' x (hT x (List.mem_of_getElem? hx))).trans (ho.rows i x hx)
  have hlies0 : ∀ i loc, Lies κ0 (hget hs) i loc → ∃ x, names[i]? = some x ∧ Lies κ h' x loc := by
    rintro i loc ⟨g, frz, sz, xs, h1, h2⟩
    cases hx : names[i]? with
    | none => rw [k0.rho' i g hx] at h2; cases h2
    | some x =>
      refine ⟨x, rfl, g, frz, sz, renL (sigma names n) xs, ?_, ?_⟩
      · rw [hname i x hx, h1]; rfl
      · rw [← k0.rho i x g hx]; exact h2
  have hnamed0 : ∀ i loc, Lies κ0 (hget hs) i loc → Named κ h' names loc.c := fun i loc hl => by
    obtain ⟨x, h1, h2⟩ := hlies0 i loc hl
    exact ⟨x, List.mem_of_getElem? h1, loc, h2, rfl⟩
  have hi0 : Inv κ0 (hget hs) w := by
    refine ⟨by rw [k0.B]; exact hi.base, fun i => ?_, fun b b' loc loc' h1 h2 hc => ?_, k0.lt⟩
    · cases hx : names[i]? with
      | none =>
        have : hs.length ≤ i := by have := List.getElem?_eq_none_iff.1 hx; omega
        rw [hget_dead _ _ this]
        exact fun g => k0.rho' i g hx
      | some x =>
        have h1 := hi.ok x
        rw [hname i x hx] at h1
        have hil : i < names.length := (List.getElem?_eq_some_iff.1 hx).1
        have hxi : sigma names n i = x := by simp [sigma, hx]
        cases hb : hget hs i with
        | dead => rw [hb] at h1; intro g; rw [k0.rho i x g hx]; exact h1 g
        | row nil g frz sz xs =>
          rw [hb] at h1
          obtain ⟨h2, h3⟩ := h1
          have hroweq : h' x = .row nil g frz sz (renL (sigma names n) xs) := by rw [hname i x hx, hb]; rfl
          refine ⟨?_, fun g' hg' => by rw [k0.rho i x g' hx]; exact h3 g' hg'⟩
          rcases h2 with ⟨h4, h5, h6⟩ | ⟨h4, loc, h5, h6⟩
          · exact .inl ⟨h4, by rw [k0.rho i x g hx]; exact h5, by rw [renL_eq] at h6; simpa using h6⟩
          · subst h4
            have hl : (renL (sigma names n) xs).length = xs.length := by rw [renL_eq]; simp
            have hnm : Named κ h' names loc.c := ⟨x, List.mem_of_getElem? hx, loc, ⟨g, frz, sz, _, hroweq, h5⟩, rfl⟩
            refine .inr ⟨rfl, loc, by rw [k0.rho i x g hx]; exact h5, h6.hsz, by rw [k0.B]; exact h6.own, by have := h6.blk; rwa [hl] at this, fun e he => ?_, fun k j y hk => ?_, ?_⟩
            · have := h6.size (e.ren (sigma names n)) (by rw [renL_eq]; exact List.mem_map_of_mem he)
              rw [ren_cells] at this; simpa using this
            · obtain ⟨v, hv, hvr⟩ := h6.cell k j (y.ren (sigma names n)) (by rw [cellAt_ren, hk]; rfl)
              have hmem : Blk.row false g frz sz xs ∈ hs := by
                rw [← hb]
                have : i < hs.length := by omega
                simp [hget, this]
              refine ⟨v, hv, hvr.unren (m := names.length) y rfl ?_ (fun b g hb => ?_) (fun c off => k0.Pr)⟩
              · rw [hlen']; exact mem_cellAt (ho.low _ hmem) hk
              · rw [k0.rho b names[b] g (List.getElem?_eq_getElem hb)]; simp [sigma, hb]
            · rw [k0.nm _ hnm]; have := h6.prot; rwa [hl] at this
    · obtain ⟨x, h3, h4⟩ := hlies0 b loc h1
      obtain ⟨x', h5, h6⟩ := hlies0 b' loc' h2
      have := hi.inj x x' loc loc' h4 h6 hc
      subst this
      exact (List.getElem?_inj (List.getElem?_eq_some_iff.1 h3).1 ho.nodup).1 (h3.trans h5.symm)
  have harg : ∀ (i : Nat) (x : AV) (v : Value), args[i]? = some x → vs[i]? = some v → VRel κ0 w x v := fun i x v hx hv => by
    have hlt : i < X.length := by rw [hX]; exact (List.getElem?_eq_some_iff.1 hx).1
    exact hview i X[i] x (List.getElem?_eq_getElem hlt) hx κ κ0 w h' v hT' k0 hi (hrel i X[i] v (List.getElem?_eq_getElem hlt) hv)
  refine (hC.calls κ0 w vs k0.yl hi0 (hX ▸ hlen) harg).mono ?_
  rintro e w1 ⟨u, κ1, rfl, hx1, hi1, hv1, hc1⟩
  -- the caller's state behind the call
  have hinj : ∀ a b, sigma names n a = sigma names n b → a = b := fun a b => sigma_inj ho.nodup ho.lt
  have hupd : ∀ i, i < hr.length → updL h' (frW (sigma names n) 0 hr) (sigma names n i) = (hget hr i).ren (sigma names n) := fun i hlt => by
    have := updL_frW (σ := sigma names n) hr 0 h' (fun a b _ _ _ _ => hinj a b) i hlt
    simpa using this
  have hoth : ∀ b, (∀ i, i < hr.length → sigma names n i ≠ b) → updL h' (frW (sigma names n) 0 hr) b = h' b := fun b hb => updL_other _ _ fun p hp => by
    obtain ⟨k, hk, e⟩ := frW_keys _ _ p hp
    rw [e]; simpa using hb k hk
  have hcase : ∀ b, (∃ i, i < hr.length ∧ sigma names n i = b) ∨ (∀ i, i < hr.length → sigma names n i ≠ b) := fun b => by
    by_cases h : ∃ i, i < hr.length ∧ sigma names n i = b
    · exact .inl h
    · exact .inr fun i hi he => h ⟨i, hi, he⟩
  have hsn : ∀ i x, names[i]? = some x → sigma names n i = x := fun i x hx => by simp [sigma, hx]
  have hnotnamed : ∀ b, (∀ i, i < hr.length → sigma names n i ≠ b) → b ∉ names := fun b hb hmem => by
    obtain ⟨i, hi, he⟩ := List.mem_iff_getElem.1 hmem
    exact hb i (by omega) (by simp [sigma, hi, he])
  have hfreshdead : ∀ i, i < hr.length → names.length ≤ i → h' (sigma names n i) = .dead := fun i h1 h2 => by
    have : sigma names n i = n + (i - names.length) := by simp [sigma, List.getElem?_eq_none h2]
    rw [this, hT' _ (hT2 _ (by omega) (by omega))]
    exact ho.fresh _ (by omega) (by omega)
  obtain ⟨κ2, k2B, k2yl, k2prot, k2rho, k2rho'⟩ : ∃ κ2 : K, κ2.B = κ.B ∧ κ2.yl = κ.yl ∧ (∀ c, (c < w.heap.size ∧ ¬ Named κ h' names c → κ2.prot c = κ.prot c) ∧ (¬ (c < w.heap.size ∧ ¬ Named κ h' names c) → κ2.prot c = κ1.prot c)) ∧
      (∀ i g, i < hr.length → κ2.rho (sigma names n i) g = κ1.rho i g) ∧ (∀ b g, (∀ i, i < hr.length → sigma names n i ≠ b) → κ2.rho b g = κ.rho b g) := by
    classical
    refine ⟨{ B := κ.B, yl := κ.yl, prot := fun c => if c < w.heap.size ∧ ¬ Named κ h' names c then κ.prot c else κ1.prot c,
              rho := fun b g => if h : ∃ i, i < hr.length ∧ sigma names n i = b then κ1.rho h.choose g else κ.rho b g }, rfl, rfl, fun c => ⟨fun h => by simp only; rw [if_pos h], fun h => by simp only; rw [if_neg h]⟩, fun i g hi => ?_, fun b g hb => ?_⟩
    · have hex : ∃ j, j < hr.length ∧ sigma names n j = sigma names n i := ⟨i, hi, rfl⟩
      simp only
      rw [dif_pos hex]
      rw [hinj _ _ hex.choose_spec.2]
    · simp only
      rw [dif_neg (by rintro ⟨i, h1, h2⟩; exact hb i h1 h2)]
  have hρ12 : ∀ b g y, κ1.rho b g = some y → κ2.rho (sigma names n b) g = some y := fun b g y hb => by
    rw [k2rho b g]
    · exact hb
    · refine Nat.lt_of_not_le fun hle => ?_
      have := hi1.ok b
      rw [hget_dead _ _ hle] at this
      rw [this g] at hb; cases hb
  have hprot1 : ∀ c, c < w.heap.size → ¬ Named κ h' names c → κ1.prot c = κ0.prot c := fun c h1 h2 => hc1.prot c h1 fun b loc hl he => h2 (he ▸ hnamed0 b loc hl)
  have hpr12 : vw = false → ∀ c off, Pr κ1 c off → Pr κ2 c off := fun hvw c off hp => by
    rcases hp with hp | hp
    · exact .inl (by rw [k2B, ← k0.B, ← hx1.B]; exact hp)
    · refine .inr ?_
      by_cases hcc : c < w.heap.size ∧ ¬ Named κ h' names c
      · rw [(k2prot c).1 hcc, ← k0.novw hvw, ← hprot1 c hcc.1 hcc.2]; exact hp
      · rw [(k2prot c).2 hcc]; exact hp
  have hx2 : Ext κ w κ2 w1 := by
    refine ⟨k2B, fun b g y hb => ?_, fun c => ?_, fun c off v hp hv => hx1.cell c off v (k0.Pr hp) hv, hx1.blk, k2yl⟩
    · rcases hcase b with ⟨i, h1, rfl⟩ | h1
      · rw [k2rho i g h1]
        by_cases him : i < names.length
        · have hxi : names[i]? = some (sigma names n i) := by simp [sigma, him]
          exact hx1.rho i g y (by rw [k0.rho i _ g hxi]; exact hb)
        · have := hi.ok (sigma names n i)
          rw [hfreshdead i h1 (by omega)] at this
          rw [this g] at hb; cases hb
      · rw [k2rho' b g h1]; exact hb
    · by_cases hcc : c < w.heap.size ∧ ¬ Named κ h' names c
      · rw [(k2prot c).1 hcc]; exact Nat.le_refl _
      · rw [(k2prot c).2 hcc]; exact Nat.le_trans (k0.pr c) (hx1.prot c)
  have hcl : ∀ (xs : List AV), (vw = true → cleanL xs = true) → ∀ {k j x}, cellAt xs k j = some x → (∀ c off, Pr κ1 c off → Pr κ2 c off) ∨ x.clean = true := fun xs h k j x hk => by
    cases hvw : vw with
    | false => exact .inl (hpr12 hvw)
    | true => exact .inr (clean_cellAt (h hvw) hk)
  have hloc1 : ∀ i loc, Lies κ1 (hget hr) i loc → Named κ h' names loc.c ∨ w.heap.size ≤ loc.c := fun i loc hl => by
    rcases hc1.lies i loc hl with ⟨b0, loc0, h1, h2⟩ | h1
    · exact .inl (h2 ▸ hnamed0 b0 loc0 h1)
    · exact .inr h1
  have hprot2 : ∀ i loc, Lies κ1 (hget hr) i loc → κ2.prot loc.c = κ1.prot loc.c := fun i loc hl => (k2prot _).2 (by
    rintro ⟨h1, h2⟩
    rcases hloc1 i loc hl with h3 | h3
    · exact h2 h3
    · omega)
  have horig : ∀ b loc, Lies κ2 (updL h' (frW (sigma names n) 0 hr)) b loc → (∃ i, i < hr.length ∧ sigma names n i = b ∧ Lies κ1 (hget hr) i loc) ∨ ((∀ i, i < hr.length → sigma names n i ≠ b) ∧ Lies κ h' b loc) := by
    rintro b loc ⟨g, frz, sz, xs, h1, h2⟩
    rcases hcase b with ⟨i, h3, rfl⟩ | h3
    · rw [hupd i h3] at h1
      rw [k2rho i g h3] at h2
      cases hb : hget hr i with
      | dead => rw [hb] at h1; cases h1
      | row nil' g' frz' sz' xs' =>
        rw [hb] at h1
        simp only [Blk.ren, Blk.row.injEq] at h1
        obtain ⟨rfl, rfl, rfl, rfl, rfl⟩ := h1
        exact .inl ⟨i, h3, rfl, _, _, _, _, hb, h2⟩
    · rw [hoth b h3] at h1
      rw [k2rho' b g h3] at h2
      exact .inr ⟨h3, g, frz, sz, xs, h1, h2⟩
  have hunnamed : ∀ b loc, b ∉ names → Lies κ h' b loc → ¬ Named κ h' names loc.c := by
    rintro b loc hb hl ⟨b', hb', loc', hl', hcc⟩
    have := hi.inj b' b loc' loc hl' hl hcc
    exact hb (this ▸ hb')
  have hi2 : Inv κ2 (updL h' (frW (sigma names n) 0 hr)) w1 := by
    refine ⟨by rw [k2B]; exact Nat.le_trans hi.base hc1.size, fun b => ?_, fun b b' loc loc' h1 h2 hcc => ?_, fun c hc => ?_⟩
    · rcases hcase b with ⟨i, h1, rfl⟩ | h1
      · rw [hupd i h1]
        have h2 := hi1.ok i
        cases hb : hget hr i with
        | dead => rw [hb] at h2; intro g; rw [k2rho i g h1]; exact h2 g
        | row nil g frz sz xs =>
          rw [hb] at h2
          obtain ⟨h3, h4⟩ := h2
          have hmem : Blk.row nil g frz sz xs ∈ hr := by rw [← hb]; simp [hget, h1]
          have hl : (renL (sigma names n) xs).length = xs.length := by rw [renL_eq]; simp
          refine ⟨?_, fun g' hg' => by rw [k2rho i g' h1]; exact h4 g' hg'⟩
          rcases h3 with ⟨h5, h6, h7⟩ | ⟨h5, loc, h6, h7⟩
          · exact .inl ⟨h5, by rw [k2rho i g h1]; exact h6, by rw [h7]; rfl⟩
          · subst h5
            refine .inr ⟨rfl, loc, by rw [k2rho i g h1]; exact h6, h7.hsz, by rw [k2B, ← k0.B, ← hx1.B]; exact h7.own, by rw [hl]; exact h7.blk, fun e he => ?_, fun k j y hk => ?_, ?_⟩
            · rw [renL_eq] at he
              obtain ⟨e', h8, rfl⟩ := List.mem_map.1 he
              rw [ren_cells]; simpa using h7.size e' h8
            · rw [cellAt_ren] at hk
              cases hq : cellAt xs k j with
              | none => simp [hq] at hk
              | some y' =>
                simp only [hq, Option.map_some, Option.some.injEq] at hk
                subst hk
                obtain ⟨v, hv, hvr⟩ := h7.cell k j y' hq
                exact ⟨v, hv, hvr.ren (hx1.yl.trans k0.yl) hρ12 (hcl xs (fun hvw => (hclean hvw).2 _ hmem) hq)⟩
            · rw [hprot2 i loc ⟨g, frz, sz, xs, hb, h6⟩, hl]; exact h7.prot
      · rw [hoth b h1]
        have h2 := hi.ok b
        cases hb : h' b with
        | dead => rw [hb] at h2; intro g; rw [k2rho' b g h1]; exact h2 g
        | row nil g frz sz xs =>
          rw [hb] at h2
          obtain ⟨h3, h4⟩ := h2
          refine ⟨?_, fun g' hg' => by rw [k2rho' b g' h1]; exact h4 g' hg'⟩
          rcases h3 with ⟨h5, h6, h7⟩ | ⟨h5, loc, h6, h7⟩
          · exact .inl ⟨h5, by rw [k2rho' b g h1]; exact h6, h7⟩
          · subst h5
            have hl : Lies κ h' b loc := ⟨g, frz, sz, xs, hb, h6⟩
            have hun := hunnamed b loc (hnotnamed b h1) hl
            refine .inr ⟨rfl, loc, by rw [k2rho' b g h1]; exact h6, h7.keep hx2 (hc1.blk _ (hl.lt hi) fun b' loc' hl' he => hun (he ▸ hnamed0 b' loc' hl')) ((k2prot _).1 ⟨hl.lt hi, hun⟩)⟩
    · rcases horig b loc h1 with ⟨i, h3, rfl, h4⟩ | ⟨h3, h4⟩ <;> rcases horig b' loc' h2 with ⟨i', h5, rfl, h6⟩ | ⟨h5, h6⟩
      · rw [hi1.inj i i' loc loc' h4 h6 hcc]
      · rcases hloc1 i loc h4 with h7 | h7
        · exact absurd (hcc ▸ h7) (hunnamed b' loc' (hnotnamed b' h5) h6)
        · have := h6.lt hi; omega
      · rcases hloc1 i' loc' h6 with h7 | h7
        · exact absurd (hcc ▸ h7) (hunnamed b loc (hnotnamed b h3) h4)
        · have := h4.lt hi; omega
      · exact hi.inj b b' loc loc' h4 h6 hcc
    · by_cases hlt : c < w.heap.size
      · exact Nat.lt_of_lt_of_le hlt hc1.size
      · rw [(k2prot c).2 (fun h => hlt h.1)] at hc
        exact hi1.prot c hc
  refine ⟨u, κ2, rfl, hx2, hi2, hv1.ren (hx1.yl.trans k0.yl) hρ12 ?_, ⟨hc1.os, hc1.tape, hc1.output, hc1.size, fun c hc hl => hc1.blk c hc fun b loc hb he => ?_, fun b loc hl => ?_, fun c hc hl => (k2prot c).1 ⟨hc, ?_⟩⟩⟩
  · cases hvw : vw with
    | false => exact .inl (hpr12 hvw)
    | true => exact .inr (hclean hvw).1
  · obtain ⟨x, h1, h2⟩ := hlies0 b loc hb
    exact hl x loc h2 he
  · rcases horig b loc hl with ⟨i, h3, rfl, h4⟩ | ⟨h3, h4⟩
    · rcases hc1.lies i loc h4 with ⟨b0, loc0, h1, h2⟩ | h1
      · obtain ⟨x, h5, h6⟩ := hlies0 b0 loc0 h1
        exact .inl ⟨x, loc0, h6, h2⟩
      · exact .inr h1
    · exact .inl ⟨b, loc, h4, rfl⟩
  · rintro ⟨b, hb, loc, hl', he⟩
    exact hl b loc hl' he
end Go.Am
end
section
set_option linter.unusedSimpArgs false
set_option linter.unusedVariables false
namespace Go.Am
open Go Go.RowKit

theorem Inv.unnamed {κ : K} {h : Nat → Blk} {w : World} (hi : Inv κ h w) {names : List Nat} {b : Nat} {loc : Loc} (hb : b ∉ names) (hl : Lies κ h b loc) : ¬ Named κ h names loc.c := by
  rintro ⟨b', hb', loc', hl', hcc⟩
  have := hi.inj b' b loc' loc hl' hl hcc
  exact hb (this ▸ hb')
theorem ArgView.sl {h : Nat → Blk} {T names : List Nat} {b g i n sz : Nat} {nil frz : Bool} {XS xs : List AV} (hb : h b = .row nil g frz sz XS) (hT : b ∈ T) (hnn : b ∉ names) (hlen : xs.length = n) (hsz : ∀ e ∈ xs, e.cells.length = sz)
    (hel : ∀ k j y, cellAt xs k j = some y → ∃ Y, cellAt XS (i + k) j = some Y ∧ ArgView true h T names Y y) : ArgView true h T names (.sl b g i n) (.sv false sz xs) := by
  intro κ κ0 w h' v hT' k0 hi hv
  have hrow := hi.ok b
  rw [hT' b hT, hb] at hrow
  cases hv with
  | slnil hρ =>
    have hx : xs = [] := List.eq_nil_of_length_eq_zero hlen
    subst hx
    exact .sv none 0 (fun _ _ => undef) (Nat.le_refl _) nofun (fun h => absurd rfl h) (fun p k j x hp => by cases hp) (fun e he => by cases he) (fun k j x hk => by simp [cellAt] at hk)
  | sl loc a c hρ hn ha hbb =>
    subst hlen
    rcases hrow.1 with ⟨_, h1, _⟩ | ⟨hnil, loc', h1, h2⟩
    · rw [hρ] at h1; cases h1
    · rw [hρ] at h1; cases h1
      have hun : ¬ Named κ h' names loc.c := hi.unnamed hnn ⟨g, frz, sz, XS, by rw [hT' b hT, hb, hnil], hρ⟩
      have hc0 : xs ≠ [] → c ≠ 0 := fun hne => by
        have : 0 < xs.length := List.length_pos_iff.2 hne
        omega
      refine .sv (some a) c (fun k j => (w.cell? ⟨loc.c, loc.o + (i + k) * sz + j, none⟩).getD undef) hn nofun (fun hne => ⟨a, rfl, by rw [ha (hc0 hne)]⟩) (fun p k j x hp hk => ?_) hsz (fun k j x hk => ?_)
      · obtain ⟨Y, hY, _⟩ := hel k j x hk
        obtain ⟨u, hu, _⟩ := h2.cell (i + k) j Y hY
        have hne : xs ≠ [] := by rintro rfl; simp [cellAt] at hk
        cases hp
        rw [ha (hc0 hne)]
        simp only [hu, Option.getD_some]
        have he : loc.o + i * loc.sz + k * sz + j = loc.o + (i + k) * sz + j := by rw [h2.hsz, Nat.add_mul]; omega
        rw [he]
        exact ⟨hu, k0.view rfl _ _ _ hun hu⟩
      · obtain ⟨Y, hY, hview⟩ := hel k j x hk
        obtain ⟨u, hu, hur⟩ := h2.cell (i + k) j Y hY
        simp only [hu, Option.getD_some]
        exact hview κ κ0 w h' u hT' k0 hi hur
theorem ArgView.ptr {h : Nat → Blk} {T names : List Nat} {b g i o sz : Nat} {nil frz : Bool} {XS cs : List AV} (hb : h b = .row nil g frz sz XS) (hT : b ∈ T) (hnn : b ∉ names)
    (hel : ∀ (j : Nat) (y : AV), cs[j]? = some y → ∃ Y, cellAt XS i (o + j) = some Y ∧ ArgView true h T names Y y) : ArgView true h T names (.ptr b g i o) (.rp true cs) := by
  intro κ κ0 w h' v hT' k0 hi hv
  have hrow := hi.ok b
  rw [hT' b hT, hb] at hrow
  cases hv with
  | ptr loc hρ =>
    rcases hrow.1 with ⟨_, h1, _⟩ | ⟨hnil, loc', h1, h2⟩
    · rw [hρ] at h1; cases h1
    · rw [hρ] at h1; cases h1
      have hun : ¬ Named κ h' names loc.c := hi.unnamed hnn ⟨g, frz, sz, XS, by rw [hT' b hT, hb, hnil], hρ⟩
      refine .rp _ (fun j => (w.cell? ⟨loc.c, loc.o + i * sz + (o + j), none⟩).getD undef) rfl (fun j x hk => ?_) (fun j x hk => ?_)
      · obtain ⟨Y, hY, _⟩ := hel j x hk
        obtain ⟨u, hu, _⟩ := h2.cell i (o + j) Y hY
        simp only [hu, Option.getD_some]
        have he : loc.o + i * loc.sz + o + j = loc.o + i * sz + (o + j) := by rw [h2.hsz]; omega
        rw [he]
        exact ⟨hu, k0.view rfl _ _ _ hun hu⟩
      · obtain ⟨Y, hY, hview⟩ := hel j x hk
        obtain ⟨u, hu, hur⟩ := h2.cell i (o + j) Y hY
        simp only [hu, Option.getD_some]
        exact hview κ κ0 w h' u hT' k0 hi hur
theorem ArgView.agg {vw : Bool} {h : Nat → Blk} {T names : List Nat} {XS xs : List AV} (hl : xs.length = XS.length) (hel : ∀ (i : Nat) (Y y : AV), XS[i]? = some Y → xs[i]? = some y → ArgView vw h T names Y y) : ArgView vw h T names (.agg XS) (.agg xs) := by
  intro κ κ0 w h' v hT' k0 hi hv
  cases hv with
  | agg hlen hr =>
    refine .agg (hl.trans hlen) fun i y u hy hu => ?_
    have hlt : i < XS.length := by rw [← hl]; exact (List.getElem?_eq_some_iff.1 hy).1
    exact hel i XS[i] y (List.getElem?_eq_getElem hlt) hy κ κ0 w h' u hT' k0 hi (hr i XS[i] u (List.getElem?_eq_getElem hlt) hu)
theorem ArgView.clo {vw : Bool} {h : Nat → Blk} {T names : List Nat} {f : FuncId} {XS xs : List AV} (hl : xs.length = XS.length) (hel : ∀ (i : Nat) (Y y : AV), XS[i]? = some Y → xs[i]? = some y → ArgView vw h T names Y y) : ArgView vw h T names (.clo f XS) (.clo f xs) := by
  intro κ κ0 w h' v hT' k0 hi hv
  cases hv with
  | clo hlen hr =>
    refine .clo (hl.trans hlen) fun i y u hy hu => ?_
    have hlt : i < XS.length := by rw [← hl]; exact (List.getElem?_eq_some_iff.1 hy).1
    exact hel i XS[i] y (List.getElem?_eq_getElem hlt) hy κ κ0 w h' u hT' k0 hi (hr i XS[i] u (List.getElem?_eq_getElem hlt) hu)
mutual
theorem lt_mono {m m' : Nat} (hm : m ≤ m') : ∀ (x : AV), x.lt m = true → x.lt m' = true
  | .agg cs, h => ltL_mono hm cs h
  | .tup cs, h => ltL_mono hm cs h
  | .sv _ _ cs, h => ltL_mono hm cs h
  | .rp _ cs, h => ltL_mono hm cs h
  | .clo _ cs, h => ltL_mono hm cs h
  | .sl _ _ _ _, h => by simp only [AV.lt, decide_eq_true_eq] at h ⊢; omega
  | .ptr _ _ _ _, h => by simp only [AV.lt, decide_eq_true_eq] at h ⊢; omega
  | .yld, h => by simp [AV.lt] at h
  | .int _ _, _ => rfl
  | .bool _, _ => rfl
  | .str _, _ => rfl
  | .nilp, _ => rfl
  | .nilf, _ => rfl
  | .nili, _ => rfl
  | .nils, _ => rfl
  | .und, _ => rfl
theorem ltL_mono {m m' : Nat} (hm : m ≤ m') : ∀ (l : List AV), ltL m l = true → ltL m' l = true
  | [], _ => rfl
  | x :: xs, h => by
    simp only [ltL, Bool.and_eq_true] at h ⊢
    exact ⟨lt_mono hm x h.1, ltL_mono hm xs h.2⟩
end

/-- What leads to no row is the same to both. -/
theorem ArgView.plain {vw : Bool} {h : Nat → Blk} {T names : List Nat} {x : AV} (hx : x.lt 0 = true) : ArgView vw h T names x x := by
  have := ArgView.same (vw := vw) (h := h) (T := T) (names := names) (n := 0) (lt_mono (Nat.zero_le _) x hx)
  rwa [ren_id x hx] at this
/-- A row of plain elements, or a part of one. -/
theorem ArgView.row {h : Nat → Blk} {T names : List Nat} {b g i n sz : Nat} {nil frz : Bool} {XS xs : List AV} (hb : h b = .row nil g frz sz XS) (hT : b ∈ T) (hnn : b ∉ names) (hxs : xs = (XS.drop i).take n) (hn : i + n ≤ XS.length) (hsz : ∀ e ∈ xs, e.cells.length = sz)
    (hp : ltL 0 xs = true) : ArgView true h T names (.sl b g i n) (.sv false sz xs) := by
  refine .sl hb hT hnn (by rw [hxs]; simp; omega) hsz fun k j y hk => ⟨y, ?_, .plain (mem_cellAt hp hk)⟩
  subst hxs
  unfold cellAt at hk ⊢
  rw [List.getElem?_take] at hk
  split at hk
  · rwa [List.getElem?_drop] at hk
  · simp at hk
end Go.Am
end
section
set_option linter.unusedSimpArgs false
set_option linter.unusedVariables false
namespace Go.Am
open Go Go.RowKit

def Opd.rd : Opd → List Nat
  | .t n => [n]
  | .c _ => []
def rdO : Option Opd → List Nat
  | none => []
  | some x => x.rd
def rdL (l : List Opd) : List Nat := l.flatMap Opd.rd
/-- The slots that an operation looks at. -/
def AOp.rd : AOp → List Nat
  | .mv x | .smv x | .box x | .nchk x | .neg x | .not x | .len x | .lenS x => x.rd
  | .conv _ x | .ext x _ | .faddr x _ | .fld x _ _ _ | .load _ _ x | .mks _ _ _ x | .clear _ _ x => x.rd
  | .pick c a b => c.rd ++ a.rd ++ b.rd
  | .newnil _ | .alloc _ | .lenC _ | .bad => []
  | .build _ ps => ps.flatMap fun p => p.2.2.rd
  | .bsl _ xs | .mkf _ xs | .mx xs | .mn xs => rdL xs
  | .store _ x y | .bin _ x y | .eqv _ _ _ x y | .iaddr _ x y | .iaddrA _ _ x y | .idxA _ _ _ x y | .idxS x y | .append _ _ x y | .copy _ x y => x.rd ++ y.rd
  | .slc _ x lo hi => x.rd ++ rdO lo ++ rdO hi
  | .slcM _ x hi m => x.rd ++ hi.rd ++ m.rd
  | .call f xs => f.rd ++ rdL xs
def AV.ref : AV → List Nat
  | .sl b _ _ _ => [b]
  | .ptr b _ _ _ => [b]
  | _ => []
/-- The rows that an operation looks at. -/
def AOp.touch (c : AOp) (sl : Nat → AV) : List Nat :=
  match c with
  | .load _ _ x | .store _ x _ | .iaddr _ x _ | .slc _ x _ _ | .slcM _ x _ _ | .clear _ _ x => (x.ev sl).ref
  | .append _ _ x y => (x.ev sl).ref ++ (y.ev sl).ref
  | _ => []
theorem ev_congr {sl sl' : Nat → AV} {x : Opd} (h : ∀ t ∈ x.rd, sl' t = sl t) : x.ev sl' = x.ev sl := by
  cases x with
  | t n => exact h n (by simp [Opd.rd])
  | c v => rfl
theorem optInt_congr {sl sl' : Nat → AV} {x : Option Opd} (h : ∀ t ∈ rdO x, sl' t = sl t) : optInt sl' x = optInt sl x := by
  cases x with
  | none => rfl
  | some x => simp only [optInt]; rw [ev_congr h]
theorem evL_congr {sl sl' : Nat → AV} {xs : List Opd} (h : ∀ t ∈ rdL xs, sl' t = sl t) : xs.map (·.ev sl') = xs.map (·.ev sl) :=
  List.map_congr_left fun x hx => ev_congr fun t ht => h t (List.mem_flatMap.2 ⟨x, hx, ht⟩)
theorem aop_slots {c : AOp} {sl sl' : Nat → AV} {h : Nat → Blk} {fr : Nat} (hs : ∀ t ∈ c.rd, sl' t = sl t) : aop c sl' h fr = aop c sl h fr := by
  cases c with
  | build z ps =>
    have h1 : ∀ p ∈ ps, p.2.2.ev sl' = p.2.2.ev sl := fun p hp => ev_congr fun t ht => hs t (List.mem_flatMap.2 ⟨p, hp, ht⟩)
    have h2 : (ps.map fun p => (p.1, p.2.1, p.2.2.ev sl')) = ps.map fun p => (p.1, p.2.1, p.2.2.ev sl) := List.map_congr_left fun p hp => by rw [h1 p hp]
    have h3 : (ps.all fun p => (p.2.2.ev sl').elem) = ps.all fun p => (p.2.2.ev sl).elem := by
      have : ∀ (q : List (Nat × Nat × Opd)), (∀ p ∈ q, p.2.2.ev sl' = p.2.2.ev sl) → (q.all fun p => (p.2.2.ev sl').elem) = q.all fun p => (p.2.2.ev sl).elem := by
        intro q
        induction q with
        | nil => intro _; rfl
        | cons p q ih => intro hq; simp only [List.all_cons]; rw [hq p (by simp), ih fun p' hp' => hq p' (by simp [hp'])]
      exact this ps h1
    simp only [aop, h2, h3]
  | bsl sz xs =>
    have h1 : ∀ x ∈ xs, x.ev sl' = x.ev sl := fun x hx => ev_congr fun t ht => hs t (List.mem_flatMap.2 ⟨x, hx, ht⟩)
    have h2 : xs.map (·.ev sl') = xs.map (·.ev sl) := List.map_congr_left h1
    have h3 : (xs.all fun x => (x.ev sl').elem && (x.ev sl').cells.length == sz) = xs.all fun x => (x.ev sl).elem && (x.ev sl).cells.length == sz := by
      have : ∀ (q : List Opd), (∀ x ∈ q, x.ev sl' = x.ev sl) → (q.all fun x => (x.ev sl').elem && (x.ev sl').cells.length == sz) = q.all fun x => (x.ev sl).elem && (x.ev sl).cells.length == sz := by
        intro q
        induction q with
        | nil => intro _; rfl
        | cons p q ih => intro hq; simp only [List.all_cons]; rw [hq p (by simp), ih fun p' hp' => hq p' (by simp [hp'])]
      exact this xs h1
    simp only [aop, h2, h3]
  | mkf f xs => simp only [aop]; rw [evL_congr hs]
  | mx xs => simp only [aop]; rw [evL_congr hs]
  | mn xs => simp only [aop]; rw [evL_congr hs]
  | pick c a b =>
    simp only [AOp.rd, List.mem_append] at hs
    simp only [aop]
    rw [ev_congr (x := c) fun t ht => hs t (.inl (.inl ht)), ev_congr (x := a) fun t ht => hs t (.inl (.inr ht)), ev_congr (x := b) fun t ht => hs t (.inr ht)]
  | slc sz x lo hi =>
    simp only [AOp.rd, List.mem_append] at hs
    simp only [aop]
    rw [ev_congr (x := x) fun t ht => hs t (.inl (.inl ht)), optInt_congr (x := lo) fun t ht => hs t (.inl (.inr ht)), optInt_congr (x := hi) fun t ht => hs t (.inr ht)]
  | store _ x y => simp only [AOp.rd, List.mem_append] at hs; simp only [aop]; rw [ev_congr (x := x) fun t ht => hs t (.inl ht), ev_congr (x := y) fun t ht => hs t (.inr ht)]
  | bin _ x y => simp only [AOp.rd, List.mem_append] at hs; simp only [aop]; rw [ev_congr (x := x) fun t ht => hs t (.inl ht), ev_congr (x := y) fun t ht => hs t (.inr ht)]
  | eqv _ _ _ x y => simp only [AOp.rd, List.mem_append] at hs; simp only [aop]; rw [ev_congr (x := x) fun t ht => hs t (.inl ht), ev_congr (x := y) fun t ht => hs t (.inr ht)]
  | iaddr _ x y => simp only [AOp.rd, List.mem_append] at hs; simp only [aop]; rw [ev_congr (x := x) fun t ht => hs t (.inl ht), ev_congr (x := y) fun t ht => hs t (.inr ht)]
  | iaddrA _ _ x y => simp only [AOp.rd, List.mem_append] at hs; simp only [aop]; rw [ev_congr (x := x) fun t ht => hs t (.inl ht), ev_congr (x := y) fun t ht => hs t (.inr ht)]
  | idxA _ _ _ x y => simp only [AOp.rd, List.mem_append] at hs; simp only [aop]; rw [ev_congr (x := x) fun t ht => hs t (.inl ht), ev_congr (x := y) fun t ht => hs t (.inr ht)]
  | append _ _ x y => simp only [AOp.rd, List.mem_append] at hs; simp only [aop]; rw [ev_congr (x := x) fun t ht => hs t (.inl ht), ev_congr (x := y) fun t ht => hs t (.inr ht)]
  | idxS x y => simp only [AOp.rd, List.mem_append] at hs; simp only [aop]; rw [ev_congr (x := x) fun t ht => hs t (.inl ht), ev_congr (x := y) fun t ht => hs t (.inr ht)]
  | copy _ x y => rfl
  | slcM _ x hi mx =>
    simp only [AOp.rd, List.mem_append] at hs
    simp only [aop]
    rw [ev_congr (x := x) fun t ht => hs t (.inl (.inl ht)), ev_congr (x := hi) fun t ht => hs t (.inl (.inr ht)), ev_congr (x := mx) fun t ht => hs t (.inr ht)]
  | clear _ _ x => simp only [aop]; rw [ev_congr (x := x) hs]
  | call f xs => rfl
  | newnil _ => rfl
  | alloc _ => rfl
  | lenC _ => rfl
  | bad => rfl
  | mv x => simp only [aop]; rw [ev_congr (x := x) hs]
  | smv x => simp only [aop]; rw [ev_congr (x := x) hs]
  | box x => simp only [aop]; rw [ev_congr (x := x) hs]
  | load _ _ x => simp only [aop]; rw [ev_congr (x := x) hs]
  | nchk x => simp only [aop]; rw [ev_congr (x := x) hs]
  | neg x => simp only [aop]; rw [ev_congr (x := x) hs]
  | not x => simp only [aop]; rw [ev_congr (x := x) hs]
  | conv _ x => simp only [aop]; rw [ev_congr (x := x) hs]
  | ext x _ => simp only [aop]; rw [ev_congr (x := x) hs]
  | faddr x _ => simp only [aop]; rw [ev_congr (x := x) hs]
  | fld x _ _ _ => simp only [aop]; rw [ev_congr (x := x) hs]
  | mks _ _ _ x => simp only [aop]; rw [ev_congr (x := x) hs]
  | len x => simp only [aop]; rw [ev_congr (x := x) hs]
  | lenS x => simp only [aop]; rw [ev_congr (x := x) hs]
theorem rowAt_congr {h h' : Nat → Blk} {b g : Nat} (hb : h' b = h b) : rowAt? h' b g = rowAt? h b g := by simp only [rowAt?, hb]
theorem loadAV_congr {h h' : Nat → Blk} {agg : Bool} {sz : Nat} {x : AV} (hb : ∀ b ∈ x.ref, h' b = h b) : loadAV h' agg sz x = loadAV h agg sz x := by
  cases x <;> simp only [loadAV]
  rw [rowAt_congr (hb _ (by simp [AV.ref]))]
theorem storeAV_congr {h h' : Nat → Blk} {sz : Nat} {v x : AV} (hb : ∀ b ∈ x.ref, h' b = h b) : storeAV h' sz v x = storeAV h sz v x := by
  cases x <;> simp only [storeAV]
  rw [rowAt_congr (hb _ (by simp [AV.ref]))]
theorem iaddrAV_congr {h h' : Nat → Blk} {sz : Nat} {k : Int} {x : AV} (hb : ∀ b ∈ x.ref, h' b = h b) : iaddrAV h' sz k x = iaddrAV h sz k x := by
  cases x <;> simp only [iaddrAV]
  rw [rowAt_congr (hb _ (by simp [AV.ref]))]
theorem contAV_congr {h h' : Nat → Blk} {sz : Nat} {x : AV} (hb : ∀ b ∈ x.ref, h' b = h b) : contAV h' sz x = contAV h sz x := by
  cases x <;> simp only [contAV]
  rw [hb _ (by simp [AV.ref])]
theorem appendAV_congr {h h' : Nat → Blk} {fr sz n : Nat} {x : AV} {ys : List AV} (hb : ∀ b ∈ x.ref, h' b = h b) : appendAV h' fr sz n x ys = appendAV h fr sz n x ys := by
  cases x with
  | sl b g i m => cases i with
    | zero => simp only [appendAV]; rw [hb _ (by simp [AV.ref])]
    | succ i => rfl
  | sv vol _ _ => cases vol <;> rfl
  | _ => rfl
theorem slcMAV_congr {h h' : Nat → Blk} {sz : Nat} {u : Int} {x : AV} (hb : ∀ b ∈ x.ref, h' b = h b) : slcMAV h' sz u x = slcMAV h sz u x := by
  cases x <;> simp only [slcMAV]
  rw [hb _ (by simp [AV.ref])]
theorem clearAV_congr {h h' : Nat → Blk} {sz : Nat} {z x : AV} (hb : ∀ b ∈ x.ref, h' b = h b) : clearAV h' sz z x = clearAV h sz z x := by
  cases x <;> simp only [clearAV]
  rw [hb _ (by simp [AV.ref])]
theorem aop_local {c : AOp} {sl : Nat → AV} {h h' : Nat → Blk} {fr : Nat} (hb : ∀ b ∈ c.touch sl, h' b = h b) : aop c sl h' fr = aop c sl h fr := by
  cases c with
  | load _ _ x => simp only [aop]; rw [loadAV_congr hb]
  | store _ x y => simp only [aop]; rw [storeAV_congr hb]
  | iaddr _ x y =>
    simp only [aop]
    split
    · rw [iaddrAV_congr hb]
    · rfl
  | slc _ x lo hi =>
    simp only [aop]
    cases hx : x.ev sl <;> simp only
    rw [hb _ (by simp [AOp.touch, hx, AV.ref])]
  | slcM _ x hi mx =>
    simp only [aop]
    split
    · rw [slcMAV_congr hb]
    · rfl
  | clear _ _ x => simp only [aop]; rw [clearAV_congr hb]
  | append _ _ x y =>
    simp only [AOp.touch, List.mem_append] at hb
    simp only [aop]
    rw [contAV_congr fun b h => hb b (.inr h)]
    split
    · rw [appendAV_congr fun b h => hb b (.inl h)]
    · rfl
  | _ => rfl
/-- The rows that change: none, or one that was looked at, or a new one. -/
theorem aop_ups {c : AOp} {sl : Nat → AV} {h : Nat → Blk} {fr : Nat} {r : Res} (hr : aop c sl h fr = some r) : r.ups = [] ∨ ∃ b blk, r.ups = [(b, blk)] ∧ (b = fr ∨ (b ∈ c.touch sl ∧ h b ≠ .dead)) := by
  cases c with
  | store _ x y =>
    simp only [aop, Option.map_eq_some_iff] at hr
    obtain ⟨u, h1, rfl⟩ := hr
    refine .inr ⟨u.1, u.2, rfl, .inr ?_⟩
    simp only [AOp.touch]
    cases hx : x.ev sl <;> rw [hx] at h1 <;> simp only [storeAV] at h1 <;> first | (cases h1; done) | skip
    split at h1 <;> first | (cases h1; done) | skip
    rename_i hrow
    split at h1 <;> first | (cases h1; done) | skip
    split at h1 <;> first | (cases h1; done) | skip
    simp only [Option.some.injEq] at h1
    subst h1
    refine ⟨by simp [AV.ref], fun hd => ?_⟩
    simp only [rowAt?, hd] at hrow
    cases hrow
  | slcM _ x hi mx =>
    simp only [aop] at hr
    split at hr <;> first | (cases hr; done) | skip
    split at hr <;> first | (cases hr; done) | skip
    generalize hx : x.ev sl = X at hr
    cases X <;> simp only [slcMAV] at hr <;> first | (cases hr; done) | skip
    split at hr <;> first | (cases hr; done) | skip
    rename_i hrow
    split at hr <;> first | (cases hr; done) | skip
    simp only [Option.some.injEq] at hr; subst hr
    exact .inr ⟨_, _, rfl, .inr ⟨by simp [AOp.touch, hx, AV.ref], by rw [hrow]; simp⟩⟩
  | clear _ _ x =>
    simp only [aop] at hr
    generalize hx : x.ev sl = X at hr
    cases X <;> simp only [clearAV] at hr <;> first | (cases hr; done) | skip
    split at hr <;> first | (cases hr; done) | skip
    rename_i hrow
    split at hr <;> first | (cases hr; done) | skip
    simp only [Option.some.injEq] at hr; subst hr
    exact .inr ⟨_, _, rfl, .inr ⟨by simp [AOp.touch, hx, AV.ref], by rw [hrow]; simp⟩⟩
  | append _ _ x y =>
    simp only [aop] at hr
    split at hr <;> first | (cases hr; done) | skip
    simp only [appendAV] at hr
    split at hr <;> first | (cases hr; done) | skip
    generalize hx : x.ev sl = X at hr
    split at hr
    · split at hr <;> first | (cases hr; done) | skip
      simp only [Option.some.injEq] at hr; subst hr
      exact .inr ⟨_, _, rfl, .inl rfl⟩
    · split at hr <;> first | (cases hr; done) | skip
      rename_i hrow
      split at hr <;> first | (cases hr; done) | skip
      simp only [Option.some.injEq] at hr; subst hr
      exact .inr ⟨_, _, rfl, .inr ⟨by simp [AOp.touch, hx, AV.ref], by rw [hrow]; simp⟩⟩
    · split at hr <;> first | (cases hr; done) | skip
      simp only [Option.some.injEq] at hr; subst hr
      exact .inr ⟨_, _, rfl, .inl rfl⟩
    · cases hr
  | _ =>
    simp only [aop] at hr
    repeat' first
      | (cases hr; done)
      | (simp only [Option.some.injEq] at hr; subst hr; first | exact .inl rfl | exact .inr ⟨_, _, rfl, .inl rfl⟩)
      | (obtain ⟨_, _, rfl⟩ := Option.map_eq_some_iff.1 hr; exact .inl rfl)
      | split at hr
/-- The number of what would be new matters only if something is. -/
theorem aop_refr {c : AOp} {sl : Nat → AV} {h : Nat → Blk} {fr fr' : Nat} {r : Res} (hr : aop c sl h fr = some r) (hn : ∀ p ∈ r.ups, p.1 ≠ fr) : aop c sl h fr' = some r := by
  cases c with
  | append _ _ x y =>
    simp only [aop] at hr ⊢
    split at hr <;> first | (cases hr; done) | skip
    rename_i hy
    simp only [appendAV] at hr ⊢
    split at hr <;> first | (cases hr; done) | skip
    rename_i hall
    rw [if_pos hall]
    split at hr
    · split at hr <;> first | (cases hr; done) | skip
      simp only [Option.some.injEq] at hr; subst hr
      exact absurd rfl (hn _ (List.mem_singleton.2 rfl))
    · exact hr
    · split at hr <;> first | (cases hr; done) | skip
      simp only [Option.some.injEq] at hr; subst hr
      exact absurd rfl (hn _ (List.mem_singleton.2 rfl))
    · cases hr
  | newnil _ => simp only [aop, Option.some.injEq] at hr; subst hr; exact absurd rfl (hn _ (List.mem_singleton.2 rfl))
  | alloc _ =>
    simp only [aop] at hr
    split at hr <;> first | (cases hr; done) | skip
    simp only [Option.some.injEq] at hr; subst hr; exact absurd rfl (hn _ (List.mem_singleton.2 rfl))
  | box _ =>
    simp only [aop] at hr
    split at hr <;> first | (cases hr; done) | skip
    simp only [Option.some.injEq] at hr; subst hr; exact absurd rfl (hn _ (List.mem_singleton.2 rfl))
  | bsl _ _ =>
    simp only [aop] at hr
    split at hr <;> first | (cases hr; done) | skip
    simp only [Option.some.injEq] at hr; subst hr; exact absurd rfl (hn _ (List.mem_singleton.2 rfl))
  | mks _ _ _ _ =>
    simp only [aop] at hr
    split at hr <;> first | (cases hr; done) | skip
    split at hr <;> first | (cases hr; done) | skip
    simp only [Option.some.injEq] at hr; subst hr; exact absurd rfl (hn _ (List.mem_singleton.2 rfl))
  | _ => exact hr
end Go.Am
end
section
set_option linter.unusedSimpArgs false
set_option linter.unusedVariables false
namespace Go.Am
open Go Go.RowKit

structure COp where
  op : AOp
  dst : Option Nat
  guard : Option (Nat × Bool)
  bef : Nat
  deriving Inhabited
def compGuard (ops : Array Oper) (n : Nat) : Option (Nat × Bool) → Option (Option (Nat × Bool))
  | none => some none
  | some (j, want) => match (ops[j]?).bind (·.dst) with
    | some d => if d < n then some (some (d, want)) else none
    | none => none
def compDst (n : Nat) : Option Nat → Bool
  | none => true
  | some d => d < n
/-- What the layer does not know becomes an operation that is never reached. -/
def compOpB (P : Program) (op : Op) (ty : TypeId) : Option AOp := match compOp P op ty with
  | some c => some c
  | none => match op with
    | .defer _ => none
    | _ => some .bad
def compO (P : Program) (n : Nat) (ops : Array Oper) (o : Oper) (bef : Nat) : Option COp :=
  match compOpB P o.op o.type, compGuard ops n o.guard with
  | some c, some g => if compDst n o.dst = true then some ⟨c, o.dst, g, bef⟩ else none
  | _, _ => none
def wantedAV (sl : Nat → AV) : Option (Nat × Bool) → Option Bool
  | none => some true
  | some (d, want) => match sl d with
    | .bool b => some (b == want)
    | .tup [] => some false
    | _ => none
def COp.rd (c : COp) : List Nat := c.op.rd ++ (c.guard.map Prod.fst).toList
theorem wantedAV_sound {P : Program} {κ : K} {w : World} {sl : Nat → AV} {a : Act} {n : Nat} {ops : Array Oper} {o : Oper} {g : Option (Nat × Bool)} (hg : compGuard ops n o.guard = some g) (hs : SRel κ w sl a) (hn : a.tmps.size = n) {b : Bool} (hb : wantedAV sl g = some b) :
    Region.wanted o (yielded ops a.tmps) = b := by
  unfold Region.wanted
  cases hog : o.guard with
  | none =>
    rw [hog] at hg
    simp only [compGuard, Option.some.injEq] at hg; subst hg
    simp only [wantedAV, Option.some.injEq] at hb; exact hb
  | some q =>
    obtain ⟨j, want⟩ := q
    rw [hog] at hg
    simp only [compGuard] at hg
    split at hg <;> first | (cases hg; done) | skip
    rename_i d hd
    split at hg <;> first | (cases hg; done) | skip
    rename_i hlt
    simp only [Option.some.injEq] at hg; subst hg
    simp only [wantedAV] at hb
    have hv := hs d
    have hget : a.tmps[d]? = some (a.tmps.getD d undef) := by
      have : d < a.tmps.size := by rw [hn]; exact hlt
      simp [this]
    simp only [yielded, hd, Option.bind_some, hget]
    generalize a.tmps.getD d undef = v at *
    split at hb
    · rename_i x heq
      rw [heq] at hv
      cases hv
      simp only [Option.some.injEq] at hb; subst hb
      simp
    · rename_i heq
      rw [heq] at hv
      cases hv with
      | tup hl hr =>
        simp only [Option.some.injEq] at hb; subst hb
        simp
    · cases hb
/-- What one operation of a region does, told of slots and rows. -/
def OpL (P : Program) (n : Nat) (ops : Array Oper) (j : Nat) (dst : Option Nat) (rd T : List Nat) (s : Nat → AV) (h : Nat → Blk) (v : AV) (W : List (Nat × Blk)) : Prop :=
  ∀ (r : Option Nat) (κ : K) (sl : Nat → AV) (h' : Nat → Blk) (w : World) (a : Act) (Q : Exit → Act → World → Prop) (Kk : Act → World → Prop),
    (∀ t ∈ rd, sl t = s t) → (∀ b ∈ T, h' b = h b) → (∃ b, h' b = .dead) → Inv κ h' w → SRel κ w sl a → a.tmps.size = n →
    (∀ u κ' w', Ext κ w κ' w' → Inv κ' (updL h' W) w' → VRel κ' w' v u → Chg κ h' w κ' (updL h' W) w' → Kk (a.put dst u) w') →
    wpOpIn (wideR r) 0 P ops Q j Kk a w
theorem not_defer {P : Program} {o : Oper} {c : AOp} (hc : compOpB P o.op o.type = some c) : ∀ d, o.op ≠ .defer d := by
  intro d hd
  rw [hd] at hc
  simp [compOpB, compOp] at hc
theorem compOpB_spec {P : Program} {op : Op} {ty : TypeId} {c : AOp} (hc : compOpB P op ty = some c) : compOp P op ty = some c ∨ c = .bad := by
  unfold compOpB at hc
  split at hc
  · exact .inl (by simp_all)
  · split at hc
    · cases hc
    · simp only [Option.some.injEq] at hc; exact .inr hc.symm
theorem OpL.skip {P : Program} {n : Nat} {ops : Array Oper} {j : Nat} {o : Oper} {c : COp} {bef : Nat} (ho : ops[j]? = some o) (hc : compO P n ops o bef = some c) {s : Nat → AV} {h : Nat → Blk} (hw : wantedAV s c.guard = some false) :
    OpL P n ops j c.dst c.rd [] s h (.tup []) [] := by
  intro r κ sl h' w a Q Kk hrd _ _ hi hs hn hk
  simp only [compO] at hc
  split at hc <;> first | (cases hc; done) | skip
  rename_i c0 g hc0 hg
  split at hc <;> first | (cases hc; done) | skip
  simp only [Option.some.injEq] at hc; subst hc
  have hw' : wantedAV sl g = some false := by
    rw [← hw]
    cases g with
    | none => rfl
    | some q => simp only [wantedAV]; rw [hrd q.1 (by simp [COp.rd])]
  unfold wpOpIn
  simp only [ho]
  rw [if_neg (by rw [wantedAV_sound (P := P) hg hs hn hw']; simp)]
  refine ⟨fun _ _ => trivial, hk undef κ w (.refl _ _) hi ?_ (.refl _ _ _)⟩
  exact .tup rfl (fun i x v hx => by simp at hx)
theorem OpL.op {P : Program} {n : Nat} {ops : Array Oper} {j : Nat} {o : Oper} {c : COp} {bef : Nat} (ho : ops[j]? = some o) (hc : compO P n ops o bef = some c) (hnc : c.op.isCall = false) {s : Nat → AV} {h : Nat → Blk} {fr : Nat} (hw : wantedAV s c.guard = some true) {r : Res}
    (hr : aop c.op s h fr = some r) (hfr : h fr = .dead) : OpL P n ops j c.dst c.rd (c.op.touch s ++ r.ups.map Prod.fst) s h r.v r.ups := by
  intro rr κ sl h' w a Q Kk hrd hT hdead hi hs hn hk
  simp only [compO] at hc
  split at hc <;> first | (cases hc; done) | skip
  rename_i c0 g hc0 hg
  split at hc <;> first | (cases hc; done) | skip
  simp only [Option.some.injEq] at hc; subst hc
  simp only at hr hw hk hrd hT hnc
  have hw' : wantedAV sl g = some true := by
    rw [← hw]
    cases g with
    | none => rfl
    | some q => simp only [wantedAV]; rw [hrd q.1 (by simp [COp.rd])]
  have h1 : aop c0 sl h' fr = some r := by
    rw [aop_local (sl := sl) (h := h), aop_slots (sl := s), hr]
    · exact fun t ht => hrd t (by simp [COp.rd, ht])
    · intro b hb
      refine hT b (List.mem_append_left _ ?_)
      have : c0.touch sl = c0.touch s := by
        have hev : ∀ x : Opd, (∀ t ∈ x.rd, t ∈ c0.rd) → x.ev sl = x.ev s := fun x hx => ev_congr fun t ht => hrd t (by simp [COp.rd, hx t ht])
        cases c0 with
        | load _ _ x => simp only [AOp.touch]; rw [hev x (fun t ht => ht)]
        | store _ x y => simp only [AOp.touch]; rw [hev x (fun t ht => by simp [AOp.rd, ht])]
        | iaddr _ x y => simp only [AOp.touch]; rw [hev x (fun t ht => by simp [AOp.rd, ht])]
        | slcM _ x _ _ => simp only [AOp.touch]; rw [hev x (fun t ht => by simp [AOp.rd, ht])]
        | clear _ _ x => simp only [AOp.touch]; rw [hev x (fun t ht => ht)]
        | slc _ x _ _ => simp only [AOp.touch]; rw [hev x (fun t ht => by simp [AOp.rd, ht])]
        | append _ _ x y => simp only [AOp.touch]; rw [hev x (fun t ht => by simp [AOp.rd, ht]), hev y (fun t ht => by simp [AOp.rd, ht])]
        | _ => rfl
      rwa [this] at hb
  have hc1 : compOp P o.op o.type = some c0 := (compOpB_spec hc0).resolve_right fun h => by subst h; simp [aop] at hr
  have hrun : Runs P (execOp a.eval o) κ h' w r.v (updL h' r.ups) := by
    by_cases hex : ∀ p ∈ r.ups, p.1 ≠ fr
    · obtain ⟨b, hb⟩ := hdead
      exact aop_sound hc1 hnc hi hs hb (aop_refr h1 hex)
    · have hin : fr ∈ r.ups.map Prod.fst := by
        simp only [Classical.not_forall, Classical.not_not] at hex
        obtain ⟨p, hp, rfl⟩ := hex
        exact List.mem_map_of_mem hp
      exact aop_sound hc1 hnc hi hs ((hT fr (List.mem_append_right _ hin)).trans hfr) h1
  unfold wpOpIn
  simp only [ho]
  rw [if_pos (wantedAV_sound (P := P) hg hs hn hw')]
  refine ⟨fun _ _ => trivial, ?_⟩
  rw [Oper.semAt_eq _ _ _ (not_defer hc0)]
  obtain ⟨u, κ', w', hor, hx, hi', hv, hc'⟩ := hrun
  rcases hor with hor | ⟨hor, rfl⟩
  · rw [hor]; exact hk u κ' w' hx hi' hv hc'
  · rw [hor]; exact hk _ κ' w' hx hi' hv hc'
theorem compOp_call {P : Program} {op : Op} {ty : TypeId} {f : Opd} {xs : List Opd} (h : compOp P op ty = some (.call f xs)) : ∃ F args argTypes, op = .call { callee := .value F, args, argTypes } ∧ f = copd F ∧ xs = args.toList.map copd := by
  unfold compOp at h
  split at h
  all_goals
    repeat' first
      | (simp only [Option.some.injEq, AOp.call.injEq] at h; exact ⟨_, _, _, rfl, h.1.symm, h.2.symm⟩)
      | (cases h; done)
      | (obtain ⟨_, _, h⟩ := Option.map_eq_some_iff.1 h; cases h; done)
      | split at h
theorem OpL.call {P : Program} {n : Nat} {ops : Array Oper} {j : Nat} {o : Oper} {c : COp} {bef : Nat} (ho : ops[j]? = some o) (hc : compO P n ops o bef = some c) {f : Opd} {xs : List Opd} (hop : c.op = .call f xs) {s : Nat → AV} {h : Nat → Blk} (hw : wantedAV s c.guard = some true)
    {fid : FuncId} {caps : List AV} (hf : f.ev s = .clo fid caps) {T : List Nat} {v : AV} {W : List (Nat × Blk)} (hC : CallsL P fid (xs.map (·.ev s) ++ caps) h T v W) : OpL P n ops j c.dst c.rd T s h v W := by
  intro rr κ sl h' w a Q Kk hrd hT hdead hi hs hn hk
  simp only [compO] at hc
  split at hc <;> first | (cases hc; done) | skip
  rename_i c0 g hc0 hg
  split at hc <;> first | (cases hc; done) | skip
  simp only [Option.some.injEq] at hc; subst hc
  simp only at hw hk hrd hop
  subst hop
  have hw' : wantedAV sl g = some true := by
    rw [← hw]
    cases g with
    | none => rfl
    | some q => simp only [wantedAV]; rw [hrd q.1 (by simp [COp.rd])]
  unfold wpOpIn
  simp only [ho]
  rw [if_pos (wantedAV_sound (P := P) hg hs hn hw')]
  refine ⟨fun _ _ => trivial, ?_⟩
  rw [Oper.semAt_eq _ _ _ (not_defer hc0)]
  have hfs : f.ev sl = .clo fid caps := by rw [← hf]; exact ev_congr fun t ht => hrd t (by simp [COp.rd, AOp.rd, ht])
  have hxs : xs.map (·.ev sl) = xs.map (·.ev s) := evL_congr fun t ht => hrd t (by simp [COp.rd, AOp.rd, ht])
  obtain ⟨F, args, argTypes, hop, rfl, rfl⟩ := compOp_call ((compOpB_spec hc0).resolve_right (by simp))
  have hF := ev_rel hs F
  rw [hfs] at hF
  obtain ⟨dst, op, ty, pos, after, guard⟩ := o
  simp only at hop
  subst hop
  generalize hFv : a.eval F = Fv at hF
  cases hF with
  | clo hl hr =>
    rename_i vs
    have hrun : (execOp a.eval { dst, op := .call { callee := .value F, args, argTypes }, type := ty, pos, after, guard }).run P w = .ok (.enter fid (args.map a.eval ++ vs)) w := by
      simp only [execOp, resolve, hFv, Deferred.ofValue, Sem.run_bind, Sem.run_pure, Result.andThen_ok, invoke, Array.empty_append]
      exact hC.enter _ _
    rw [hrun]
    simp only [Oper.uponIn]
    refine ⟨fun h => (by cases h), ?_⟩
    have hcalls := hC.calls κ w h' (args.map a.eval ++ vs) hT hi (by simp [hl]) (fun i x v hx hv => by
      by_cases hi' : i < args.size
      · rw [List.getElem?_append_left (by simpa using hi')] at hx
        rw [Array.getElem?_append_left (by simpa using hi')] at hv
        simp only [List.map_map, List.getElem?_map, Array.getElem?_toList, Array.getElem?_map] at hx hv
        cases hq : args[i]? with
        | none => simp [hq] at hx
        | some y =>
          simp only [hq, Option.map_some, Option.some.injEq, Function.comp] at hx hv
          subst hx hv
          have := ev_rel hs y
          rwa [ev_congr (x := copd y) (sl := s) (sl' := sl)] at this
          intro t ht
          exact hrd t (by
            simp only [COp.rd, AOp.rd, rdL, List.mem_append, List.mem_flatMap]
            exact .inl (.inr ⟨copd y, List.mem_map_of_mem (Array.mem_toList_iff.2 (Array.mem_of_getElem? hq)), ht⟩))
      · rw [List.getElem?_append_right (by simpa using hi')] at hx
        rw [Array.getElem?_append_right (by simpa using hi')] at hv
        simp only [List.length_map, Array.length_toList, Array.size_map] at hx hv
        exact hr _ _ _ hx hv)
    exact CallsIn.mono (F := wideR rr) hcalls (by
      rintro e w' ⟨u, κ', rfl, hx, hi', hv, hc'⟩
      exact hk u κ' w' hx hi' hv hc')
end Go.Am
end
section
set_option linter.unusedSimpArgs false
set_option linter.unusedVariables false
namespace Go.Am
open Go Go.RowKit

/-! ### A fold over those steps that were taken -/
section fold
variable {σ α : Type} (eff : σ → (Nat → α) → Nat → α) (wr : σ → Nat → Prop)

def gF (S : Nat → Bool) : Nat → List σ → (Nat → α) → Nat → α
  | _, [], f => f
  | i, x :: L, f => gF S (i + 1) L (if S i then eff x f else f)
variable {eff wr} (h1 : ∀ x f t, ¬ wr x t → eff x f t = f t) (h2 : ∀ x f g t, wr x t → eff x f t = eff x g t)
include h1 h2

theorem gF_agree {S S' : Nat → Bool} {t : Nat} : ∀ (L : List σ) (i : Nat) (f f' : Nat → α), (∀ k x, L[k]? = some x → wr x t → S (i + k) = S' (i + k)) → f t = f' t → gF eff S i L f t = gF eff S' i L f' t := by
  intro L
  induction L with
  | nil => intro i f f' _ h; exact h
  | cons x L ih =>
    intro i f f' h hf
    simp only [gF]
    refine ih (i + 1) _ _ (fun k y hk hy => ?_) ?_
    · have := h (k + 1) y (by simpa using hk) hy
      rwa [show i + (k + 1) = i + 1 + k by omega] at this
    · by_cases hw : wr x t
      · have := h 0 x rfl hw
        rw [Nat.add_zero] at this
        rw [this]
        split
        · exact h2 x f f' t hw
        · exact hf
      · have a1 : (if S i then eff x f else f) t = f t := by split; exact h1 x f t hw; rfl
        have a2 : (if S' i then eff x f' else f') t = f' t := by split; exact h1 x f' t hw; rfl
        rw [a1, a2]; exact hf
omit h2 in
theorem gF_none {S : Nat → Bool} {t : Nat} : ∀ (L : List σ) (i : Nat) (f : Nat → α), (∀ k x, L[k]? = some x → wr x t → S (i + k) = false) → gF eff S i L f t = f t := by
  intro L
  induction L with
  | nil => intro i f _; rfl
  | cons x L ih =>
    intro i f h
    simp only [gF]
    rw [ih (i + 1) _ (fun k y hk hy => by have := h (k + 1) y (by simpa using hk) hy; rwa [show i + (k + 1) = i + 1 + k by omega] at this)]
    split
    · rename_i hS
      by_cases hw : wr x t
      · have := h 0 x rfl hw; rw [Nat.add_zero, hS] at this; cases this
      · exact h1 x f t hw
    · rfl
theorem gF_add {S S' : Nat → Bool} {t : Nat} {x : σ} : ∀ (L : List σ) (i j : Nat) (f : Nat → α), L[j]? = some x → S (i + j) = false → S' (i + j) = true → (∀ k, k ≠ i + j → S' k = S k) → (∀ k y, j < k → L[k]? = some y → wr y t → wr x t → S (i + k) = false) →
    gF eff S' i L f t = eff x (gF eff S i L f) t := by
  intro L
  induction L with
  | nil => intro i j f h; simp at h
  | cons y L ih =>
    intro i j f hj hS hS' hother hlater
    simp only [gF]
    cases j with
    | zero =>
      simp only [List.getElem?_cons_zero, Option.some.injEq] at hj
      subst hj
      rw [Nat.add_zero] at hS hS' hother
      rw [if_pos hS', hS]
      simp only [Bool.false_eq_true, if_false]
      by_cases hw : wr y t
      · rw [h2 y _ f t hw]
        refine gF_none h1 L (i + 1) _ fun k z hk hz => ?_
        rw [hother _ (by omega)]
        have := hlater (k + 1) z (by omega) (by simpa using hk) hz hw
        rwa [show i + (k + 1) = i + 1 + k by omega] at this
      · rw [h1 y _ t hw]
        exact gF_agree h1 h2 L (i + 1) _ _ (fun k z hk hz => hother _ (by omega)) (h1 y f t hw)
    | succ j =>
      rw [hother i (by omega)]
      refine ih (i + 1) j _ (by simpa using hj) ?_ ?_ (fun k hk => hother k (by omega)) (fun k z hk hz hw1 hw2 => ?_)
      · rwa [show i + (j + 1) = i + 1 + j by omega] at hS
      · rwa [show i + (j + 1) = i + 1 + j by omega] at hS'
      · have := hlater (k + 1) z (by omega) (by simpa using hz) hw1 hw2
        rwa [show i + (k + 1) = i + 1 + k by omega] at this
omit h1 h2 in
theorem gF_all {S S' : Nat → Bool} : ∀ (L : List σ) (i : Nat) (f : Nat → α), (∀ k, k < L.length → S (i + k) = S' (i + k)) → gF eff S i L f = gF eff S' i L f := by
  intro L
  induction L with
  | nil => intro i f _; rfl
  | cons x L ih =>
    intro i f h
    simp only [gF]
    have := h 0 (by simp)
    rw [Nat.add_zero] at this
    rw [this]
    exact ih (i + 1) _ fun k hk => by
      have := h (k + 1) (by simpa using hk)
      rwa [show i + (k + 1) = i + 1 + k by omega] at this
end fold

def updO (f : Nat → AV) (d : Option Nat) (v : AV) : Nat → AV := match d with
  | some d => upd f d v
  | none => f
structure Step where
  c : COp
  T : List Nat
  v : AV
  W : List (Nat × Blk)
def sEff (x : Step) (f : Nat → AV) : Nat → AV := updO f x.c.dst x.v
def hEff (x : Step) (f : Nat → Blk) : Nat → Blk := updL f x.W
def sWr (x : Step) (t : Nat) : Prop := x.c.dst = some t
def hWr (x : Step) (b : Nat) : Prop := ∃ p ∈ x.W, p.1 = b
theorem s1 : ∀ (x : Step) (f : Nat → AV) (t : Nat), ¬ sWr x t → sEff x f t = f t := by
  intro x f t h
  unfold sEff updO
  cases hd : x.c.dst with
  | none => rfl
  | some d => exact upd_other _ _ fun e => h (by rw [sWr, hd, e])
theorem s2 : ∀ (x : Step) (f g : Nat → AV) (t : Nat), sWr x t → sEff x f t = sEff x g t := by
  intro x f g t h
  unfold sEff updO
  rw [h]; simp
theorem h1 : ∀ (x : Step) (f : Nat → Blk) (b : Nat), ¬ hWr x b → hEff x f b = f b := fun x f b h => updL_other _ _ fun p hp e => h ⟨p, hp, e⟩
theorem updL_congr {b : Nat} : ∀ (l : List (Nat × Blk)) (f g : Nat → Blk), (f b = g b ∨ ∃ p ∈ l, p.1 = b) → updL f l b = updL g l b := by
  intro l
  induction l with
  | nil => intro f g h; exact h.resolve_right (by rintro ⟨p, hp, _⟩; cases hp)
  | cons p l ih =>
    intro f g h
    rw [updL_cons, updL_cons]
    refine ih _ _ ?_
    by_cases hp : p.1 = b
    · left; rw [hp]; simp
    · rcases h with h | ⟨q, hq, e⟩
      · left; rw [upd_other _ _ (Ne.symm hp), upd_other _ _ (Ne.symm hp)]; exact h
      · rcases List.mem_cons.1 hq with rfl | hq
        · exact absurd e hp
        · exact .inr ⟨q, hq, e⟩
theorem h2 : ∀ (x : Step) (f g : Nat → Blk) (b : Nat), hWr x b → hEff x f b = hEff x g b := fun x f g b h => updL_congr _ _ _ (.inr h)
/-! ### One step of a frame -/
def RelF (E : Env) (sl : Nat → AV) (h : Nat → Blk) (a : Act) (w : World) : Prop :=
  ∃ κ, Ext E.κ E.w κ w ∧ Chg E.κ (hget E.hl) E.w κ h w ∧ Inv κ h w ∧ SRel κ w sl a ∧ a.tmps.size = E.n ∧ Marks E.mb a.defers w ∧ Inv E.κ (hget E.hl) E.w
theorem SRel.put {κ : K} {w : World} {sl : Nat → AV} {a : Act} {n : Nat} (hs : SRel κ w sl a) (hn : a.tmps.size = n) {d : Option Nat} (hd : compDst n d = true) {v : AV} {u : Value} (hv : VRel κ w v u) : SRel κ w (updO sl d v) (a.put d u) := by
  cases d with
  | none => exact hs
  | some d =>
    simp only [compDst, decide_eq_true_eq] at hd
    intro t
    simp only [updO, Act.put]
    by_cases ht : t = d
    · subst ht
      have : t < a.tmps.size := by rw [hn]; exact hd
      simpa [this] using hv
    · rw [upd_other _ _ ht]
      have := hs t
      simpa [Array.getElem?_setIfInBounds, Ne.symm ht] using this
theorem RelF.step {P : Program} {E : Env} {sl s : Nat → AV} {h h0 : Nat → Blk} {a : Act} {w : World} (hr : RelF E sl h a w) {ops : Array Oper} {j : Nat} {dst : Option Nat} {rd T : List Nat} {v : AV} {W : List (Nat × Blk)} (ho : OpL P E.n ops j dst rd T s h0 v W) (hd : compDst E.n dst = true)
    (h1 : ∀ t ∈ rd, sl t = s t) (h2 : ∀ b ∈ T, h b = h0 b) (h3 : ∃ b, h b = .dead) {r : Option Nat} {Q : Exit → Act → World → Prop} {Kk : Act → World → Prop} (hk : ∀ a' w', RelF E (updO sl dst v) (updL h W) a' w' → Kk a' w') : wpOpIn (wideR r) 0 P ops Q j Kk a w := by
  obtain ⟨κ, hx, hc, hi, hs, hn, hmk, hE⟩ := hr
  refine ho r κ sl h w a Q Kk h1 h2 h3 hi hs hn fun u κ' w' hx' hi' hv hc' => hk _ _ ⟨κ', hx.trans hx', hc.trans hc', hi', SRel.put (fun t => (hs t).ext hx') hn hd hv, ?_, ?_, hE⟩
  · cases dst <;> simp [Act.put, hn]
  · obtain ⟨Ds, hnd, hds, hDs⟩ := hmk
    refine ⟨Ds, hnd, ?_, fun D hD => ⟨(hDs D hD).1, hc'.keepDef hi _ _ (hDs D hD).2⟩⟩
    cases dst <;> exact hds
end Go.Am
end
section
set_option linter.unusedSimpArgs false
set_option linter.unusedVariables false
namespace Go.Am
open Go Go.RowKit

/-- The edges say what 'bef' says. -/
def befOk1 (befs : List Nat) (j : Nat) (o : Oper) (b : Nat) : Bool :=
  decide (b < 2 ^ j) && (List.range j).all (fun k => !b.testBit k || o.after.toList.any fun e => Region.binds .any e && (e.on == k || (befs.getD e.on 0).testBit k)) &&
    o.after.toList.all fun e => !Region.binds .any e || decide (e.on < j)
def befOk (befs : List Nat) : Nat → List Oper → List COp → Bool
  | _, [], [] => true
  | j, o :: os, c :: cs => befOk1 befs j o c.bef && befOk befs (j + 1) os cs
  | _, _, _ => false
def touches (x y : COp) : Bool := match x.dst with
  | some d => y.rd.contains d || y.dst == some d
  | none => false
/-- Two operations that touch one slot are bound. -/
def slots1 (i : Nat) (x : COp) : Nat → List COp → Bool
  | _, [] => true
  | j, y :: cs => ((!touches x y && !touches y x) || y.bef.testBit i) && slots1 i x (j + 1) cs
def slotsOk : Nat → List COp → Bool
  | _, [] => true
  | i, x :: cs => slots1 i x (i + 1) cs && slotsOk (i + 1) cs
theorem slots1_spec {i : Nat} {x : COp} : ∀ (cs : List COp) (j : Nat), slots1 i x j cs = true → ∀ (k : Nat) (y : COp), cs[k]? = some y → touches x y = true ∨ touches y x = true → y.bef.testBit i = true := by
  intro cs
  induction cs with
  | nil => intro j _ k y h; simp at h
  | cons z cs ih =>
    intro j h k y hk ht
    simp only [slots1, Bool.and_eq_true] at h
    cases k with
    | zero =>
      simp only [List.getElem?_cons_zero, Option.some.injEq] at hk; subst hk
      have := h.1
      rcases ht with ht | ht <;> simpa [ht] using this
    | succ k => exact ih (j + 1) h.2 k y (by simpa using hk) ht
theorem slotsOk_spec : ∀ (cs : List COp) (i : Nat), slotsOk i cs = true → ∀ (k k' : Nat) (x y : COp), k < k' → cs[k]? = some x → cs[k']? = some y → touches x y = true ∨ touches y x = true → y.bef.testBit (i + k) = true := by
  intro cs
  induction cs with
  | nil => intro i _ k k' x y _ h; simp at h
  | cons z cs ih =>
    intro i h k k' x y hlt hx hy ht
    simp only [slotsOk, Bool.and_eq_true] at h
    cases k' with
    | zero => omega
    | succ k' =>
      cases k with
      | zero =>
        simp only [List.getElem?_cons_zero, Option.some.injEq] at hx; subst hx
        exact slots1_spec cs _ h.1 k' y (by simpa using hy) ht
      | succ k =>
        have := ih (i + 1) h.2 k k' x y (by omega) (by simpa using hx) (by simpa using hy) ht
        rwa [show i + 1 + k = i + (k + 1) by omega] at this
theorem befOk_spec {befs : List Nat} : ∀ (os : List Oper) (cs : List COp) (j : Nat), befOk befs j os cs = true → os.length = cs.length ∧ ∀ (k : Nat) (o : Oper) (c : COp), os[k]? = some o → cs[k]? = some c → befOk1 befs (j + k) o c.bef = true := by
  intro os
  induction os with
  | nil => intro cs j h; cases cs with
    | nil => exact ⟨rfl, fun k o c h => by simp at h⟩
    | cons => simp [befOk] at h
  | cons o os ih =>
    intro cs j h
    cases cs with
    | nil => simp [befOk] at h
    | cons c cs =>
      simp only [befOk, Bool.and_eq_true] at h
      obtain ⟨h1, h2⟩ := ih cs (j + 1) h.2
      refine ⟨by simp [h1], fun k o' c' hk hk' => ?_⟩
      cases k with
      | zero =>
        simp only [List.getElem?_cons_zero, Option.some.injEq] at hk hk'; subst hk hk'
        exact h.1
      | succ k =>
        have := h2 k o' c' (by simpa using hk) (by simpa using hk')
        rwa [show j + 1 + k = j + (k + 1) by omega] at this
def cnt (S : Nat → Bool) : Nat → Nat
  | 0 => 0
  | n + 1 => cnt S n + if S n then 0 else 1
theorem cnt_zero {S : Nat → Bool} : ∀ (n : Nat), cnt S n = 0 → ∀ k, k < n → S k = true := by
  intro n
  induction n with
  | zero => intro _ k h; omega
  | succ n ih =>
    intro h k hk
    simp only [cnt] at h
    by_cases hkn : k = n
    · subst hkn
      cases hS : S k with
      | true => rfl
      | false => simp [hS] at h
    · exact ih (by omega) k (by omega)
theorem cnt_add {S S' : Nat → Bool} {j : Nat} (h1 : S j = false) (h2 : S' j = true) (h3 : ∀ k, k ≠ j → S' k = S k) : ∀ (n : Nat), (j < n → cnt S' n + 1 = cnt S n) ∧ (n ≤ j → cnt S' n = cnt S n) := by
  intro n
  induction n with
  | zero => exact ⟨fun h => by omega, fun _ => rfl⟩
  | succ n ih =>
    refine ⟨fun h => ?_, fun h => ?_⟩
    · simp only [cnt]
      by_cases hjn : j = n
      · subst hjn
        rw [ih.2 (Nat.le_refl _), h1, h2]; simp
      · have := ih.1 (by omega)
        rw [h3 n (Ne.symm hjn)]; omega
    · simp only [cnt]
      rw [ih.2 (by omega), h3 n (by omega)]
/-- Blocks: two steps of which one changes what the other touches are bound. -/
def confl (x y : List Nat × List Nat × Nat) : Bool := x.2.1.any (y.1.contains ·) || y.2.1.any (x.1.contains ·)
def blk1 (i : Nat) (x : List Nat × List Nat × Nat) : List (List Nat × List Nat × Nat) → Bool
  | [] => true
  | y :: cs => (!confl x y || y.2.2.testBit i) && blk1 i x cs
def blkOk : Nat → List (List Nat × List Nat × Nat) → Bool
  | _, [] => true
  | i, x :: cs => blk1 i x cs && blkOk (i + 1) cs
theorem blk1_spec {i : Nat} {x : List Nat × List Nat × Nat} : ∀ (cs : List (List Nat × List Nat × Nat)), blk1 i x cs = true → ∀ (k : Nat) (y : List Nat × List Nat × Nat), cs[k]? = some y → confl x y = true → y.2.2.testBit i = true := by
  intro cs
  induction cs with
  | nil => intro _ k y h; simp at h
  | cons z cs ih =>
    intro h k y hk ht
    simp only [blk1, Bool.and_eq_true] at h
    cases k with
    | zero =>
      simp only [List.getElem?_cons_zero, Option.some.injEq] at hk; subst hk
      simpa [ht] using h.1
    | succ k => exact ih h.2 k y (by simpa using hk) ht
theorem blkOk_spec : ∀ (cs : List (List Nat × List Nat × Nat)) (i : Nat), blkOk i cs = true → ∀ (k k' : Nat) (x y : List Nat × List Nat × Nat), k < k' → cs[k]? = some x → cs[k']? = some y → confl x y = true → y.2.2.testBit (i + k) = true := by
  intro cs
  induction cs with
  | nil => intro i _ k k' x y _ h; simp at h
  | cons z cs ih =>
    intro i h k k' x y hlt hx hy ht
    simp only [blkOk, Bool.and_eq_true] at h
    cases k' with
    | zero => omega
    | succ k' =>
      cases k with
      | zero =>
        simp only [List.getElem?_cons_zero, Option.some.injEq] at hx; subst hx
        exact blk1_spec cs h.1 k' y (by simpa using hy) ht
      | succ k =>
        have := ih (i + 1) h.2 k k' x y (by omega) (by simpa using hx) (by simpa using hy) ht
        rwa [show i + 1 + k = i + (k + 1) by omega] at this
def Step.tr (x : Step) : List Nat × List Nat × Nat := (x.T, x.W.map Prod.fst, x.c.bef)
/-- The slots and rows before step j in the region's own order. -/
def sAt (L : List Step) (s : Nat → AV) (j : Nat) : Nat → AV := gF sEff (fun k => decide (k < j)) 0 L s
def hAt (L : List Step) (h : Nat → Blk) (j : Nat) : Nat → Blk := gF hEff (fun k => decide (k < j)) 0 L h
theorem draw_any {P : Program} {E : Env} {ops : Array Oper} {L : List Step} {s : Nat → AV} {h : Nat → Blk} (hlen : L.length = ops.size) (hbef : befOk (L.map (·.c.bef)) 0 ops.toList (L.map (·.c)) = true) (hslots : slotsOk 0 (L.map (·.c)) = true) (hblk : blkOk 0 (L.map Step.tr) = true)
    (hW : ∀ x ∈ L, ∀ p ∈ x.W, p.1 ∈ x.T) (hfree : ∃ b, h b = .dead ∧ ∀ x ∈ L, ∀ p ∈ x.W, p.1 ≠ b) (hop : ∀ (j : Nat) (x : Step), L[j]? = some x → OpL P E.n ops j x.c.dst x.c.rd x.T (sAt L s j) (hAt L h j) x.v x.W ∧ compDst E.n x.c.dst = true)
    {r : Option Nat} {Q : Exit → Act → World → Prop} (hQ : ∀ a w, RelF E (sAt L s ops.size) (hAt L h ops.size) a w → Q .normal a w) :
    ∀ (fuel : Nat) (listed : Array Bool) (a : Act) (w : World), listed.size = ops.size → cnt (fun k => listed.getD k false) ops.size ≤ fuel →
      (∀ (j : Nat) (x : Step), L[j]? = some x → listed.getD j false = true → ∀ k, x.c.bef.testBit k = true → listed.getD k false = true) →
      RelF E (gF sEff (fun k => listed.getD k false) 0 L s) (gF hEff (fun k => listed.getD k false) 0 L h) a w → wpAnyIn (wideR r) 0 P .any ops Q fuel listed a w := by
  obtain ⟨hbl, hbs⟩ := befOk_spec _ _ _ hbef
  have hb : ∀ (j : Nat) (o : Oper) (x : Step), ops[j]? = some o → L[j]? = some x → befOk1 (L.map (·.c.bef)) j o x.c.bef = true := fun j o x ho hx => by
    have := hbs j o x.c (by simpa using ho) (by simp [hx])
    simpa using this
  have hall : ∀ (listed : Array Bool), (∀ k, k < ops.size → listed.getD k false = true) → Region.ready .any ops listed = [] := fun listed h => by
    rw [List.eq_nil_iff_forall_not_mem]
    intro j hj
    obtain ⟨h1, o, h2, _⟩ := mem_ready.1 hj
    have := h j (Array.getElem?_eq_some_iff.1 h2).1
    cases hq : listed[j]? with
    | none => simp [hq] at this
    | some b => simp [hq] at this h1; simp_all
  have hdone : ∀ (listed : Array Bool) (a : Act) (w : World), (∀ k, k < ops.size → listed.getD k false = true) → RelF E (gF sEff (fun k => listed.getD k false) 0 L s) (gF hEff (fun k => listed.getD k false) 0 L h) a w → Q .normal a w := fun listed a w hl hr => by
    refine hQ a w ?_
    unfold sAt hAt
    rw [gF_all (S := fun k => decide (k < ops.size)) (S' := fun k => listed.getD k false) L 0 s (fun k hk => by simp only [Nat.zero_add]; rw [hl k (by omega)]; simp; omega),
      gF_all (S := fun k => decide (k < ops.size)) (S' := fun k => listed.getD k false) L 0 h (fun k hk => by simp only [Nat.zero_add]; rw [hl k (by omega)]; simp; omega)]
    exact hr
  intro fuel
  induction fuel with
  | zero =>
    intro listed a w hsz hc _ hr
    have hl := cnt_zero _ (Nat.le_zero.1 hc)
    exact ⟨hall listed hl, hdone listed a w hl hr⟩
  | succ fuel ih =>
    intro listed a w hsz hc hcl hr
    refine ⟨fun hnil => hdone listed a w (fun k hk => ?_) hr, fun j hj => ?_⟩
    · -- the least one that is left could come up
      refine Classical.byContradiction fun hk0 => ?_
      have hex : ∃ m, m < ops.size ∧ listed.getD m false = false ∧ ∀ k, k < m → listed.getD k false = true := by
        have : ∀ n, n < ops.size → listed.getD n false = false → ∃ m, m < ops.size ∧ listed.getD m false = false ∧ ∀ k, k < m → listed.getD k false = true := by
          intro n
          induction n using Nat.strongRecOn with
          | _ n ih =>
            intro hn hf
            by_cases h : ∃ k, k < n ∧ listed.getD k false = false
            · obtain ⟨k, h1, h2⟩ := h
              exact ih k h1 (by omega) h2
            · refine ⟨n, hn, hf, fun k hk => ?_⟩
              cases hq : listed.getD k false with
              | true => rfl
              | false => exact absurd ⟨k, hk, hq⟩ h
        exact this k hk (by simpa using hk0)
      obtain ⟨m, hm, hmf, hbelow⟩ := hex
      have hmem : m ∈ Region.ready .any ops listed := by
        refine mem_ready.2 ⟨?_, ops[m], by simp [hm], fun e he hbind => ?_⟩
        · have : m < listed.size := by omega
          simpa [this] using hmf
        · have hx : m < L.length := by omega
          have := hb m ops[m] L[m] (by simp [hm]) (by simp [hx])
          simp only [befOk1, Bool.and_eq_true] at this
          have := List.all_eq_true.1 this.2 e (Array.mem_toList_iff.2 he)
          simp only [hbind, Bool.not_true, Bool.false_or, decide_eq_true_eq] at this
          exact hbelow _ this
      rw [hnil] at hmem
      cases hmem
    · obtain ⟨hjt, o, ho, hafter⟩ := mem_ready.1 hj
      have hjn : j < ops.size := (Array.getElem?_eq_some_iff.1 ho).1
      have hjl : j < listed.size := by omega
      have hjf : listed.getD j false = false := by simpa [hjl] using hjt
      have hjL : j < L.length := by omega
      have hx : L[j]? = some L[j] := by simp [hjL]
      obtain ⟨hOpL, hdst⟩ := hop j L[j] hx
      have hpre : ∀ k, L[j].c.bef.testBit k = true → listed.getD k false = true := fun k hk => by
        have h3 := hb j o L[j] ho hx
        simp only [befOk1, Bool.and_eq_true, decide_eq_true_eq] at h3
        have hkj : k < j := by
          refine Nat.lt_of_not_le fun hle => ?_
          have : L[j].c.bef.testBit k = false := Nat.testBit_lt_two_pow (Nat.lt_of_lt_of_le h3.1.1 (Nat.pow_le_pow_right (by omega) hle))
          rw [this] at hk; cases hk
        have h4 := List.all_eq_true.1 h3.1.2 k (List.mem_range.2 hkj)
        rw [hk] at h4
        simp only [Bool.not_true, Bool.false_or, List.any_eq_true, Bool.and_eq_true, Bool.or_eq_true, beq_iff_eq] at h4
        obtain ⟨e, he, hbind, h5⟩ := h4
        have hel := hafter e (Array.mem_toList_iff.1 he) hbind
        rcases h5 with rfl | h5
        · exact hel
        · by_cases hlt : e.on < L.length
          · refine hcl e.on L[e.on] (by simp [hlt]) hel k ?_
            simpa [hlt] using h5
          · have : (List.map (fun x => x.c.bef) L)[e.on]? = none := by simp; omega
            rw [List.getD_eq_getElem?_getD, this] at h5
            simp at h5
      -- what j looks at is as it would be
      have hsl : ∀ k y, L[k]? = some y → touches y.c L[j].c = true ∨ touches L[j].c y.c = true → k ≠ j → listed.getD k false = decide (k < j) := fun k y hk ht hkj => by
        rcases Nat.lt_or_gt_of_ne hkj with hlt | hgt
        · have := slotsOk_spec _ 0 hslots k j y.c L[j].c hlt (by simp [hk]) (by simp [hx]) ht
          rw [Nat.zero_add] at this
          rw [hpre k this]; simp [hlt]
        · have := slotsOk_spec _ 0 hslots j k L[j].c y.c hgt (by simp [hx]) (by simp [hk]) ht.symm
          rw [Nat.zero_add] at this
          cases hq : listed.getD k false with
          | true => have := hcl k y hk hq j this; rw [hjf] at this; cases this
          | false => simp; omega
      have hbk : ∀ k y, L[k]? = some y → confl y.tr L[j].tr = true ∨ confl L[j].tr y.tr = true → k ≠ j → listed.getD k false = decide (k < j) := fun k y hk ht hkj => by
        have hcomm : ∀ p q, confl p q = confl q p := fun p q => by simp only [confl]; rw [Bool.or_comm]
        rcases Nat.lt_or_gt_of_ne hkj with hlt | hgt
        · have := blkOk_spec _ 0 hblk k j y.tr L[j].tr hlt (by simp [hk]) (by simp [hx]) (ht.elim id fun h => by rw [hcomm]; exact h)
          rw [Nat.zero_add] at this
          rw [hpre k this]; simp [hlt]
        · have := blkOk_spec _ 0 hblk j k L[j].tr y.tr hgt (by simp [hx]) (by simp [hk]) (ht.elim (fun h => by rw [hcomm]; exact h) id)
          rw [Nat.zero_add] at this
          cases hq : listed.getD k false with
          | true => have := hcl k y hk hq j this; rw [hjf] at this; cases this
          | false => simp; omega
      have hself : listed.getD j false = decide (j < j) := by rw [hjf]; simp
      refine RelF.step hr hOpL hdst (fun t ht => ?_) (fun b hbT => ?_) ?_ fun a' w' hr' => ?_
      · refine gF_agree s1 s2 L 0 s s (fun k y hk hy => ?_) rfl
        rw [Nat.zero_add]
        by_cases hkj : k = j
        · subst hkj; exact hself
        · exact hsl k y hk (.inl (by simp only [sWr] at hy; simp [touches, hy, ht])) hkj
      · refine gF_agree h1 h2 L 0 h h (fun k y hk hy => ?_) rfl
        rw [Nat.zero_add]
        by_cases hkj : k = j
        · subst hkj; exact hself
        · obtain ⟨p, hp, rfl⟩ := hy
          refine hbk k y hk (.inl ?_) hkj
          simp only [confl, Step.tr, Bool.or_eq_true, List.any_eq_true, List.contains_iff_mem]
          exact .inl ⟨p.1, List.mem_map_of_mem hp, hbT⟩
      · obtain ⟨b, hb1, hb2⟩ := hfree
        refine ⟨b, ?_⟩
        rw [gF_none h1 L 0 h (fun k y hk hy => ?_)]
        · exact hb1
        · obtain ⟨p, hp, e⟩ := hy
          exact absurd e (hb2 y (List.mem_of_getElem? hk) p hp)
      · have hset : ∀ k, k ≠ j → (listed.setIfInBounds j true).getD k false = listed.getD k false := fun k hk => getD_set_ne false (Ne.symm hk)
        have hsetj : (listed.setIfInBounds j true).getD j false = true := by simp [hjl]
        refine ih _ a' w' (by simpa using hsz) ?_ (fun k y hk hkl b hbit => ?_) ?_
        · have := (cnt_add (S := fun k => listed.getD k false) (S' := fun k => (listed.setIfInBounds j true).getD k false) (j := j) hjf hsetj hset ops.size).1 hjn
          omega
        · by_cases hkj : k = j
          · subst hkj
            rw [hx] at hk; cases hk
            exact getD_set_true (hpre b hbit)
          · rw [hset k hkj] at hkl
            exact getD_set_true (hcl k y hk hkl b hbit)
        · have e1 : gF sEff (fun k => (listed.setIfInBounds j true).getD k false) 0 L s = updO (gF sEff (fun k => listed.getD k false) 0 L s) L[j].c.dst L[j].v := by
            funext t
            refine gF_add s1 s2 L 0 j s hx (by simpa using hjf) (by simpa using hsetj) (fun k hk => hset k (by simpa using hk)) fun k y hjk hk hw1 hw2 => ?_
            rw [Nat.zero_add]
            rw [hsl k y hk (.inl (by simp only [sWr] at hw1 hw2; simp [touches, hw1, hw2])) (by omega)]; simp; omega
          have e2 : gF hEff (fun k => (listed.setIfInBounds j true).getD k false) 0 L h = updL (gF hEff (fun k => listed.getD k false) 0 L h) L[j].W := by
            funext t
            refine gF_add h1 h2 L 0 j h hx (by simpa using hjf) (by simpa using hsetj) (fun k hk => hset k (by simpa using hk)) fun k y hjk hk hw1 hw2 => ?_
            rw [Nat.zero_add]
            obtain ⟨p, hp, rfl⟩ := hw1
            obtain ⟨q, hq, hqe⟩ := hw2
            rw [hbk k y hk (.inl ?_) (by omega)]
            · simp; omega
            · simp only [confl, Step.tr, Bool.or_eq_true, List.any_eq_true, List.contains_iff_mem]
              exact .inl ⟨p.1, List.mem_map_of_mem hp, hqe ▸ hW _ (List.getElem_mem hjL) q hq⟩
          rw [e1, e2]; exact hr'
end Go.Am
end
