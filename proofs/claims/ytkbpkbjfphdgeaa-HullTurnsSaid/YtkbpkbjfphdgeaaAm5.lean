/- Renaming of rows, and calls beside rows of the caller's own.
   Conditions: none. -/
import Derived.Test.YtkbpkbjfphdgeaaAm4
section
set_option linter.unusedSimpArgs false
set_option linter.unusedVariables false
namespace Go.Am
open Go Go.RowKit

mutual
def AV.ren (σ : Nat → Nat) : AV → AV
  | .agg cs => .agg (renL σ cs)
  | .tup cs => .tup (renL σ cs)
  | .sv v sz xs => .sv v sz (renL σ xs)
  | .rp v cs => .rp v (renL σ cs)
  | .clo f cs => .clo f (renL σ cs)
  | .sl b g i n => .sl (σ b) g i n
  | .ptr b g i o => .ptr (σ b) g i o
  | x => x
def renL (σ : Nat → Nat) : List AV → List AV
  | [] => []
  | x :: xs => x.ren σ :: renL σ xs
end

mutual
/-- Nothing in it leads to memory that is only read. -/
def AV.clean : AV → Bool
  | .agg cs => cleanL cs
  | .tup cs => cleanL cs
  | .clo _ cs => cleanL cs
  | .sv _ _ _ => false
  | .rp _ _ => false
  | _ => true
def cleanL : List AV → Bool
  | [] => true
  | x :: xs => x.clean && cleanL xs
end

theorem renL_eq (σ : Nat → Nat) (l : List AV) : renL σ l = l.map (AV.ren σ) := by
  induction l with
  | nil => rfl
  | cons a l ih => simp [renL, ih]

theorem cleanL_eq (l : List AV) : cleanL l = l.all AV.clean := by
  induction l with
  | nil => rfl
  | cons a l ih => simp [cleanL, ih]

theorem ren_cells (σ : Nat → Nat) (x : AV) : (x.ren σ).cells = x.cells.map (AV.ren σ) := by
  cases x <;> simp [AV.ren, AV.cells, renL_eq]

theorem cellAt_ren (σ : Nat → Nat) (xs : List AV) (k j : Nat) : cellAt (renL σ xs) k j = (cellAt xs k j).map (AV.ren σ) := by
  unfold cellAt
  rw [renL_eq, List.getElem?_map]
  cases xs[k]? with
  | none => rfl
  | some e => simp [ren_cells]

theorem cleanL_mem {l : List AV} (h : cleanL l = true) {x : AV} (hx : x ∈ l) : x.clean = true := by
  rw [cleanL_eq] at h; exact List.all_eq_true.1 h x hx

theorem clean_cellAt {xs : List AV} (h : cleanL xs = true) {k j : Nat} {x : AV} (hk : cellAt xs k j = some x) : x.clean = true := by
  unfold cellAt at hk
  cases he : xs[k]? with
  | none => simp [he] at hk
  | some e =>
    simp only [he, Option.bind_some] at hk
    have h1 := cleanL_mem h (List.mem_of_getElem? he)
    have h2 := List.mem_of_getElem? hk
    cases e <;> simp only [AV.cells, List.mem_singleton] at h2 <;> first | (subst h2; exact h1) | exact cleanL_mem (by simpa [AV.clean] using h1) h2

theorem ren_getElem {σ : Nat → Nat} {cs : List AV} {i : Nat} {y : AV} (h : (renL σ cs)[i]? = some y) : ∃ x, cs[i]? = some x ∧ y = x.ren σ := by
  rw [renL_eq, List.getElem?_map] at h
  cases hc : cs[i]? with
  | none => simp [hc] at h
  | some x => simp only [hc, Option.map_some, Option.some.injEq] at h; exact ⟨x, rfl, h.symm⟩

theorem VRel.ren {κ κ' : K} {w : World} {σ : Nat → Nat} {x : AV} {v : Value} (h : VRel κ w x v) (hy : κ.yl = none) (hρ : ∀ b g y, κ.rho b g = some y → κ'.rho (σ b) g = some y)
    (hp : (∀ c off, Pr κ c off → Pr κ' c off) ∨ x.clean = true) : VRel κ' w (x.ren σ) v := by
  have sub : ∀ {cs : List AV}, (∀ c off, Pr κ c off → Pr κ' c off) ∨ cleanL cs = true → ∀ x ∈ cs, (∀ c off, Pr κ c off → Pr κ' c off) ∨ x.clean = true := fun h x hx => h.imp_right fun h => cleanL_mem h hx
  have list : ∀ {cs : List AV} {vs : Array Value}, (∀ (i : Nat) (x : AV) (v : Value), cs[i]? = some x → vs[i]? = some v → ((∀ c off, Pr κ c off → Pr κ' c off) ∨ x.clean = true) → VRel κ' w (x.ren σ) v) → ((∀ c off, Pr κ c off → Pr κ' c off) ∨ cleanL cs = true) →
      ∀ (i : Nat) (y : AV) (v : Value), (renL σ cs)[i]? = some y → vs[i]? = some v → VRel κ' w y v := by
    intro cs vs ih hall i y v hy hv
    obtain ⟨x, hc, rfl⟩ := ren_getElem hy
    exact ih i x v hc hv (sub hall x (List.mem_of_getElem? hc))
  induction h with
  | int => exact .int _ _
  | bool => exact .bool _
  | str => exact .str _
  | nilp => exact .nilp
  | nilf => exact .nilf
  | nili => exact .nili
  | nils => exact .nils
  | und => exact .und _
  | agg hl _ ih => exact .agg (by rw [renL_eq]; simpa using hl) (list ih (by simpa [AV.clean] using hp))
  | tup hl _ ih => exact .tup (by rw [renL_eq]; simpa using hl) (list ih (by simpa [AV.clean] using hp))
  | sv a c F hn hcap hc hm hs hr' ih =>
    rename_i vol sz xs
    have hp : ∀ c off, Pr κ c off → Pr κ' c off := hp.resolve_right (by simp [AV.clean])
    have hget : ∀ (k j : Nat) (y : AV), cellAt (renL σ xs) k j = some y → ∃ x, cellAt xs k j = some x ∧ y = x.ren σ := fun k j y hk => by
      rw [cellAt_ren] at hk
      cases hq : cellAt xs k j with
      | none => simp [hq] at hk
      | some x => simp only [hq, Option.map_some, Option.some.injEq] at hk; exact ⟨x, rfl, hk.symm⟩
    have := VRel.sv (κ := κ') (w := w) (vol := vol) (sz := sz) (xs := renL σ xs) a c F (by rw [renL_eq]; simpa using hn) (fun h => by rw [renL_eq, List.length_map]; exact hcap h) (fun hne => hc (by rintro rfl; simp [renL] at hne))
      (fun p k j y ha hk => by obtain ⟨x, h1, _⟩ := hget k j y hk; exact ⟨(hm p k j x ha h1).1, hp _ _ (hm p k j x ha h1).2⟩)
      (fun e he => by rw [renL_eq] at he; obtain ⟨e', h1, rfl⟩ := List.mem_map.1 he; rw [ren_cells]; simpa using hs e' h1)
      (fun k j y hk => by obtain ⟨x, h1, rfl⟩ := hget k j y hk; exact ih k j x h1 (.inl hp))
    rw [show (renL σ xs).length = xs.length by rw [renL_eq]; simp] at this
    exact this
  | sl loc a c hρ' hn ha hb => exact .sl loc a c (hρ _ _ _ hρ') hn ha hb
  | slnil hρ' => exact .slnil (hρ _ _ _ hρ')
  | ptr loc hρ' => exact .ptr loc (hρ _ _ _ hρ')
  | rp p' F hps hm hr' ih =>
    have hp : ∀ c off, Pr κ c off → Pr κ' c off := hp.resolve_right (by simp [AV.clean])
    refine .rp p' F hps (fun j y hj => ?_) (fun j y hj => ?_)
    all_goals
      obtain ⟨x, hq, rfl⟩ := ren_getElem hj
      first
        | exact ⟨(hm j x hq).1, hp _ _ (hm j x hq).2⟩
        | exact ih j x hq (.inl hp)
  | clo hl _ ih => exact .clo (by rw [renL_eq]; simpa using hl) (list ih (by simpa [AV.clean] using hp))
  | yld h => rw [hy] at h; cases h

theorem VRel.unren {κ κ' : K} {w : World} {σ : Nat → Nat} {m : Nat} {X : AV} {v : Value} (h : VRel κ w X v) : ∀ (x : AV), X = x.ren σ → x.lt m = true → (∀ b g, b < m → κ'.rho b g = κ.rho (σ b) g) → (∀ c off, Pr κ c off → Pr κ' c off) → VRel κ' w x v := by
  have list : ∀ {cs : List AV} {vs : Array Value}, (∀ (i : Nat) (x : AV) (v : Value), (renL σ cs)[i]? = some x → vs[i]? = some v → ∀ (y : AV), x = y.ren σ → y.lt m = true → VRel κ' w y v) → ltL m cs = true →
      ∀ (i : Nat) (y : AV) (v : Value), cs[i]? = some y → vs[i]? = some v → VRel κ' w y v := by
    intro cs vs ih hall i y v hy hv
    exact ih i (y.ren σ) v (by rw [renL_eq, List.getElem?_map, hy]; rfl) hv y rfl (ltL_mem hall y (List.mem_of_getElem? hy))
  induction h with
  | int => intro x e hl hρ hp; cases x <;> simp only [AV.ren, AV.int.injEq, reduceCtorEq] at e; obtain ⟨rfl, rfl⟩ := e; exact .int _ _
  | bool => intro x e hl hρ hp; cases x <;> simp only [AV.ren, AV.bool.injEq, reduceCtorEq] at e; subst e; exact .bool _
  | str => intro x e hl hρ hp; cases x <;> simp only [AV.ren, AV.str.injEq, reduceCtorEq] at e; subst e; exact .str _
  | nilp => intro x e hl hρ hp; cases x <;> simp only [AV.ren, reduceCtorEq] at e; exact .nilp
  | nilf => intro x e hl hρ hp; cases x <;> simp only [AV.ren, reduceCtorEq] at e; exact .nilf
  | nili => intro x e hl hρ hp; cases x <;> simp only [AV.ren, reduceCtorEq] at e; exact .nili
  | nils => intro x e hl hρ hp; cases x <;> simp only [AV.ren, reduceCtorEq] at e; exact .nils
  | und => intro x e hl hρ hp; cases x <;> simp only [AV.ren, reduceCtorEq] at e; exact .und _
  | agg hlen _ ih =>
    intro x e hl hρ hp
    cases x <;> simp only [AV.ren, AV.agg.injEq, reduceCtorEq] at e
    subst e
    exact .agg (by rw [renL_eq] at hlen; simpa using hlen) (list (fun i x v h1 h2 y h3 h4 => ih i x v h1 h2 y h3 h4 hρ hp) hl)
  | tup hlen _ ih =>
    intro x e hl hρ hp
    cases x <;> simp only [AV.ren, AV.tup.injEq, reduceCtorEq] at e
    subst e
    exact .tup (by rw [renL_eq] at hlen; simpa using hlen) (list (fun i x v h1 h2 y h3 h4 => ih i x v h1 h2 y h3 h4 hρ hp) hl)
  | clo hlen _ ih =>
    intro x e hl hρ hp
    cases x <;> simp only [AV.ren, AV.clo.injEq, reduceCtorEq] at e
    obtain ⟨rfl, rfl⟩ := e
    exact .clo (by rw [renL_eq] at hlen; simpa using hlen) (list (fun i x v h1 h2 y h3 h4 => ih i x v h1 h2 y h3 h4 hρ hp) hl)
  | sv a c F hn hcap hc hm hs hr' ih =>
    intro x e hl hρ hp
    cases x <;> simp only [AV.ren, AV.sv.injEq, reduceCtorEq] at e
    rename_i vol' sz' xs
    obtain ⟨rfl, rfl, rfl⟩ := e
    have hcell : ∀ k j y, cellAt xs k j = some y → cellAt (renL σ xs) k j = some (y.ren σ) := fun k j y hk => by rw [cellAt_ren, hk]; rfl
    have := fun vol (hcap' : vol = true → c = xs.length) => VRel.sv (κ := κ') (w := w) (vol := vol) (xs := xs) a c F (by rw [renL_eq] at hn; simpa using hn) hcap' (fun hne => hc (by rw [renL_eq]; simpa using hne))
      (fun p k j y ha hk => ⟨(hm p k j _ ha (hcell _ _ _ hk)).1, hp _ _ (hm p k j _ ha (hcell _ _ _ hk)).2⟩)
      (fun e he => by have := hs (e.ren σ) (by rw [renL_eq]; exact List.mem_map_of_mem he); rw [ren_cells] at this; simpa using this)
      (fun k j y hk => ih k j _ (hcell _ _ _ hk) y rfl (mem_cellAt (by simpa [AV.lt] using hl) hk) hρ hp)
    rw [show (renL σ xs).length = xs.length by rw [renL_eq]; simp]
    exact this _ (fun h => by have := hcap h; rwa [renL_eq, List.length_map] at this)
  | sl loc a c hρ' hn ha hb =>
    intro x e hl hρ hp
    cases x <;> simp only [AV.ren, AV.sl.injEq, reduceCtorEq] at e
    obtain ⟨rfl, rfl, rfl, rfl⟩ := e
    exact .sl loc a c ((hρ _ _ (by simpa [AV.lt] using hl)).trans hρ') hn ha hb
  | slnil hρ' =>
    intro x e hl hρ hp
    cases x <;> simp only [AV.ren, AV.sl.injEq, reduceCtorEq] at e
    obtain ⟨rfl, rfl, rfl, rfl⟩ := e
    exact .slnil ((hρ _ _ (by simpa [AV.lt] using hl)).trans hρ')
  | ptr loc hρ' =>
    intro x e hl hρ hp
    cases x <;> simp only [AV.ren, AV.ptr.injEq, reduceCtorEq] at e
    obtain ⟨rfl, rfl, rfl, rfl⟩ := e
    exact .ptr loc ((hρ _ _ (by simpa [AV.lt] using hl)).trans hρ')
  | rp p' F hps hm hr' ih =>
    intro x e hl hρ hp
    cases x <;> simp only [AV.ren, AV.rp.injEq, reduceCtorEq] at e
    rename_i vol' cs
    obtain ⟨rfl, rfl⟩ := e
    have hcell : ∀ (j : Nat) (y : AV), cs[j]? = some y → (renL σ cs)[j]? = some (y.ren σ) := fun j y hk => by rw [renL_eq, List.getElem?_map, hk]; rfl
    exact .rp p' F hps (fun j y hj => ⟨(hm j _ (hcell j y hj)).1, hp _ _ (hm j _ (hcell j y hj)).2⟩) (fun j y hj => ih j _ (hcell j y hj) y rfl (ltL_mem (by simpa [AV.lt] using hl) y (List.mem_of_getElem? hj)) hρ hp)
  | yld =>
    intro x e hl hρ hp
    cases x <;> simp only [AV.ren, reduceCtorEq] at e
    simp [AV.lt] at hl

def Blk.ren (σ : Nat → Nat) : Blk → Blk
  | .dead => .dead
  | .row nil g frz sz xs => .row nil g frz sz (renL σ xs)
def Blk.clean : Blk → Bool
  | .dead => true
  | .row _ _ _ _ xs => cleanL xs

mutual
theorem ren_id {σ : Nat → Nat} : ∀ (x : AV), x.lt 0 = true → x.ren σ = x
  | .agg cs, h => by simp only [AV.ren]; rw [renL_id cs h]
  | .tup cs, h => by simp only [AV.ren]; rw [renL_id cs h]
  | .sv _ _ cs, h => by simp only [AV.ren]; rw [renL_id cs h]
  | .rp _ cs, h => by simp only [AV.ren]; rw [renL_id cs h]
  | .clo _ cs, h => by simp only [AV.ren]; rw [renL_id cs h]
  | .sl _ _ _ _, h => by simp [AV.lt] at h
  | .ptr _ _ _ _, h => by simp [AV.lt] at h
  | .yld, h => by simp [AV.lt] at h
  | .int _ _, _ => rfl
  | .bool _, _ => rfl
  | .str _, _ => rfl
  | .nilp, _ => rfl
  | .nilf, _ => rfl
  | .nili, _ => rfl
  | .nils, _ => rfl
  | .und, _ => rfl
theorem renL_id {σ : Nat → Nat} : ∀ (l : List AV), ltL 0 l = true → renL σ l = l
  | [], _ => rfl
  | x :: xs, h => by
    simp only [ltL, Bool.and_eq_true] at h
    simp only [renL]
    rw [ren_id x h.1, renL_id xs h.2]
end

end Go.Am
end

section
set_option linter.unusedSimpArgs false
set_option linter.unusedVariables false
namespace Go.Am
open Go Go.RowKit

def sigma (names : List Nat) (n : Nat) (b : Nat) : Nat := match names[b]? with
  | some x => x
  | none => n + (b - names.length)

def frW (σ : Nat → Nat) : Nat → List Blk → List (Nat × Blk)
  | _, [] => []
  | i, b :: bs => (σ i, b.ren σ) :: frW σ (i + 1) bs

theorem updL_nil (h : Nat → Blk) : updL h [] = h := rfl
theorem updL_cons (h : Nat → Blk) (p : Nat × Blk) (l : List (Nat × Blk)) : updL h (p :: l) = updL (upd h p.1 p.2) l := rfl

theorem updL_other {b : Nat} : ∀ (l : List (Nat × Blk)) (h : Nat → Blk), (∀ p ∈ l, p.1 ≠ b) → updL h l b = h b := by
  intro l
  induction l with
  | nil => intro h _; rfl
  | cons p l ih =>
    intro h hb
    rw [updL_cons, ih _ (fun q hq => hb q (by simp [hq])), upd_other]
    exact fun e => hb p (by simp) e.symm

theorem frW_keys {σ : Nat → Nat} : ∀ (hr : List Blk) (i : Nat), ∀ p ∈ frW σ i hr, ∃ k, k < hr.length ∧ p.1 = σ (i + k) := by
  intro hr
  induction hr with
  | nil => intro i p hp; simp [frW] at hp
  | cons b bs ih =>
    intro i p hp
    simp only [frW, List.mem_cons] at hp
    rcases hp with rfl | hp
    · exact ⟨0, by simp, rfl⟩
    · obtain ⟨k, hk, e⟩ := ih (i + 1) p hp
      exact ⟨k + 1, by simpa using hk, by rw [e]; congr 1; omega⟩

theorem updL_frW {σ : Nat → Nat} : ∀ (hr : List Blk) (i : Nat) (h : Nat → Blk), (∀ a b, i ≤ a → a < i + hr.length → i ≤ b → b < i + hr.length → σ a = σ b → a = b) → ∀ k, k < hr.length → updL h (frW σ i hr) (σ (i + k)) = (hget hr k).ren σ := by
  intro hr
  induction hr with
  | nil => intro i h _ k hk; simp at hk
  | cons b bs ih =>
    intro i h hinj k hk
    simp only [frW, updL_cons]
    cases k with
    | zero =>
      rw [updL_other]
      · simp [hget]
      · intro p hp e
        obtain ⟨k, hk2, e2⟩ := frW_keys bs (i + 1) p hp
        rw [e2] at e
        have := hinj (i + 1 + k) (i + 0) (by omega) (by simp; omega) (by omega) (by simp) e
        omega
    | succ k =>
      have := ih (i + 1) (upd h (σ i) (b.ren σ)) (fun a c h1 h2 h3 h4 => hinj a c (by omega) (by simp; omega) (by omega) (by simp; omega)) k (by simpa using hk)
      rw [show i + 1 + k = i + (k + 1) by omega] at this
      rw [this]; simp [hget]

structure FrOk (h : Nat → Blk) (names : List Nat) (n : Nat) (hs hr : List Blk) : Prop where
  len : names.length = hs.length
  le : hs.length ≤ hr.length
  nodup : names.Nodup
  lt : ∀ x ∈ names, x < n
  rows : ∀ (i x : Nat), names[i]? = some x → h x = (hget hs i).ren (sigma names n)
  fresh : ∀ b, n ≤ b → b < n + (hr.length - hs.length) → h b = .dead
  low : ∀ b ∈ hs, b.lt hs.length = true

/-- Which heap block is one of a named row? -/
def Named (κ : K) (h : Nat → Blk) (names : List Nat) (c : Nat) : Prop := ∃ b ∈ names, ∃ loc, Lies κ h b loc ∧ loc.c = c

structure K0 (κ : K) (h : Nat → Blk) (w : World) (names : List Nat) (vw : Bool) (κ0 : K) : Prop where
  B : κ0.B = κ.B
  rho : ∀ i x g, names[i]? = some x → κ0.rho i g = κ.rho x g
  rho' : ∀ i g, names[i]? = none → κ0.rho i g = none
  pr : ∀ c, κ.prot c ≤ κ0.prot c
  nm : ∀ c, Named κ h names c → κ0.prot c = κ.prot c
  lt : ∀ c, κ0.prot c ≠ 0 → c < w.heap.size
  view : vw = true → ∀ c off v, ¬ Named κ h names c → w.cell? ⟨c, off, none⟩ = some v → Pr κ0 c off
  novw : vw = false → κ0.prot = κ.prot
  yl : κ0.yl = none

theorem K0.Pr {κ κ0 : K} {h : Nat → Blk} {w : World} {names : List Nat} {vw : Bool} (k : K0 κ h w names vw κ0) {c off : Nat} (hp : Pr κ c off) : Am.Pr κ0 c off := by
  rcases hp with hp | hp
  · exact .inl (by rw [k.B]; exact hp)
  · exact .inr (Nat.lt_of_lt_of_le hp (k.pr c))

open Classical in
theorem K0.exists {κ : K} {h : Nat → Blk} {w : World} (hi : Inv κ h w) (names : List Nat) (vw : Bool) : ∃ κ0, K0 κ h w names vw κ0 := by
  refine ⟨{ B := κ.B, yl := none, rho := fun i g => match names[i]? with | some x => κ.rho x g | none => none,
            prot := fun c => if Named κ h names c ∨ vw = false then κ.prot c else match w.heap[c]? with | some (.cells C _ _) => max (κ.prot c) C.size | _ => κ.prot c }, rfl, ?_, ?_, ?_, ?_, ?_, ?_, ?_, rfl⟩
  · intro i x g hx; simp [hx]
  · intro i g hx; simp [hx]
  · intro c
    simp only
    split
    · exact Nat.le_refl _
    · split
      · exact Nat.le_max_left _ _
      · exact Nat.le_refl _
  · intro c hc; simp [hc]
  · intro c hc
    simp only at hc
    split at hc
    · exact hi.prot c hc
    · split at hc
      · rename_i hC; exact (Array.getElem?_eq_some_iff.1 hC).1
      · exact hi.prot c hc
  · intro hvw c off v hn hv
    refine .inr ?_
    simp only
    rw [if_neg (by simp [hn, hvw])]
    unfold World.cell? at hv
    cases hC : w.heap[c]? with
    | none => simp [hC] at hv
    | some o =>
      cases o with
      | cells C e f =>
        simp only [hC] at hv
        simp only
        have : off < C.size := by
          cases hq : C[off]? with
          | none => simp [hq] at hv
          | some u => exact (Array.getElem?_eq_some_iff.1 hq).1
        exact Nat.lt_of_lt_of_le this (Nat.le_max_right _ _)
      | _ => simp [hC] at hv
  · intro hvw; simp [hvw]

def ArgView (vw : Bool) (h : Nat → Blk) (T names : List Nat) (X x : AV) : Prop :=
  ∀ (κ κ0 : K) (w : World) (h' : Nat → Blk) (v : Value), (∀ b ∈ T, h' b = h b) → K0 κ h' w names vw κ0 → Inv κ h' w → VRel κ w X v → VRel κ0 w x v

theorem ArgView.same {vw : Bool} {h : Nat → Blk} {T names : List Nat} {n : Nat} {x : AV} (hx : x.lt names.length = true) : ArgView vw h T names (x.ren (sigma names n)) x := fun κ κ0 w h' v _ k _ hv =>
  hv.unren x rfl hx (fun b g hb => by
    rw [k.rho b names[b] g (List.getElem?_eq_getElem hb)]
    simp [sigma, hb]) (fun c off => k.Pr)

structure CallsL (P : Program) (f : FuncId) (X : List AV) (h : Nat → Blk) (T : List Nat) (r : AV) (W : List (Nat × Blk)) : Prop where
  enter : ∀ (as : Array Value) (w : World), (callFunc f as).run P w = .ok (.enter f as) w
  calls : ∀ (κ : K) (w : World) (h' : Nat → Blk) (vs : Array Value), (∀ b ∈ T, h' b = h b) → Inv κ h' w → X.length = vs.size → (∀ (i : Nat) (x : AV) (v : Value), X[i]? = some x → vs[i]? = some v → VRel κ w x v) →
    CallsIn Fence.wide 0 P f vs w fun e w' => ∃ v κ', e = .returned v ∧ Ext κ w κ' w' ∧ Inv κ' (updL h' W) w' ∧ VRel κ' w' r v ∧ Chg κ h' w κ' (updL h' W) w'

theorem sigma_inj {names : List Nat} {n : Nat} (hn : names.Nodup) (hlt : ∀ x ∈ names, x < n) {a b : Nat} (h : sigma names n a = sigma names n b) : a = b := by
  unfold sigma at h
  cases ha : names[a]? with
  | some x =>
    rw [ha] at h
    cases hb : names[b]? with
    | some y =>
      rw [hb] at h
      simp only at h
      subst h
      exact (List.getElem?_inj (List.getElem?_eq_some_iff.1 ha).1 hn).1 (ha.trans hb.symm)
    | none =>
      rw [hb] at h
      have := hlt x (List.mem_of_getElem? ha)
      simp only at h; omega
  | none =>
    rw [ha] at h
    cases hb : names[b]? with
    | some y =>
      rw [hb] at h
      have := hlt y (List.mem_of_getElem? hb)
      simp only at h; omega
    | none =>
      rw [hb] at h
      simp only at h
      have h1 := List.getElem?_eq_none_iff.1 ha
      have h2 := List.getElem?_eq_none_iff.1 hb
      omega

theorem sigma_unnamed {names : List Nat} {n : Nat} (hlt : ∀ x ∈ names, x < n) {a b : Nat} (ha : names.length ≤ a) : sigma names n a ∉ names := fun h => by
  have := hlt _ h
  unfold sigma at this
  rw [List.getElem?_eq_none ha] at this
  simp only at this; omega

theorem CallsF.frame {P : Program} {f : FuncId} {args : List AV} {hs : List Blk} {r : AV} {hr : List Blk} (vw : Bool) (hC : CallsF P f args hs r hr) {h : Nat → Blk} {names : List Nat} {n : Nat} (ho : FrOk h names n hs hr) {T : List Nat} (hT : ∀ x ∈ names, x ∈ T)
    (hT2 : ∀ b, n ≤ b → b < n + (hr.length - hs.length) → b ∈ T) {X : List AV} (hX : X.length = args.length) (hview : ∀ (i : Nat) (Y y : AV), X[i]? = some Y → args[i]? = some y → ArgView vw h T names Y y) (hclean : vw = true → r.clean = true ∧ ∀ b ∈ hr, b.clean = true) :
    CallsL P f X h T (r.ren (sigma names n)) (frW (sigma names n) 0 hr) := by
  refine ⟨hC.enter, fun κ w h' vs hT' hi hlen hrel => ?_⟩
  have hlen' := ho.len
  have hle' := ho.le
  obtain ⟨κ0, k0⟩ := K0.exists hi names vw
  -- the callee's state
  have hname : ∀ (i x : Nat), names[i]? = some x → h' x = (hget hs i).ren (sigma names n) := fun i x hx => (hT' x (hT x (List.mem_of_getElem? hx))).trans (ho.rows i x hx)
  have hlies0 : ∀ i loc, Lies κ0 (hget hs) i loc → ∃ x, names[i]? = some x ∧ Lies κ h' x loc := by
    rintro i loc ⟨g, frz, sz, xs, h1, h2⟩
    cases hx : names[i]? with
    | none => rw [k0.rho' i g hx] at h2; cases h2
    | some x =>
      refine ⟨x, rfl, g, frz, sz, renL (sigma names n) xs, ?_, ?_⟩
      · rw [hname i x hx, h1]; rfl
      · rw [← k0.rho i x g hx]; exact h2
  have hnamed0 : ∀ i loc, Lies κ0 (hget hs) i loc → Named κ h' names loc.c := fun i loc hl => by
    obtain ⟨x, h1, h2⟩ := hlies0 i loc hl
    exact ⟨x, List.mem_of_getElem? h1, loc, h2, rfl⟩
  have hi0 : Inv κ0 (hget hs) w := by
    refine ⟨by rw [k0.B]; exact hi.base, fun i => ?_, fun b b' loc loc' h1 h2 hc => ?_, k0.lt⟩
    · cases hx : names[i]? with
      | none =>
        have : hs.length ≤ i := by have := List.getElem?_eq_none_iff.1 hx; omega
        rw [hget_dead _ _ this]
        exact fun g => k0.rho' i g hx
      | some x =>
        have h1 := hi.ok x
        rw [hname i x hx] at h1
        have hil : i < names.length := (List.getElem?_eq_some_iff.1 hx).1
        have hxi : sigma names n i = x := by simp [sigma, hx]
        cases hb : hget hs i with
        | dead => rw [hb] at h1; intro g; rw [k0.rho i x g hx]; exact h1 g
        | row nil g frz sz xs =>
          rw [hb] at h1
          obtain ⟨h2, h3⟩ := h1
          have hroweq : h' x = .row nil g frz sz (renL (sigma names n) xs) := by rw [hname i x hx, hb]; rfl
          refine ⟨?_, fun g' hg' => by rw [k0.rho i x g' hx]; exact h3 g' hg'⟩
          rcases h2 with ⟨h4, h5, h6⟩ | ⟨h4, loc, h5, h6⟩
          · exact .inl ⟨h4, by rw [k0.rho i x g hx]; exact h5, by rw [renL_eq] at h6; simpa using h6⟩
          · subst h4
            have hl : (renL (sigma names n) xs).length = xs.length := by rw [renL_eq]; simp
            have hnm : Named κ h' names loc.c := ⟨x, List.mem_of_getElem? hx, loc, ⟨g, frz, sz, _, hroweq, h5⟩, rfl⟩
            refine .inr ⟨rfl, loc, by rw [k0.rho i x g hx]; exact h5, h6.hsz, by rw [k0.B]; exact h6.own, by have := h6.blk; rwa [hl] at this, fun e he => ?_, fun k j y hk => ?_, ?_⟩
            · have := h6.size (e.ren (sigma names n)) (by rw [renL_eq]; exact List.mem_map_of_mem he)
              rw [ren_cells] at this; simpa using this
            · obtain ⟨v, hv, hvr⟩ := h6.cell k j (y.ren (sigma names n)) (by rw [cellAt_ren, hk]; rfl)
              have hmem : Blk.row false g frz sz xs ∈ hs := by
                rw [← hb]
                have : i < hs.length := by omega
                simp [hget, this]
              refine ⟨v, hv, hvr.unren (m := names.length) y rfl ?_ (fun b g hb => ?_) (fun c off => k0.Pr)⟩
              · rw [hlen']; exact mem_cellAt (ho.low _ hmem) hk
              · rw [k0.rho b names[b] g (List.getElem?_eq_getElem hb)]; simp [sigma, hb]
            · rw [k0.nm _ hnm]; have := h6.prot; rwa [hl] at this
    · obtain ⟨x, h3, h4⟩ := hlies0 b loc h1
      obtain ⟨x', h5, h6⟩ := hlies0 b' loc' h2
      have := hi.inj x x' loc loc' h4 h6 hc
      subst this
      exact (List.getElem?_inj (List.getElem?_eq_some_iff.1 h3).1 ho.nodup).1 (h3.trans h5.symm)
  have harg : ∀ (i : Nat) (x : AV) (v : Value), args[i]? = some x → vs[i]? = some v → VRel κ0 w x v := fun i x v hx hv => by
    have hlt : i < X.length := by rw [hX]; exact (List.getElem?_eq_some_iff.1 hx).1
    exact hview i X[i] x (List.getElem?_eq_getElem hlt) hx κ κ0 w h' v hT' k0 hi (hrel i X[i] v (List.getElem?_eq_getElem hlt) hv)
  refine (hC.calls κ0 w vs k0.yl hi0 (hX ▸ hlen) harg).mono ?_
  rintro e w1 ⟨u, κ1, rfl, hx1, hi1, hv1, hc1⟩
  -- the caller's state behind the call
  have hinj : ∀ a b, sigma names n a = sigma names n b → a = b := fun a b => sigma_inj ho.nodup ho.lt
  have hupd : ∀ i, i < hr.length → updL h' (frW (sigma names n) 0 hr) (sigma names n i) = (hget hr i).ren (sigma names n) := fun i hlt => by
    have := updL_frW (σ := sigma names n) hr 0 h' (fun a b _ _ _ _ => hinj a b) i hlt
    simpa using this
  have hoth : ∀ b, (∀ i, i < hr.length → sigma names n i ≠ b) → updL h' (frW (sigma names n) 0 hr) b = h' b := fun b hb => updL_other _ _ fun p hp => by
    obtain ⟨k, hk, e⟩ := frW_keys _ _ p hp
    rw [e]; simpa using hb k hk
  have hcase : ∀ b, (∃ i, i < hr.length ∧ sigma names n i = b) ∨ (∀ i, i < hr.length → sigma names n i ≠ b) := fun b => by
    by_cases h : ∃ i, i < hr.length ∧ sigma names n i = b
    · exact .inl h
    · exact .inr fun i hi he => h ⟨i, hi, he⟩
  have hsn : ∀ i x, names[i]? = some x → sigma names n i = x := fun i x hx => by simp [sigma, hx]
  have hnotnamed : ∀ b, (∀ i, i < hr.length → sigma names n i ≠ b) → b ∉ names := fun b hb hmem => by
    obtain ⟨i, hi, he⟩ := List.mem_iff_getElem.1 hmem
    exact hb i (by omega) (by simp [sigma, hi, he])
  have hfreshdead : ∀ i, i < hr.length → names.length ≤ i → h' (sigma names n i) = .dead := fun i h1 h2 => by
    have : sigma names n i = n + (i - names.length) := by simp [sigma, List.getElem?_eq_none h2]
    rw [this, hT' _ (hT2 _ (by omega) (by omega))]
    exact ho.fresh _ (by omega) (by omega)
  obtain ⟨κ2, k2B, k2yl, k2prot, k2rho, k2rho'⟩ : ∃ κ2 : K, κ2.B = κ.B ∧ κ2.yl = κ.yl ∧ (∀ c, (c < w.heap.size ∧ ¬ Named κ h' names c → κ2.prot c = κ.prot c) ∧ (¬ (c < w.heap.size ∧ ¬ Named κ h' names c) → κ2.prot c = κ1.prot c)) ∧
      (∀ i g, i < hr.length → κ2.rho (sigma names n i) g = κ1.rho i g) ∧ (∀ b g, (∀ i, i < hr.length → sigma names n i ≠ b) → κ2.rho b g = κ.rho b g) := by
    classical
    refine ⟨{ B := κ.B, yl := κ.yl, prot := fun c => if c < w.heap.size ∧ ¬ Named κ h' names c then κ.prot c else κ1.prot c,
              rho := fun b g => if h : ∃ i, i < hr.length ∧ sigma names n i = b then κ1.rho h.choose g else κ.rho b g }, rfl, rfl, fun c => ⟨fun h => by simp only; rw [if_pos h], fun h => by simp only; rw [if_neg h]⟩, fun i g hi => ?_, fun b g hb => ?_⟩
    · have hex : ∃ j, j < hr.length ∧ sigma names n j = sigma names n i := ⟨i, hi, rfl⟩
      simp only
      rw [dif_pos hex]
      rw [hinj _ _ hex.choose_spec.2]
    · simp only
      rw [dif_neg (by rintro ⟨i, h1, h2⟩; exact hb i h1 h2)]
  have hρ12 : ∀ b g y, κ1.rho b g = some y → κ2.rho (sigma names n b) g = some y := fun b g y hb => by
    rw [k2rho b g]
    · exact hb
    · refine Nat.lt_of_not_le fun hle => ?_
      have := hi1.ok b
      rw [hget_dead _ _ hle] at this
      rw [this g] at hb; cases hb
  have hprot1 : ∀ c, c < w.heap.size → ¬ Named κ h' names c → κ1.prot c = κ0.prot c := fun c h1 h2 => hc1.prot c h1 fun b loc hl he => h2 (he ▸ hnamed0 b loc hl)
  have hpr12 : vw = false → ∀ c off, Pr κ1 c off → Pr κ2 c off := fun hvw c off hp => by
    rcases hp with hp | hp
    · exact .inl (by rw [k2B, ← k0.B, ← hx1.B]; exact hp)
    · refine .inr ?_
      by_cases hcc : c < w.heap.size ∧ ¬ Named κ h' names c
      · rw [(k2prot c).1 hcc, ← k0.novw hvw, ← hprot1 c hcc.1 hcc.2]; exact hp
      · rw [(k2prot c).2 hcc]; exact hp
  have hx2 : Ext κ w κ2 w1 := by
    refine ⟨k2B, fun b g y hb => ?_, fun c => ?_, fun c off v hp hv => hx1.cell c off v (k0.Pr hp) hv, hx1.blk, k2yl⟩
    · rcases hcase b with ⟨i, h1, rfl⟩ | h1
      · rw [k2rho i g h1]
        by_cases him : i < names.length
        · have hxi : names[i]? = some (sigma names n i) := by simp [sigma, him]
          exact hx1.rho i g y (by rw [k0.rho i _ g hxi]; exact hb)
        · have := hi.ok (sigma names n i)
          rw [hfreshdead i h1 (by omega)] at this
          rw [this g] at hb; cases hb
      · rw [k2rho' b g h1]; exact hb
    · by_cases hcc : c < w.heap.size ∧ ¬ Named κ h' names c
      · rw [(k2prot c).1 hcc]; exact Nat.le_refl _
      · rw [(k2prot c).2 hcc]; exact Nat.le_trans (k0.pr c) (hx1.prot c)
  have hcl : ∀ (xs : List AV), (vw = true → cleanL xs = true) → ∀ {k j x}, cellAt xs k j = some x → (∀ c off, Pr κ1 c off → Pr κ2 c off) ∨ x.clean = true := fun xs h k j x hk => by
    cases hvw : vw with
    | false => exact .inl (hpr12 hvw)
    | true => exact .inr (clean_cellAt (h hvw) hk)
  have hloc1 : ∀ i loc, Lies κ1 (hget hr) i loc → Named κ h' names loc.c ∨ w.heap.size ≤ loc.c := fun i loc hl => by
    rcases hc1.lies i loc hl with ⟨b0, loc0, h1, h2⟩ | h1
    · exact .inl (h2 ▸ hnamed0 b0 loc0 h1)
    · exact .inr h1
  have hprot2 : ∀ i loc, Lies κ1 (hget hr) i loc → κ2.prot loc.c = κ1.prot loc.c := fun i loc hl => (k2prot _).2 (by
    rintro ⟨h1, h2⟩
    rcases hloc1 i loc hl with h3 | h3
    · exact h2 h3
    · omega)
  have horig : ∀ b loc, Lies κ2 (updL h' (frW (sigma names n) 0 hr)) b loc → (∃ i, i < hr.length ∧ sigma names n i = b ∧ Lies κ1 (hget hr) i loc) ∨ ((∀ i, i < hr.length → sigma names n i ≠ b) ∧ Lies κ h' b loc) := by
    rintro b loc ⟨g, frz, sz, xs, h1, h2⟩
    rcases hcase b with ⟨i, h3, rfl⟩ | h3
    · rw [hupd i h3] at h1
      rw [k2rho i g h3] at h2
      cases hb : hget hr i with
      | dead => rw [hb] at h1; cases h1
      | row nil' g' frz' sz' xs' =>
        rw [hb] at h1
        simp only [Blk.ren, Blk.row.injEq] at h1
        obtain ⟨rfl, rfl, rfl, rfl, rfl⟩ := h1
        exact .inl ⟨i, h3, rfl, _, _, _, _, hb, h2⟩
    · rw [hoth b h3] at h1
      rw [k2rho' b g h3] at h2
      exact .inr ⟨h3, g, frz, sz, xs, h1, h2⟩
  have hunnamed : ∀ b loc, b ∉ names → Lies κ h' b loc → ¬ Named κ h' names loc.c := by
    rintro b loc hb hl ⟨b', hb', loc', hl', hcc⟩
    have := hi.inj b' b loc' loc hl' hl hcc
    exact hb (this ▸ hb')
  have hi2 : Inv κ2 (updL h' (frW (sigma names n) 0 hr)) w1 := by
    refine ⟨by rw [k2B]; exact Nat.le_trans hi.base hc1.size, fun b => ?_, fun b b' loc loc' h1 h2 hcc => ?_, fun c hc => ?_⟩
    · rcases hcase b with ⟨i, h1, rfl⟩ | h1
      · rw [hupd i h1]
        have h2 := hi1.ok i
        cases hb : hget hr i with
        | dead => rw [hb] at h2; intro g; rw [k2rho i g h1]; exact h2 g
        | row nil g frz sz xs =>
          rw [hb] at h2
          obtain ⟨h3, h4⟩ := h2
          have hmem : Blk.row nil g frz sz xs ∈ hr := by rw [← hb]; simp [hget, h1]
          have hl : (renL (sigma names n) xs).length = xs.length := by rw [renL_eq]; simp
          refine ⟨?_, fun g' hg' => by rw [k2rho i g' h1]; exact h4 g' hg'⟩
          rcases h3 with ⟨h5, h6, h7⟩ | ⟨h5, loc, h6, h7⟩
          · exact .inl ⟨h5, by rw [k2rho i g h1]; exact h6, by rw [h7]; rfl⟩
          · subst h5
            refine .inr ⟨rfl, loc, by rw [k2rho i g h1]; exact h6, h7.hsz, by rw [k2B, ← k0.B, ← hx1.B]; exact h7.own, by rw [hl]; exact h7.blk, fun e he => ?_, fun k j y hk => ?_, ?_⟩
            · rw [renL_eq] at he
              obtain ⟨e', h8, rfl⟩ := List.mem_map.1 he
              rw [ren_cells]; simpa using h7.size e' h8
            · rw [cellAt_ren] at hk
              cases hq : cellAt xs k j with
              | none => simp [hq] at hk
              | some y' =>
                simp only [hq, Option.map_some, Option.some.injEq] at hk
                subst hk
                obtain ⟨v, hv, hvr⟩ := h7.cell k j y' hq
                exact ⟨v, hv, hvr.ren (hx1.yl.trans k0.yl) hρ12 (hcl xs (fun hvw => (hclean hvw).2 _ hmem) hq)⟩
            · rw [hprot2 i loc ⟨g, frz, sz, xs, hb, h6⟩, hl]; exact h7.prot
      · rw [hoth b h1]
        have h2 := hi.ok b
        cases hb : h' b with
        | dead => rw [hb] at h2; intro g; rw [k2rho' b g h1]; exact h2 g
        | row nil g frz sz xs =>
          rw [hb] at h2
          obtain ⟨h3, h4⟩ := h2
          refine ⟨?_, fun g' hg' => by rw [k2rho' b g' h1]; exact h4 g' hg'⟩
          rcases h3 with ⟨h5, h6, h7⟩ | ⟨h5, loc, h6, h7⟩
          · exact .inl ⟨h5, by rw [k2rho' b g h1]; exact h6, h7⟩
          · subst h5
            have hl : Lies κ h' b loc := ⟨g, frz, sz, xs, hb, h6⟩
            have hun := hunnamed b loc (hnotnamed b h1) hl
            refine .inr ⟨rfl, loc, by rw [k2rho' b g h1]; exact h6, h7.keep hx2 (hc1.blk _ (hl.lt hi) fun b' loc' hl' he => hun (he ▸ hnamed0 b' loc' hl')) ((k2prot _).1 ⟨hl.lt hi, hun⟩)⟩
    · rcases horig b loc h1 with ⟨i, h3, rfl, h4⟩ | ⟨h3, h4⟩ <;> rcases horig b' loc' h2 with ⟨i', h5, rfl, h6⟩ | ⟨h5, h6⟩
      · rw [hi1.inj i i' loc loc' h4 h6 hcc]
      · rcases hloc1 i loc h4 with h7 | h7
        · exact absurd (hcc ▸ h7) (hunnamed b' loc' (hnotnamed b' h5) h6)
        · have := h6.lt hi; omega
      · rcases hloc1 i' loc' h6 with h7 | h7
        · exact absurd (hcc ▸ h7) (hunnamed b loc (hnotnamed b h3) h4)
        · have := h4.lt hi; omega
      · exact hi.inj b b' loc loc' h4 h6 hcc
    · by_cases hlt : c < w.heap.size
      · exact Nat.lt_of_lt_of_le hlt hc1.size
      · rw [(k2prot c).2 (fun h => hlt h.1)] at hc
        exact hi1.prot c hc
  refine ⟨u, κ2, rfl, hx2, hi2, hv1.ren (hx1.yl.trans k0.yl) hρ12 ?_, ⟨hc1.os, hc1.tape, hc1.output, hc1.size, fun c hc hl => hc1.blk c hc fun b loc hb he => ?_, fun b loc hl => ?_, fun c hc hl => (k2prot c).1 ⟨hc, ?_⟩⟩⟩
  · cases hvw : vw with
    | false => exact .inl (hpr12 hvw)
    | true => exact .inr (hclean hvw).1
  · obtain ⟨x, h1, h2⟩ := hlies0 b loc hb
    exact hl x loc h2 he
  · rcases horig b loc hl with ⟨i, h3, rfl, h4⟩ | ⟨h3, h4⟩
    · rcases hc1.lies i loc h4 with ⟨b0, loc0, h1, h2⟩ | h1
      · obtain ⟨x, h5, h6⟩ := hlies0 b0 loc0 h1
        exact .inl ⟨x, loc0, h6, h2⟩
      · exact .inr h1
    · exact .inl ⟨b, loc, h4, rfl⟩
  · rintro ⟨b, hb, loc, hl', he⟩
    exact hl b loc hl' he

end Go.Am
end

section
set_option linter.unusedSimpArgs false
set_option linter.unusedVariables false
namespace Go.Am
open Go Go.RowKit

theorem Inv.unnamed {κ : K} {h : Nat → Blk} {w : World} (hi : Inv κ h w) {names : List Nat} {b : Nat} {loc : Loc} (hb : b ∉ names) (hl : Lies κ h b loc) : ¬ Named κ h names loc.c := by
  rintro ⟨b', hb', loc', hl', hcc⟩
  have := hi.inj b' b loc' loc hl' hl hcc
  exact hb (this ▸ hb')

theorem ArgView.sl {h : Nat → Blk} {T names : List Nat} {b g i n sz : Nat} {nil frz : Bool} {XS xs : List AV} (hb : h b = .row nil g frz sz XS) (hT : b ∈ T) (hnn : b ∉ names) (hlen : xs.length = n) (hsz : ∀ e ∈ xs, e.cells.length = sz)
    (hel : ∀ k j y, cellAt xs k j = some y → ∃ Y, cellAt XS (i + k) j = some Y ∧ ArgView true h T names Y y) : ArgView true h T names (.sl b g i n) (.sv false sz xs) := by
  intro κ κ0 w h' v hT' k0 hi hv
  have hrow := hi.ok b
  rw [hT' b hT, hb] at hrow
  cases hv with
  | slnil hρ =>
    have hx : xs = [] := List.eq_nil_of_length_eq_zero hlen
    subst hx
    exact .sv none 0 (fun _ _ => undef) (Nat.le_refl _) nofun (fun h => absurd rfl h) (fun p k j x hp => by cases hp) (fun e he => by cases he) (fun k j x hk => by simp [cellAt] at hk)
  | sl loc a c hρ hn ha hbb =>
    subst hlen
    rcases hrow.1 with ⟨_, h1, _⟩ | ⟨hnil, loc', h1, h2⟩
    · rw [hρ] at h1; cases h1
    · rw [hρ] at h1; cases h1
      have hun : ¬ Named κ h' names loc.c := hi.unnamed hnn ⟨g, frz, sz, XS, by rw [hT' b hT, hb, hnil], hρ⟩
      have hc0 : xs ≠ [] → c ≠ 0 := fun hne => by
        have : 0 < xs.length := List.length_pos_iff.2 hne
        omega
      refine .sv (some a) c (fun k j => (w.cell? ⟨loc.c, loc.o + (i + k) * sz + j, none⟩).getD undef) hn nofun (fun hne => ⟨a, rfl, by rw [ha (hc0 hne)]⟩) (fun p k j x hp hk => ?_) hsz (fun k j x hk => ?_)
      · obtain ⟨Y, hY, _⟩ := hel k j x hk
        obtain ⟨u, hu, _⟩ := h2.cell (i + k) j Y hY
        have hne : xs ≠ [] := by rintro rfl; simp [cellAt] at hk
        cases hp
        rw [ha (hc0 hne)]
        simp only [hu, Option.getD_some]
        have he : loc.o + i * loc.sz + k * sz + j = loc.o + (i + k) * sz + j := by rw [h2.hsz, Nat.add_mul]; omega
        rw [he]
        exact ⟨hu, k0.view rfl _ _ _ hun hu⟩
      · obtain ⟨Y, hY, hview⟩ := hel k j x hk
        obtain ⟨u, hu, hur⟩ := h2.cell (i + k) j Y hY
        simp only [hu, Option.getD_some]
        exact hview κ κ0 w h' u hT' k0 hi hur

theorem ArgView.ptr {h : Nat → Blk} {T names : List Nat} {b g i o sz : Nat} {nil frz : Bool} {XS cs : List AV} (hb : h b = .row nil g frz sz XS) (hT : b ∈ T) (hnn : b ∉ names)
    (hel : ∀ (j : Nat) (y : AV), cs[j]? = some y → ∃ Y, cellAt XS i (o + j) = some Y ∧ ArgView true h T names Y y) : ArgView true h T names (.ptr b g i o) (.rp true cs) := by
  intro κ κ0 w h' v hT' k0 hi hv
  have hrow := hi.ok b
  rw [hT' b hT, hb] at hrow
  cases hv with
  | ptr loc hρ =>
    rcases hrow.1 with ⟨_, h1, _⟩ | ⟨hnil, loc', h1, h2⟩
    · rw [hρ] at h1; cases h1
    · rw [hρ] at h1; cases h1
      have hun : ¬ Named κ h' names loc.c := hi.unnamed hnn ⟨g, frz, sz, XS, by rw [hT' b hT, hb, hnil], hρ⟩
      refine .rp _ (fun j => (w.cell? ⟨loc.c, loc.o + i * sz + (o + j), none⟩).getD undef) rfl (fun j x hk => ?_) (fun j x hk => ?_)
      · obtain ⟨Y, hY, _⟩ := hel j x hk
        obtain ⟨u, hu, _⟩ := h2.cell i (o + j) Y hY
        simp only [hu, Option.getD_some]
        have he : loc.o + i * loc.sz + o + j = loc.o + i * sz + (o + j) := by rw [h2.hsz]; omega
        rw [he]
        exact ⟨hu, k0.view rfl _ _ _ hun hu⟩
      · obtain ⟨Y, hY, hview⟩ := hel j x hk
        obtain ⟨u, hu, hur⟩ := h2.cell i (o + j) Y hY
        simp only [hu, Option.getD_some]
        exact hview κ κ0 w h' u hT' k0 hi hur

theorem ArgView.agg {vw : Bool} {h : Nat → Blk} {T names : List Nat} {XS xs : List AV} (hl : xs.length = XS.length) (hel : ∀ (i : Nat) (Y y : AV), XS[i]? = some Y → xs[i]? = some y → ArgView vw h T names Y y) : ArgView vw h T names (.agg XS) (.agg xs) := by
  intro κ κ0 w h' v hT' k0 hi hv
  cases hv with
  | agg hlen hr =>
    refine .agg (hl.trans hlen) fun i y u hy hu => ?_
    have hlt : i < XS.length := by rw [← hl]; exact (List.getElem?_eq_some_iff.1 hy).1
    exact hel i XS[i] y (List.getElem?_eq_getElem hlt) hy κ κ0 w h' u hT' k0 hi (hr i XS[i] u (List.getElem?_eq_getElem hlt) hu)

theorem ArgView.clo {vw : Bool} {h : Nat → Blk} {T names : List Nat} {f : FuncId} {XS xs : List AV} (hl : xs.length = XS.length) (hel : ∀ (i : Nat) (Y y : AV), XS[i]? = some Y → xs[i]? = some y → ArgView vw h T names Y y) : ArgView vw h T names (.clo f XS) (.clo f xs) := by
  intro κ κ0 w h' v hT' k0 hi hv
  cases hv with
  | clo hlen hr =>
    refine .clo (hl.trans hlen) fun i y u hy hu => ?_
    have hlt : i < XS.length := by rw [← hl]; exact (List.getElem?_eq_some_iff.1 hy).1
    exact hel i XS[i] y (List.getElem?_eq_getElem hlt) hy κ κ0 w h' u hT' k0 hi (hr i XS[i] u (List.getElem?_eq_getElem hlt) hu)

mutual
theorem lt_mono {m m' : Nat} (hm : m ≤ m') : ∀ (x : AV), x.lt m = true → x.lt m' = true
  | .agg cs, h => ltL_mono hm cs h
  | .tup cs, h => ltL_mono hm cs h
  | .sv _ _ cs, h => ltL_mono hm cs h
  | .rp _ cs, h => ltL_mono hm cs h
  | .clo _ cs, h => ltL_mono hm cs h
  | .sl _ _ _ _, h => by simp only [AV.lt, decide_eq_true_eq] at h ⊢; omega
  | .ptr _ _ _ _, h => by simp only [AV.lt, decide_eq_true_eq] at h ⊢; omega
  | .yld, h => by simp [AV.lt] at h
  | .int _ _, _ => rfl
  | .bool _, _ => rfl
  | .str _, _ => rfl
  | .nilp, _ => rfl
  | .nilf, _ => rfl
  | .nili, _ => rfl
  | .nils, _ => rfl
  | .und, _ => rfl
theorem ltL_mono {m m' : Nat} (hm : m ≤ m') : ∀ (l : List AV), ltL m l = true → ltL m' l = true
  | [], _ => rfl
  | x :: xs, h => by
    simp only [ltL, Bool.and_eq_true] at h ⊢
    exact ⟨lt_mono hm x h.1, ltL_mono hm xs h.2⟩
end

/-- What leads to no row is the same to both. -/
theorem ArgView.plain {vw : Bool} {h : Nat → Blk} {T names : List Nat} {x : AV} (hx : x.lt 0 = true) : ArgView vw h T names x x := by
  have := ArgView.same (vw := vw) (h := h) (T := T) (names := names) (n := 0) (lt_mono (Nat.zero_le _) x hx)
  rwa [ren_id x hx] at this

/-- A row of plain elements, or a part of one. -/
theorem ArgView.row {h : Nat → Blk} {T names : List Nat} {b g i n sz : Nat} {nil frz : Bool} {XS xs : List AV} (hb : h b = .row nil g frz sz XS) (hT : b ∈ T) (hnn : b ∉ names) (hxs : xs = (XS.drop i).take n) (hn : i + n ≤ XS.length) (hsz : ∀ e ∈ xs, e.cells.length = sz)
    (hp : ltL 0 xs = true) : ArgView true h T names (.sl b g i n) (.sv false sz xs) := by
  refine .sl hb hT hnn (by rw [hxs]; simp; omega) hsz fun k j y hk => ⟨y, ?_, .plain (mem_cellAt hp hk)⟩
  subst hxs
  unfold cellAt at hk ⊢
  rw [List.getElem?_take] at hk
  split at hk
  · rwa [List.getElem?_drop] at hk
  · simp at hk

end Go.Am
end
