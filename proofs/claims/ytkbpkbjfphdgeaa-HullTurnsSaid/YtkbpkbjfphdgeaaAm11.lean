/- Compiled code is run on given data.
   Conditions: none. -/
import Derived.Test.YtkbpkbjfphdgeaaAm10
section
set_option linter.unusedSimpArgs false
set_option linter.unusedVariables false
namespace Go.Am
open Go Go.RowKit

/-! ### Rows that are reached -/
mutual
def AV.refs : AV → List (Nat × Nat) → List (Nat × Nat)
  | .agg cs, acc => refsL cs acc
  | .tup cs, acc => refsL cs acc
  | .sv _ _ xs, acc => refsL xs acc
  | .rp _ cs, acc => refsL cs acc
  | .clo _ cs, acc => refsL cs acc
  | .sl b g _ _, acc => (b, g) :: acc
  | .ptr b g _ _, acc => (b, g) :: acc
  | _, acc => acc
def refsL : List AV → List (Nat × Nat) → List (Nat × Nat)
  | [], acc => acc
  | x :: xs, acc => x.refs (refsL xs acc)
end

def Blk.refs : Blk → List (Nat × Nat)
  | .dead => []
  | .row _ _ _ _ xs => refsL xs []

def natIn (k : Nat) : List Nat → Bool
  | [] => false
  | a :: l => Nat.beq a k || natIn k l

def reach (hl : List Blk) (m0 : Nat) : Nat → List (Nat × Nat) → List (Nat × Nat) → List (Nat × Nat)
  | 0, _, acc => acc.reverse
  | _ + 1, [], acc => acc.reverse
  | n + 1, q :: todo, acc => if Nat.blt q.1 m0 || natIn q.1 (acc.map Prod.fst) then reach hl m0 n todo acc else reach hl m0 n ((hget hl q.1).refs ++ todo) (q :: acc)

/-! ### Plain values, quickly seen -/
def allB {α : Type} (f : α → Bool) : List α → Bool
  | [] => true
  | x :: xs => match f x with
    | true => allB f xs
    | false => false

/-- Whole numbers, truth values, strings; what is built of them, n deep. q: is memory that is only read let in? -/
def flatN (q : Bool) : Nat → AV → Bool
  | _, .int _ _ => true
  | _, .bool _ => true
  | _, .str _ => true
  | _, .nilf => true
  | n + 1, .agg cs => allB (flatN q n) cs
  | n + 1, .tup cs => allB (flatN q n) cs
  | n + 1, .clo _ cs => allB (flatN q n) cs
  | n + 1, .sv _ _ xs => match q with
    | true => allB (flatN q n) xs
    | false => false
  | n + 1, .rp _ xs => match q with
    | true => allB (flatN q n) xs
    | false => false
  | _, _ => false

theorem allB_spec {α : Type} {f : α → Bool} : ∀ {l : List α}, allB f l = true → ∀ x ∈ l, f x = true := by
  intro l
  induction l with
  | nil => intro _ x hx; cases hx
  | cons a l ih =>
    intro h x hx
    simp only [allB] at h
    split at h
    · rename_i ha
      rcases List.mem_cons.1 hx with rfl | hx
      · exact ha
      · exact ih h x hx
    · cases h

theorem flatN_spec {q : Bool} : ∀ (n : Nat) (x : AV), flatN q n x = true → x.lt 0 = true ∧ x.allR (fun _ _ => false) true = true ∧ (q = false → x.clean = true) := by
  have list : ∀ (n : Nat), (∀ (x : AV), flatN q n x = true → x.lt 0 = true ∧ x.allR (fun _ _ => false) true = true ∧ (q = false → x.clean = true)) → ∀ (l : List AV), allB (flatN q n) l = true → ltL 0 l = true ∧ allRL (fun _ _ => false) true l = true ∧ (q = false → cleanL l = true) := by
    intro n ih l
    induction l with
    | nil => intro _; exact ⟨rfl, rfl, fun _ => rfl⟩
    | cons x l ihl =>
      intro h
      have h1 := allB_spec h
      simp only [allB] at h
      split at h <;> first | (cases h; done) | skip
      obtain ⟨a1, a2, a3⟩ := ih x (h1 x (by simp))
      obtain ⟨b1, b2, b3⟩ := ihl h
      exact ⟨by simp only [ltL, a1, b1, Bool.and_self], by simp only [allRL, a2, b2, Bool.and_self], fun hq => by simp only [cleanL, a3 hq, b3 hq, Bool.and_self]⟩
  intro n
  induction n with
  | zero => intro x h; cases x <;> simp only [flatN, Bool.false_eq_true] at h <;> exact ⟨rfl, rfl, fun _ => rfl⟩
  | succ n ih =>
    intro x h
    cases x <;> simp only [flatN, Bool.false_eq_true] at h <;> first | exact ⟨rfl, rfl, fun _ => rfl⟩ | exact list n ih _ h | skip
    all_goals
      split at h <;> first | (cases h; done) | skip
      obtain ⟨a1, a2, -⟩ := list n ih _ h
      exact ⟨a1, by simp only [AV.allR, Bool.true_and]; exact a2, fun hq => (by cases hq)⟩

/-! ### What a function hands back -/
def exOk (m0 : Nat) (sg : List (Nat × Nat)) (hl : List Blk) (x : AV) : Bool :=
  decide (m0 ≤ hl.length) && (sg.all fun q => decide (m0 ≤ q.1) && (match hget hl q.1 with | .row _ g _ _ _ => g == q.2 | .dead => false)) && Nodups (sg.map Prod.fst) && ((hl.take m0).all fun b => b.allR (sigP m0 sg) true) &&
    (sg.all fun q => (hget hl q.1).allR (sigP m0 sg) true) && x.allR (sigP m0 sg) true

theorem nodups_nodup : ∀ (l : List Nat), Nodups l = true → l.Nodup := by
  intro l
  induction l with
  | nil => intro _; exact List.nodup_nil
  | cons a l ih =>
    intro h
    simp only [Nodups, Bool.and_eq_true, Bool.not_eq_true', List.contains_eq_mem, decide_eq_false_iff_not] at h
    exact List.nodup_cons.2 ⟨h.1, ih h.2⟩

theorem exOk_spec {m0 : Nat} {sg : List (Nat × Nat)} {hl : List Blk} {x : AV} (h : exOk m0 sg hl x = true) : Exports m0 sg hl x := by
  simp only [exOk, Bool.and_eq_true, decide_eq_true_eq, List.all_eq_true] at h
  obtain ⟨⟨⟨⟨⟨h1, h2⟩, h3⟩, h4⟩, h5⟩, h6⟩ := h
  refine ⟨h1, fun q hq => ⟨(h2 q hq).1, ?_⟩, nodups_nodup _ h3, h4, h5, h6⟩
  have := (h2 q hq).2
  split at this
  · rename_i hb; rw [hb]; simp only [beq_iff_eq] at this; simp [rowGen, this]
  · cases this

def xFin (rvs : List RV) (m0 : Nat) (s : St) : Option (AV × List Blk) := match resRV s.al s.hl rvs with
  | none => none
  | some xs => match Nat.beq m0 0 && flatN true 5 (tupAV xs) with
   | true => some (tupAV xs, [])
   | false =>
    let x := tupAV xs
    let sg := reach s.hl m0 (s.hl.length * 8 + 64) (x.refs ((s.hl.take m0).flatMap Blk.refs)) []
    if exOk m0 sg s.hl x = true then some (x.mapR (sigF m0 sg), exHl m0 sg s.hl) else none

theorem xFin_spec {rvs : List RV} {m0 : Nat} {s : St} {r : AV} {hl' : List Blk} (h : xFin rvs m0 s = some (r, hl')) {e : Exit} (he : e = .normal ∨ e = .ret) : finK rvs m0 r hl' e s := by
  unfold xFin at h
  split at h <;> first | (cases h; done) | skip
  rename_i xs hxs
  simp only at h
  split at h
  · rename_i hf
    simp only [Bool.and_eq_true] at hf
    obtain rfl := Nat.eq_of_beq_eq_true hf.1
    simp only [Option.some.injEq, Prod.mk.injEq] at h
    obtain ⟨rfl, rfl⟩ := h
    exact finK_pure he hxs rfl (flatN_spec 5 _ hf.2).2.1
  · split at h <;> first | (cases h; done) | skip
    rename_i hok
    simp only [Option.some.injEq, Prod.mk.injEq] at h
    exact ⟨he, xs, _, hxs, exOk_spec hok, h.1, h.2⟩

/-! ### Calls -/
abbrev XC := FuncId → List AV → List Blk → Option (AV × List Blk)
def XC.Ok (P : Program) (cx : XC) : Prop := ∀ f args hl r hl', cx f args hl = some (r, hl') → CallsF P f args hl r hl'

def tau (names : List Nat) (b : Nat) : Nat := names.findIdx (· == b)

mutual
theorem ren_back {σ τ : Nat → Nat} {p : Nat → Bool} (hp : ∀ b, p b = true → σ (τ b) = b) : ∀ (x : AV), x.allR (fun b _ => p b) true = true → (x.ren τ).ren σ = x
  | .agg cs, h => by simp only [AV.ren]; rw [renL_back hp cs h]
  | .tup cs, h => by simp only [AV.ren]; rw [renL_back hp cs h]
  | .sv _ _ cs, h => by simp only [AV.allR, Bool.true_and] at h; simp only [AV.ren]; rw [renL_back hp cs h]
  | .rp _ cs, h => by simp only [AV.allR, Bool.true_and] at h; simp only [AV.ren]; rw [renL_back hp cs h]
  | .clo _ cs, h => by simp only [AV.ren]; rw [renL_back hp cs h]
  | .sl b _ _ _, h => by simp only [AV.ren]; rw [hp b h]
  | .ptr b _ _ _, h => by simp only [AV.ren]; rw [hp b h]
  | .yld, h => rfl
  | .int _ _, _ => rfl
  | .bool _, _ => rfl
  | .str _, _ => rfl
  | .nilp, _ => rfl
  | .nilf, _ => rfl
  | .nili, _ => rfl
  | .nils, _ => rfl
  | .und, _ => rfl
theorem renL_back {σ τ : Nat → Nat} {p : Nat → Bool} (hp : ∀ b, p b = true → σ (τ b) = b) : ∀ (l : List AV), allRL (fun b _ => p b) true l = true → renL σ (renL τ l) = l
  | [], _ => rfl
  | x :: xs, h => by
    simp only [allRL, Bool.and_eq_true] at h
    simp only [renL]
    rw [ren_back hp x h.1, renL_back hp xs h.2]
end

theorem blkren_back {σ τ : Nat → Nat} {p : Nat → Bool} (hp : ∀ b, p b = true → σ (τ b) = b) (x : Blk) (h : x.allR (fun b _ => p b) true = true) : (x.ren τ).ren σ = x := by
  cases x with
  | dead => rfl
  | row nil g frz sz xs => simp only [Blk.ren]; rw [renL_back hp xs h]

def optL {α β : Type} (f : α → Option β) : List α → Option (List β)
  | [] => some []
  | x :: xs => match f x with
    | none => none
    | some y => match optL f xs with
      | none => none
      | some ys => some (y :: ys)

theorem optL_spec {α β : Type} {f : α → Option β} : ∀ (l : List α) (ys : List β), optL f l = some ys → ys.length = l.length ∧ ∀ (i : Nat) (y : β), ys[i]? = some y → ∃ x, l[i]? = some x ∧ f x = some y := by
  intro l
  induction l with
  | nil => intro ys h; simp only [optL, Option.some.injEq] at h; subst h; exact ⟨rfl, fun i y hy => by simp at hy⟩
  | cons x l ih =>
    intro ys h
    simp only [optL] at h
    split at h <;> first | (cases h; done) | skip
    rename_i y hy
    split at h <;> first | (cases h; done) | skip
    rename_i zs hz
    simp only [Option.some.injEq] at h; subst h
    obtain ⟨h1, h2⟩ := ih zs hz
    refine ⟨by simp [h1], fun i z hzz => ?_⟩
    cases i with
    | zero => simp only [List.getElem?_cons_zero, Option.some.injEq] at hzz; subst hzz; exact ⟨x, rfl, hy⟩
    | succ i => exact h2 i z (by simpa using hzz)

def catT : List (AV × List Nat) → List Nat
  | [] => []
  | y :: ys => y.2 ++ catT ys
theorem mem_catT : ∀ {ys : List (AV × List Nat)} {y : AV × List Nat}, y ∈ ys → ∀ b ∈ y.2, b ∈ catT ys := by
  intro ys
  induction ys with
  | nil => intro y h; cases h
  | cons z ys ih =>
    intro y h b hb
    simp only [catT, List.mem_append]
    rcases List.mem_cons.1 h with rfl | h
    · exact .inl hb
    · exact .inr (ih h b hb)

/-- Own rows, looked at. -/
def viewG (hl : List Blk) : Nat → AV → Option (AV × List Nat)
  | 0, _ => none
  | n + 1, x => match flatN true 5 x with
   | true => some (x, [])
   | false => if x.lt 0 = true then some (x, []) else match x with
    | .sl b g i k => match hget hl b with
      | .row _ g' _ sz XS => if g' = g ∧ i + k ≤ XS.length then
          match optL (viewG hl n) ((XS.drop i).take k) with
          | some ys => if (ys.all fun y => Nat.beq y.1.cells.length sz) = true then some (.sv false sz (ys.map Prod.fst), b :: catT ys) else none
          | none => none
        else none
      | .dead => none
    | .ptr b g i o => match hget hl b with
      | .row _ g' _ _ XS => if g' = g then match XS[i]? with
          | some e => match optL (viewG hl n) (e.cells.drop o) with
            | some ys => some (.rp true (ys.map Prod.fst), b :: catT ys)
            | none => none
          | none => none
        else none
      | .dead => none
    | .agg cs => match optL (viewG hl n) cs with
      | some ys => some (.agg (ys.map Prod.fst), catT ys)
      | none => none
    | .clo f cs => match optL (viewG hl n) cs with
      | some ys => some (.clo f (ys.map Prod.fst), catT ys)
      | none => none
    | _ => none

theorem viewG_sound {hl : List Blk} : ∀ (n : Nat) (x y : AV) (T0 : List Nat), viewG hl n x = some (y, T0) → ∀ (T names : List Nat), (∀ b ∈ T0, b ∈ T) → (∀ b ∈ T0, b ∉ names) →
    ArgView true (hget hl) T names x y ∧ ∀ (j : Nat) (z : AV), y.cells[j]? = some z → ∃ Z, x.cells[j]? = some Z ∧ ArgView true (hget hl) T names Z z := by
  intro n
  induction n with
  | zero => intro x y T0 h; simp [viewG] at h
  | succ n ih =>
    intro x y T0 h T names hT hN
    simp only [viewG] at h
    split at h
    · rename_i hf
      have hlt := (flatN_spec 5 _ hf).1
      simp only [Option.some.injEq, Prod.mk.injEq] at h
      obtain ⟨rfl, rfl⟩ := h
      exact ⟨.plain hlt, fun j z hz => ⟨z, hz, .plain (mem_cells hlt (List.mem_of_getElem? hz))⟩⟩
    split at h
    · rename_i hlt
      simp only [Option.some.injEq, Prod.mk.injEq] at h
      obtain ⟨rfl, rfl⟩ := h
      exact ⟨.plain hlt, fun j z hz => ⟨z, hz, .plain (mem_cells hlt (List.mem_of_getElem? hz))⟩⟩
    · have one : ∀ {x y : AV}, x.cells = [x] → y.cells = [y] → ArgView true (hget hl) T names x y → ArgView true (hget hl) T names x y ∧ ∀ (j : Nat) (z : AV), y.cells[j]? = some z → ∃ Z, x.cells[j]? = some Z ∧ ArgView true (hget hl) T names Z z := fun {x y} h1 h2 h3 => ⟨h3, fun j z hz => by
        rw [h2] at hz; rw [h1]
        cases j with
        | zero => simp only [List.getElem?_cons_zero, Option.some.injEq] at hz; subst hz; exact ⟨x, rfl, h3⟩
        | succ j => simp at hz⟩
      split at h <;> first | (cases h; done) | skip
      · rename_i b g i k _ hnl
        split at h <;> first | (cases h; done) | skip
        rename_i nil g' frz sz XS hb
        split at h <;> first | (cases h; done) | skip
        rename_i hcond
        obtain ⟨rfl, hfit⟩ := hcond
        split at h <;> first | (cases h; done) | skip
        rename_i ys hys
        split at h <;> first | (cases h; done) | skip
        rename_i hsz
        simp only [Option.some.injEq, Prod.mk.injEq] at h
        obtain ⟨rfl, rfl⟩ := h
        obtain ⟨hlen, hel⟩ := optL_spec _ _ hys
        refine one rfl rfl (ArgView.sl hb (hT b (by simp)) (hN b (by simp)) (by rw [List.length_map, hlen]; simp; omega) (fun e he => ?_) fun k' j z hz => ?_)
        · obtain ⟨p, hp, rfl⟩ := List.mem_map.1 he
          exact Nat.eq_of_beq_eq_true (List.all_eq_true.1 hsz p hp)
        · unfold cellAt at hz
          rw [List.getElem?_map] at hz
          cases hq : ys[k']? with
          | none => simp [hq] at hz
          | some p =>
            simp only [hq, Option.map_some, Option.bind_some] at hz
            obtain ⟨e, he, hv⟩ := hel k' p hq
            obtain ⟨-, h2⟩ := ih e p.1 p.2 hv T names (fun b' hb' => hT b' (by simp [mem_catT (List.mem_of_getElem? hq) b' hb'])) (fun b' hb' => hN b' (by simp [mem_catT (List.mem_of_getElem? hq) b' hb']))
            obtain ⟨Z, hZ, hv2⟩ := h2 j z hz
            rw [List.getElem?_take] at he
            split at he <;> first | (cases he; done) | skip
            rw [List.getElem?_drop] at he
            exact ⟨Z, by simp only [cellAt, he, Option.bind_some, hZ], hv2⟩
      · rename_i b g i o _ hnl
        split at h <;> first | (cases h; done) | skip
        rename_i nil g' frz sz XS hb
        split at h <;> first | (cases h; done) | skip
        rename_i hg
        subst hg
        split at h <;> first | (cases h; done) | skip
        rename_i e he
        split at h <;> first | (cases h; done) | skip
        rename_i ys hys
        simp only [Option.some.injEq, Prod.mk.injEq] at h
        obtain ⟨rfl, rfl⟩ := h
        obtain ⟨hlen, hel⟩ := optL_spec _ _ hys
        refine one rfl rfl (ArgView.ptr hb (hT b (by simp)) (hN b (by simp)) fun j z hz => ?_)
        rw [List.getElem?_map] at hz
        cases hq : ys[j]? with
        | none => simp [hq] at hz
        | some p =>
          simp only [hq, Option.map_some, Option.some.injEq] at hz
          subst hz
          obtain ⟨Z, hZ, hv⟩ := hel j p hq
          rw [List.getElem?_drop] at hZ
          exact ⟨Z, by simp only [cellAt, he, Option.bind_some, hZ], (ih Z p.1 p.2 hv T names (fun b' hb' => hT b' (by simp [mem_catT (List.mem_of_getElem? hq) b' hb'])) (fun b' hb' => hN b' (by simp [mem_catT (List.mem_of_getElem? hq) b' hb']))).1⟩
      · rename_i cs _ hnl
        split at h <;> first | (cases h; done) | skip
        rename_i ys hys
        simp only [Option.some.injEq, Prod.mk.injEq] at h
        obtain ⟨rfl, rfl⟩ := h
        obtain ⟨hlen, hel⟩ := optL_spec _ _ hys
        have key : ∀ (j : Nat) (z : AV), (ys.map Prod.fst)[j]? = some z → ∃ Z, cs[j]? = some Z ∧ ArgView true (hget hl) T names Z z := fun j z hz => by
          rw [List.getElem?_map] at hz
          cases hq : ys[j]? with
          | none => simp [hq] at hz
          | some p =>
            simp only [hq, Option.map_some, Option.some.injEq] at hz
            subst hz
            obtain ⟨Z, hZ, hv⟩ := hel j p hq
            exact ⟨Z, hZ, (ih Z p.1 p.2 hv T names (fun b' hb' => hT b' (mem_catT (List.mem_of_getElem? hq) b' hb')) (fun b' hb' => hN b' (mem_catT (List.mem_of_getElem? hq) b' hb'))).1⟩
        refine ⟨ArgView.agg (by simp [hlen]) fun i Y y hY hy => ?_, key⟩
        obtain ⟨Z, hZ, hv⟩ := key i y hy
        rw [hY] at hZ; cases hZ; exact hv
      · rename_i f cs _ hnl
        split at h <;> first | (cases h; done) | skip
        rename_i ys hys
        simp only [Option.some.injEq, Prod.mk.injEq] at h
        obtain ⟨rfl, rfl⟩ := h
        obtain ⟨hlen, hel⟩ := optL_spec _ _ hys
        refine one rfl rfl (ArgView.clo (by simp [hlen]) fun i Y y hY hy => ?_)
        rw [List.getElem?_map] at hy
        cases hq : ys[i]? with
        | none => simp [hq] at hy
        | some p =>
          simp only [hq, Option.map_some, Option.some.injEq] at hy
          subst hy
          obtain ⟨Z, hZ, hv⟩ := hel i p hq
          rw [hY] at hZ; cases hZ
          exact (ih Y p.1 p.2 hv T names (fun b' hb' => hT b' (mem_catT (List.mem_of_getElem? hq) b' hb')) (fun b' hb' => hN b' (mem_catT (List.mem_of_getElem? hq) b' hb'))).1

/-- Numbers from n on. -/
def upFrom : Nat → Nat → List Nat
  | _, 0 => []
  | n, k + 1 => n :: upFrom (n + 1) k
theorem mem_upFrom : ∀ (k n b : Nat), n ≤ b → b < n + k → b ∈ upFrom n k := by
  intro k
  induction k with
  | zero => intro n b h1 h2; omega
  | succ k ih =>
    intro n b h1 h2
    simp only [upFrom, List.mem_cons]
    by_cases h : b = n
    · exact .inl h
    · exact .inr (ih (n + 1) b (by omega) (by omega))

structure CRes where
  T : List Nat
  r : AV
  W : List (Nat × Blk)

def viewArgs (hl : List Blk) : List AV → Option (List AV × List Nat)
  | [] => some ([], [])
  | x :: xs => match viewG hl 6 x, viewArgs hl xs with
    | some (y, T), some (ys, T') => some (y :: ys, T ++ T')
    | _, _ => none

theorem viewArgs_spec {hl : List Blk} : ∀ (X args : List AV) (T0 : List Nat), viewArgs hl X = some (args, T0) → X.length = args.length ∧ ∀ (i : Nat) (Y y : AV), X[i]? = some Y → args[i]? = some y → ∀ (T : List Nat), (∀ b ∈ T0, b ∈ T) → ArgView true (hget hl) T [] Y y := by
  intro X
  induction X with
  | nil => intro args T0 h; simp only [viewArgs, Option.some.injEq, Prod.mk.injEq] at h; obtain ⟨rfl, rfl⟩ := h; exact ⟨rfl, fun i Y y h => by simp at h⟩
  | cons x X ih =>
    intro args T0 h
    simp only [viewArgs] at h
    split at h <;> first | (cases h; done) | skip
    rename_i y T ys T' h1 h2
    simp only [Option.some.injEq, Prod.mk.injEq] at h
    obtain ⟨rfl, rfl⟩ := h
    obtain ⟨h3, h4⟩ := ih ys T' h2
    refine ⟨by simp [h3], fun i Y z hY hz T'' hT => ?_⟩
    cases i with
    | zero =>
      simp only [List.getElem?_cons_zero, Option.some.injEq] at hY hz
      subst hY hz
      exact (viewG_sound 6 _ _ T h1 T'' [] (fun b hb => hT b (by simp [hb])) (fun b _ => by simp)).1
    | succ i => exact h4 i Y z (by simpa using hY) (by simpa using hz) T'' (fun b hb => hT b (by simp [hb]))

/-- A call: nm: are rows handed over as such? -/
def xCall (cx : XC) (nm : FuncId → Bool) (f : FuncId) (X : List AV) (hl : List Blk) : Option CRes :=
  if nm f = true then
    let names := (reach hl 0 (hl.length * 8 + 64) (refsL X []) []).map Prod.fst
    let τ := tau names
    let p : Nat → Nat → Bool := fun b _ => natIn b names
    let args := renL τ X
    let hs := names.map fun b => (hget hl b).ren τ
    if (allRL p true X && (names.all fun b => (hget hl b).allR p true && Nat.blt b hl.length) && Nodups names && hs.all fun b => b.lt hs.length) = true then
      match cx f args hs with
      | some (r, hr) => if Nat.ble hs.length hr.length = true then
          let W := frW (sigma names hl.length) 0 hr
          let T := names ++ upFrom hl.length (hr.length - hs.length)
          if (okW hl.length W && W.all (fun p => T.contains p.1)) = true then some ⟨T, r.ren (sigma names hl.length), W⟩ else none
        else none
      | none => none
    else none
  else match viewArgs hl X with
    | some (args, T0) => match cx f args [] with
      | some (r, hr) => match hr, flatN false 5 r with
       | [], true => some ⟨T0, r, []⟩
       | hr, _ => if (r.clean && hr.all Blk.clean) = true then
          let W := frW (sigma [] hl.length) 0 hr
          let T := T0 ++ upFrom hl.length hr.length
          if (okW hl.length W && W.all (fun p => T.contains p.1)) = true then some ⟨T, r.ren (sigma [] hl.length), W⟩ else none
        else none
      | none => none
    | none => none

theorem natIn_iff {k : Nat} : ∀ {l : List Nat}, natIn k l = true ↔ k ∈ l := by
  intro l
  induction l with
  | nil => simp [natIn]
  | cons a l ih =>
    simp only [natIn, Bool.or_eq_true, ih, List.mem_cons]
    constructor
    · rintro (h | h)
      · exact .inl (Nat.eq_of_beq_eq_true h).symm
      · exact .inr h
    · rintro (rfl | h)
      · exact .inl (Nat.beq_refl k)
      · exact .inr h

theorem sigma_tau {names : List Nat} {n b : Nat} (h : b ∈ names) : sigma names n (tau names b) = b := by
  unfold sigma tau
  have hlt : names.findIdx (· == b) < names.length := List.findIdx_lt_length_of_exists ⟨b, h, by simp⟩
  have := List.findIdx_getElem (p := (· == b)) (w := hlt)
  rw [List.getElem?_eq_getElem hlt]
  simpa using this

theorem xCall_sound {P : Program} {cx : XC} (hcx : cx.Ok P) {nm : FuncId → Bool} {f : FuncId} {X : List AV} {hl : List Blk} {q : CRes} (h : xCall cx nm f X hl = some q) :
    CallsL P f X (hget hl) q.T q.r q.W ∧ (okW hl.length q.W && q.W.all (fun p => q.T.contains p.1)) = true := by
  unfold xCall at h
  split at h
  · obtain ⟨names, hnames⟩ : ∃ names, names = (reach hl 0 (hl.length * 8 + 64) (refsL X []) []).map Prod.fst := ⟨_, rfl⟩
    simp only [← hnames] at h
    split at h <;> first | (cases h; done) | skip
    rename_i hcond
    simp only [Bool.and_eq_true, List.all_eq_true] at hcond
    obtain ⟨⟨⟨h1, h2⟩, h3⟩, h4⟩ := hcond
    split at h <;> first | (cases h; done) | skip
    rename_i r hr hrun
    split at h <;> first | (cases h; done) | skip
    rename_i hle
    split at h <;> first | (cases h; done) | skip
    rename_i hok
    simp only [Option.some.injEq] at h; subst h
    refine ⟨?_, hok⟩
    have hp : ∀ b, natIn b names = true → sigma names hl.length (tau names b) = b := fun b hb => sigma_tau (natIn_iff.1 hb)
    have hback : renL (sigma names hl.length) (renL (tau names) X) = X := renL_back (p := fun b => natIn b names) hp X h1
    have hlen : (names.map fun b => (hget hl b).ren (tau names)).length = names.length := by simp
    refine CallsF.frame false (hcx _ _ _ _ _ hrun) (n := hl.length) ⟨hlen.symm, Nat.le_of_ble_eq_true hle, nodups_nodup _ h3, fun x hx => ?_, fun i x hx => ?_, fun b hb _ => hget_dead _ _ hb, h4⟩ (fun x hx => List.mem_append_left _ hx) (fun b hb1 hb2 => List.mem_append_right _ (mem_upFrom _ _ _ hb1 hb2)) ?_ (fun i Y y hY hy => ?_) (fun hf => (by cases hf))
    · exact Nat.le_of_ble_eq_true (h2 x hx).2
    · have hi : (hget (names.map fun b => (hget hl b).ren (tau names)) i) = (hget hl x).ren (tau names) := by simp [hget, hx]
      rw [hi]
      exact (blkren_back (p := fun b => natIn b names) hp _ (h2 x (List.mem_of_getElem? hx)).1).symm
    · rw [renL_eq]; simp
    · have hY2 : Y = y.ren (sigma names hl.length) := by
        have : (renL (sigma names hl.length) (renL (tau names) X))[i]? = some (y.ren (sigma names hl.length)) := by rw [renL_eq, List.getElem?_map, hy]; rfl
        rw [hback, hY] at this
        exact Option.some.inj this
      subst hY2
      refine ArgView.same ?_
      -- what is renamed lies below the names
      have hlt : ∀ (x : AV), x.allR (fun b _ => natIn b names) true = true → (x.ren (tau names)).lt names.length = true := by
        intro x
        refine AV.rec (motive_1 := fun x => x.allR (fun b _ => natIn b names) true = true → (x.ren (tau names)).lt names.length = true) (motive_2 := fun l => allRL (fun b _ => natIn b names) true l = true → ltL names.length (renL (tau names) l) = true)
          ?_ ?_ ?_ ?_ ?_ ?_ ?_ ?_ ?_ ?_ ?_ ?_ ?_ ?_ ?_ ?_ ?_ ?_ x
        all_goals first
          | (intros; rfl)
          | (intro cs ih hx; exact ih hx)
          | (intro a b cs ih hx; simp only [AV.allR, Bool.true_and] at hx; exact ih hx)
          | (intro a cs ih hx; simp only [AV.allR, Bool.true_and] at hx; exact ih hx)
          | (intro b g i n hx; simp only [AV.ren, AV.lt, decide_eq_true_eq]; exact List.findIdx_lt_length_of_exists ⟨b, natIn_iff.1 hx, by simp⟩)
          | (intro hx; simp [AV.allR] at hx)
          | (intro x xs ih1 ih2 hx; simp only [allRL, Bool.and_eq_true] at hx; simp only [renL, ltL, Bool.and_eq_true]; exact ⟨ih1 hx.1, ih2 hx.2⟩)
      rw [renL_eq, List.getElem?_map] at hy
      cases hq : X[i]? with
      | none => simp [hq] at hy
      | some x =>
        simp only [hq, Option.map_some, Option.some.injEq] at hy
        subst hy
        exact hlt x (allRL_mem h1 (List.mem_of_getElem? hq))
  · split at h <;> first | (cases h; done) | skip
    rename_i args T0 hv
    split at h <;> first | (cases h; done) | skip
    rename_i r hr hrun
    obtain ⟨h1, h2⟩ := viewArgs_spec _ _ _ hv
    split at h
    · rename_i hf
      simp only [Option.some.injEq] at h; subst h
      obtain ⟨f1, f2, f3⟩ := flatN_spec 5 _ hf
      refine ⟨?_, rfl⟩
      have := CallsF.frame true (hcx _ _ _ _ _ hrun) (h := hget hl) (T := T0) (names := []) (n := hl.length) ⟨rfl, Nat.le_refl _, List.nodup_nil, fun x hx => (by cases hx), fun i x hx => (by simp at hx), fun b hb1 hb2 => (by simp at hb2; omega), fun b hb => (by cases hb)⟩ (fun x hx => (by cases hx))
        (fun b hb1 hb2 => (by simp at hb2; omega)) h1 (fun i Y y hY hy => h2 i Y y hY hy _ (fun b hb => hb)) (fun _ => ⟨f3 rfl, fun b hb => (by cases hb)⟩)
      rw [ren_id _ f1] at this
      exact this
    split at h <;> first | (cases h; done) | skip
    rename_i hclean
    simp only [] at h
    split at h <;> first | (cases h; done) | skip
    rename_i hok
    simp only [Option.some.injEq] at h; subst h
    refine ⟨?_, hok⟩
    simp only [Bool.and_eq_true, List.all_eq_true] at hclean
    exact CallsF.frame true (hcx _ _ _ _ _ hrun) (names := []) (n := hl.length) ⟨rfl, Nat.zero_le _, List.nodup_nil, fun x hx => (by cases hx), fun i x hx => (by simp at hx), fun b hb _ => hget_dead _ _ hb, fun b hb => (by cases hb)⟩ (fun x hx => (by cases hx))
      (fun b hb1 hb2 => List.mem_append_right _ (mem_upFrom _ _ _ hb1 hb2)) h1 (fun i Y y hY hy => h2 i Y y hY hy _ (fun b hb => List.mem_append_left _ hb)) (fun _ => hclean)

end Go.Am
end

section
set_option linter.unusedSimpArgs false
set_option linter.unusedVariables false
namespace Go.Am
open Go Go.RowKit

abbrev Tr := List (List Nat × List Nat × Nat)

def xOps (cx : XC) (nm : FuncId → Bool) : List COp → List (Nat × AV) → List Blk → Tr → Option (St × Tr)
  | [], al, hl, tr => some (⟨al, hl⟩, tr)
  | c :: cs, al, hl, tr => match wantedAV (get al) c.guard with
    | none => none
    | some false => xOps cx nm cs (setO al c.dst (.tup [])) hl (([], [], c.bef) :: tr)
    | some true => match c.op with
      | .call f xs => match f.ev (get al) with
        | .clo fid caps => match xCall cx nm fid (xs.map (·.ev (get al)) ++ caps) hl with
          | some q => xOps cx nm cs (setO al c.dst q.r) (hsetL hl q.W) ((q.T, q.W.map Prod.fst, c.bef) :: tr)
          | none => none
        | _ => none
      | op => match aop op (get al) (hget hl) hl.length with
        | none => none
        | some r => xOps cx nm cs (setO al c.dst r.v) (hsetL hl r.ups) ((op.touch (get al) ++ r.ups.map Prod.fst, r.ups.map Prod.fst, c.bef) :: tr)

theorem xOps_sound {P : Program} {cx : XC} (hcx : cx.Ok P) {nm : FuncId → Bool} : ∀ (cs : List COp) (al : List (Nat × AV)) (hl : List Blk) (tr : Tr) (s' : St) (tr' : Tr), xOps cx nm cs al hl tr = some (s', tr') → ∀ (K : St → Tr → Prop), K s' tr'.reverse → RunOps P cs al hl tr K := by
  intro cs
  induction cs with
  | nil =>
    intro al hl tr s' tr' h K hK
    simp only [xOps, Option.some.injEq, Prod.mk.injEq] at h
    obtain ⟨rfl, rfl⟩ := h
    exact hK
  | cons c cs ih =>
    intro al hl tr s' tr' h K hK
    simp only [xOps] at h
    simp only [RunOps]
    split at h
    · cases h
    · rename_i hw
      simp only [hw]
      exact ih _ _ _ _ _ h K hK
    · rename_i hw
      simp only [hw]
      split at h
      · rename_i f xs hop
        simp only [hop]
        split at h <;> first | (cases h; done) | skip
        rename_i fid caps hf
        split at h <;> first | (cases h; done) | skip
        rename_i q hq
        obtain ⟨h1, h2⟩ := xCall_sound hcx hq
        exact ⟨fid, caps, q.T, q.r, q.W, hf, h1, h2, ih _ _ _ _ _ h K hK⟩
      · rename_i hnc
        split at h
        · cases h
        · rename_i r hr
          have := ih _ _ _ _ _ h K hK
          split
          · rename_i f xs hop
            exact absurd hop (hnc f xs)
          · rw [hr]; exact this

abbrev XH := List AV → List Blk → Option (Option Exit × List Blk)
def XH.Ok (hx : XH) (Y : Hdl) : Prop := ∀ vs hl res hl', hx vs hl = some (res, hl') → ∀ Kont : Option Exit → List Blk → Prop, Kont res hl' → Y vs hl Kont

def xRunY (cx : XC) (nm : FuncId → Bool) (hx : XH) : List COp → List (Nat × AV) → List Blk → Option Exit → Option (St × Option Exit)
  | [], al, hl, st => some (⟨al, hl⟩, st)
  | c :: cs, al, hl, st => match wantedAV (get al) c.guard with
    | none => none
    | some false => xRunY cx nm hx cs (setO al c.dst (.tup [])) hl st
    | some true => match c.op with
      | .call f xs => match f.ev (get al) with
        | .yld => match st with
          | none => match hx (xs.map (·.ev (get al))) hl with
            | some (res, hl') => xRunY cx nm hx cs (setO al c.dst (.bool res.isNone)) hl' res
            | none => none
          | some _ => none
        | .clo fid caps => match xCall cx nm fid (xs.map (·.ev (get al)) ++ caps) hl with
          | some q => xRunY cx nm hx cs (setO al c.dst q.r) (hsetL hl q.W) st
          | none => none
        | _ => none
      | op => match aop op (get al) (hget hl) hl.length with
        | none => none
        | some r => xRunY cx nm hx cs (setO al c.dst r.v) (hsetL hl r.ups) st

theorem xRunY_sound {P : Program} {cx : XC} (hcx : cx.Ok P) {nm : FuncId → Bool} {hx : XH} {Y : Hdl} (hY : hx.Ok Y) : ∀ (cs : List COp) (al : List (Nat × AV)) (hl : List Blk) (st : Option Exit) (s' : St) (st' : Option Exit), xRunY cx nm hx cs al hl st = some (s', st') → ∀ (K : St → Option Exit → Prop), K s' st' → RunY P Y cs al hl st K := by
  intro cs
  induction cs with
  | nil =>
    intro al hl st s' st' h K hK
    simp only [xRunY, Option.some.injEq, Prod.mk.injEq] at h
    obtain ⟨rfl, rfl⟩ := h
    exact hK
  | cons c cs ih =>
    intro al hl st s' st' h K hK
    simp only [xRunY] at h
    simp only [RunY]
    split at h
    · cases h
    · rename_i hw
      simp only [hw]
      exact ih _ _ _ _ _ h K hK
    · rename_i hw
      simp only [hw]
      split at h
      · rename_i f xs hop
        simp only [hop]
        split at h <;> first | (cases h; done) | skip
        · rename_i hf
          split at h <;> first | (cases h; done) | skip
          split at h <;> first | (cases h; done) | skip
          rename_i res hl' hr
          exact .inl ⟨hf, rfl, hY _ _ _ _ hr _ (ih _ _ _ _ _ h K hK)⟩
        · rename_i fid caps hf
          split at h <;> first | (cases h; done) | skip
          rename_i q hq
          obtain ⟨h1, h2⟩ := xCall_sound hcx hq
          exact .inr ⟨fid, caps, q.T, q.r, q.W, hf, h1, h2, ih _ _ _ _ _ h K hK⟩
      · rename_i hnc
        split at h
        · cases h
        · rename_i r hr
          have := ih _ _ _ _ _ h K hK
          split
          · rename_i f xs hop
            exact absurd hop (hnc f xs)
          · rw [hr]; exact this

def iterX {σ : Type} (step : σ → Option (Exit × σ)) : Nat → σ → Option (Exit × σ)
  | 0, _ => none
  | n + 1, s => match step s with
    | none => none
    | some (e, s') => match e with
      | .normal => iterX step n s'
      | e => some (e, s')

def yAt : List COp → Nat
  | [] => 0
  | c :: cs => match c.op with
    | .call (.t _) _ => 0
    | _ => yAt cs + 1

/-- An iterator's code. -/
def xYC (cx : XC) (nm : FuncId → Bool) (hx : XH) (n : Nat) : CCode → St × Option Exit → Option (Exit × St × Option Exit)
  | .skip, s => some (.normal, s)
  | .region draw ops, s => match draw with
    | true => match Nat.ble (yAt ops) ops.length && fullFrom (yAt ops) ops with
      | true => match xOps cx nm (ops.take (yAt ops)) s.1.al s.1.hl [] with
        | some (s', tr) => match blkOk 0 tr.reverse with
          | true => match xRunY cx nm hx (ops.drop (yAt ops)) s'.al s'.hl s.2 with
            | some q => some (.normal, q)
            | none => none
          | false => none
        | none => none
      | false => none
    | false => match xRunY cx nm hx ops s.1.al s.1.hl s.2 with
      | some q => some (.normal, q)
      | none => none
  | .seq x y, s => match xYC cx nm hx n x s with
    | none => none
    | some (e, s') => match e with
      | .normal => xYC cx nm hx n y s'
      | e => some (e, s')
  | .cond c x y, s => match c.ev (get s.1.al) with
    | .bool true => xYC cx nm hx n x s
    | .bool false => xYC cx nm hx n y s
    | _ => none
  | .block id c, s => match xYC cx nm hx n c s with
    | some (.exit id', s') => if id' = id then some (.normal, s') else some (.exit id', s')
    | r => r
  | .loop c, s => iterX (xYC cx nm hx n c) n s
  | .rangeF _ _ _ _, _ => none
  | .exit id, s => some (.exit id, s)
  | .ret, s => some (.ret, s)

theorem iterY_sound {W : St → Option Exit → (Exit → St → Option Exit → Prop) → Prop} {step : St × Option Exit → Option (Exit × St × Option Exit)} (hW : ∀ s e s', step s = some (e, s') → ∀ K : Exit → St → Option Exit → Prop, K e s'.1 s'.2 → W s.1 s.2 K) :
    ∀ (n : Nat) (s : St × Option Exit) (e : Exit) (s' : St × Option Exit), iterX step n s = some (e, s') → ∀ K : Exit → St → Option Exit → Prop, K e s'.1 s'.2 → YLoop W s.1 s.2 K := by
  intro n
  induction n with
  | zero => intro s e s' h; simp [iterX] at h
  | succ n ih =>
    intro s e s' h K hK X hX
    simp only [iterX] at h
    split at h
    · cases h
    · rename_i e1 s1 hs
      split at h
      · exact hX _ _ (hW _ _ _ hs _ (ih _ _ _ h K hK X hX))
      · rename_i hne
        simp only [Option.some.injEq, Prod.mk.injEq] at h
        obtain ⟨rfl, rfl⟩ := h
        refine hX _ _ (hW _ _ _ hs _ ?_)
        cases e1 <;> first | exact hK | exact absurd rfl hne

theorem xYC_sound {P : Program} {cx : XC} (hcx : cx.Ok P) {nm : FuncId → Bool} {hx : XH} {Y : Hdl} (hY : hx.Ok Y) {n m0 : Nat} : ∀ (c : CCode) (s : St × Option Exit) (e : Exit) (s' : St × Option Exit), xYC cx nm hx n c s = some (e, s') → ∀ K : Exit → St → Option Exit → Prop, K e s'.1 s'.2 → YWp P m0 Y c s.1 s.2 K := by
  intro c
  induction c with
  | skip => intro s e s' h K hK; simp only [xYC, Option.some.injEq, Prod.mk.injEq] at h; obtain ⟨rfl, rfl⟩ := h; exact hK
  | exit id => intro s e s' h K hK; simp only [xYC, Option.some.injEq, Prod.mk.injEq] at h; obtain ⟨rfl, rfl⟩ := h; exact hK
  | ret => intro s e s' h K hK; simp only [xYC, Option.some.injEq, Prod.mk.injEq] at h; obtain ⟨rfl, rfl⟩ := h; exact hK
  | rangeF => intro s e s' h; simp [xYC] at h
  | region draw ops =>
    intro s e s' h K hK
    simp only [xYC] at h
    simp only [YWp]
    cases draw with
    | true =>
      simp only at h
      split at h <;> first | (cases h; done) | skip
      rename_i hq
      simp only [Bool.and_eq_true] at hq
      split at h <;> first | (cases h; done) | skip
      rename_i s1 tr hops
      split at h <;> first | (cases h; done) | skip
      rename_i hblk
      split at h <;> first | (cases h; done) | skip
      rename_i q hrun
      simp only [Option.some.injEq, Prod.mk.injEq] at h
      obtain ⟨rfl, rfl⟩ := h
      rw [if_pos rfl]
      exact ⟨yAt ops, Nat.le_of_ble_eq_true hq.1, hq.2, xOps_sound hcx _ _ _ _ _ _ hops _ ⟨hblk, xRunY_sound hcx hY _ _ _ _ _ _ hrun _ hK⟩⟩
    | false =>
      simp only at h
      split at h <;> first | (cases h; done) | skip
      rename_i q hrun
      simp only [Option.some.injEq, Prod.mk.injEq] at h
      obtain ⟨rfl, rfl⟩ := h
      rw [if_neg (by simp)]
      exact xRunY_sound hcx hY _ _ _ _ _ _ hrun _ hK
  | seq x y ihx ihy =>
    intro s e s' h K hK
    simp only [xYC] at h
    split at h <;> first | (cases h; done) | skip
    rename_i e1 s1 hx1
    refine ihx _ _ _ hx1 _ ?_
    split at h
    · exact ihy _ _ _ h K hK
    · rename_i hne
      simp only [Option.some.injEq, Prod.mk.injEq] at h
      obtain ⟨rfl, rfl⟩ := h
      cases e1 <;> first | exact hK | exact absurd rfl hne
  | cond c x y ihx ihy =>
    intro s e s' h K hK
    simp only [xYC] at h
    simp only [YWp]
    split at h
    · rename_i hb; simp only [hb]; exact ihx _ _ _ h K hK
    · rename_i hb; simp only [hb]; exact ihy _ _ _ h K hK
    · cases h
  | block id c ih =>
    intro s e s' h K hK
    simp only [xYC] at h
    split at h
    · rename_i id' s1 hc
      refine ih _ _ _ hc _ ?_
      simp only [yblockK]
      split at h <;> (rename_i he; simp only [Option.some.injEq, Prod.mk.injEq] at h; obtain ⟨rfl, rfl⟩ := h; (first | rw [if_pos he] | rw [if_neg he]); exact hK)
    · rename_i hne
      refine ih _ _ _ h _ ?_
      cases e <;> first | exact hK | exact absurd h (hne _ _)
  | loop c ih =>
    intro s e s' h K hK
    simp only [xYC] at h
    exact iterY_sound (fun s e s' hs K hK => .inr (ih s e s' hs K hK)) n s e s' h K hK

def exitOk : Option Exit → Bool
  | none => true
  | some .ret => true
  | some (.exit _) => true
  | _ => false
def endOk : Exit → Bool
  | .normal => true
  | .ret => true
  | _ => false

/-- A function's code. -/
def xC (cx : XC) (nm : FuncId → Bool) (T : FuncId → Option CFn) (n : Nat) : CCode → Bool → St → Option (Exit × St)
  | .skip, _, s => some (.normal, s)
  | .region draw ops, _, s => match xOps cx nm ops s.al s.hl [] with
    | some (s', tr) => match draw with
      | true => match blkOk 0 tr.reverse with
        | true => some (.normal, s')
        | false => none
      | false => some (.normal, s')
    | none => none
  | .seq x y, tp, s => match xC cx nm T n x tp s with
    | none => none
    | some (e, s') => match e with
      | .normal => xC cx nm T n y tp s'
      | e => some (e, s')
  | .cond c x y, tp, s => match c.ev (get s.al) with
    | .bool true => xC cx nm T n x tp s
    | .bool false => xC cx nm T n y tp s
    | _ => none
  | .block id c, tp, s => match xC cx nm T n c tp s with
    | some (.exit id', s') => if id' = id then some (.normal, s') else some (.exit id', s')
    | r => r
  | .loop c, tp, s => iterX (xC cx nm T n c tp) n s
  | .rangeF f ps x y, tp, s => match tp with
    | false => none
    | true => match f.ev (get s.al) with
      | .clo fid caps => match T fid with
        | some F => match Nat.ble (caps.length + 1) F.n with
          | true => match xYC cx nm (fun vs hl => match Nat.beq vs.length ps.length with
              | false => none
              | true => match xC cx nm T n x false ⟨setPs s.al ps vs, hl⟩ with
                | some (.normal, s1) => match xC cx nm T n y false s1 with
                  | some (.normal, s2) => some (none, s2.hl)
                  | some (.ret, s2) => some (some .ret, s2.hl)
                  | some (.exit id, s2) => some (some (.exit id), s2.hl)
                  | _ => none
                | _ => none) n F.code (⟨argsAl 0 (.yld :: caps), s.hl⟩, none) with
            | some (e, s', st') => match endOk e && (resRV s'.al s'.hl F.rvs).isSome && exitOk st' && Nat.ble s.hl.length s'.hl.length && s'.hl.all fun b => b.lt s'.hl.length with
              | true => some (st'.getD .normal, ⟨s.al, s'.hl⟩)
              | false => none
            | none => none
          | false => none
        | none => none
      | _ => none
  | .exit id, _, s => some (.exit id, s)
  | .ret, _, s => some (.ret, s)

def TOk (P : Program) (T : FuncId → Option CFn) : Prop := ∀ f F, T f = some F → compF P f = some F

theorem iterC_sound {W : St → (Exit → St → Prop) → Prop} {step : St → Option (Exit × St)} (hW : ∀ s e s', step s = some (e, s') → ∀ K : Exit → St → Prop, K e s' → W s K) :
    ∀ (n : Nat) (s : St) (e : Exit) (s' : St), iterX step n s = some (e, s') → ∀ K : Exit → St → Prop, K e s' → CLoop W s K := by
  intro n
  induction n with
  | zero => intro s e s' h; simp [iterX] at h
  | succ n ih =>
    intro s e s' h K hK X hX
    simp only [iterX] at h
    split at h
    · cases h
    · rename_i e1 s1 hs
      split at h
      · exact hX _ (hW _ _ _ hs _ (ih _ _ _ h K hK X hX))
      · rename_i hne
        simp only [Option.some.injEq, Prod.mk.injEq] at h
        obtain ⟨rfl, rfl⟩ := h
        refine hX _ (hW _ _ _ hs _ ?_)
        cases e1 <;> first | exact hK | exact absurd rfl hne

theorem xC_sound {P : Program} {cx : XC} (hcx : cx.Ok P) {nm : FuncId → Bool} {T : FuncId → Option CFn} (hT : TOk P T) {n : Nat} : ∀ (c : CCode) (tp : Bool) (s : St) (e : Exit) (s' : St), xC cx nm T n c tp s = some (e, s') → ∀ (m0 : Nat) (K : Exit → St → Prop), K e s' → CWp P c m0 tp s K := by
  intro c
  induction c with
  | skip => intro tp s e s' h m0 K hK; simp only [xC, Option.some.injEq, Prod.mk.injEq] at h; obtain ⟨rfl, rfl⟩ := h; exact hK
  | exit id => intro tp s e s' h m0 K hK; simp only [xC, Option.some.injEq, Prod.mk.injEq] at h; obtain ⟨rfl, rfl⟩ := h; exact hK
  | ret => intro tp s e s' h m0 K hK; simp only [xC, Option.some.injEq, Prod.mk.injEq] at h; obtain ⟨rfl, rfl⟩ := h; exact hK
  | region draw ops =>
    intro tp s e s' h m0 K hK
    simp only [xC] at h
    split at h <;> first | (cases h; done) | skip
    rename_i s1 tr hops
    simp only [CWp]
    refine xOps_sound hcx _ _ _ _ _ _ hops _ ?_
    cases draw with
    | true =>
      simp only at h
      split at h <;> first | (cases h; done) | skip
      rename_i hb
      simp only [Option.some.injEq, Prod.mk.injEq] at h
      obtain ⟨rfl, rfl⟩ := h
      exact ⟨fun _ => hb, hK⟩
    | false =>
      simp only [Option.some.injEq, Prod.mk.injEq] at h
      obtain ⟨rfl, rfl⟩ := h
      exact ⟨fun hf => (by cases hf), hK⟩
  | seq x y ihx ihy =>
    intro tp s e s' h m0 K hK
    simp only [xC] at h
    split at h <;> first | (cases h; done) | skip
    rename_i e1 s1 hx1
    refine ihx tp _ _ _ hx1 m0 _ ?_
    split at h
    · exact ihy tp _ _ _ h m0 K hK
    · rename_i hne
      simp only [Option.some.injEq, Prod.mk.injEq] at h
      obtain ⟨rfl, rfl⟩ := h
      cases e1 <;> first | exact hK | exact absurd rfl hne
  | cond c x y ihx ihy =>
    intro tp s e s' h m0 K hK
    simp only [xC] at h
    simp only [CWp]
    split at h
    · rename_i hb; simp only [hb]; exact ihx tp _ _ _ h m0 K hK
    · rename_i hb; simp only [hb]; exact ihy tp _ _ _ h m0 K hK
    · cases h
  | block id c ih =>
    intro tp s e s' h m0 K hK
    simp only [xC] at h
    split at h
    · rename_i id' s1 hc
      refine ih tp _ _ _ hc m0 _ ?_
      simp only [blockK]
      split at h <;> (rename_i he; simp only [Option.some.injEq, Prod.mk.injEq] at h; obtain ⟨rfl, rfl⟩ := h; (first | rw [if_pos he] | rw [if_neg he]); exact hK)
    · rename_i hne
      refine ih tp _ _ _ h m0 _ ?_
      cases e <;> first | exact hK | exact absurd h (hne _ _)
  | loop c ih =>
    intro tp s e s' h m0 K hK
    simp only [xC] at h
    exact iterC_sound (fun s e s' hs K hK => .inr (ih tp s e s' hs m0 K hK)) n s e s' h K hK
  | rangeF f ps x y ihx ihy =>
    intro tp s e s' h m0 K hK
    simp only [xC] at h
    cases tp with
    | false => simp at h
    | true =>
      simp only at h
      split at h <;> first | (cases h; done) | skip
      rename_i fid caps hf
      split at h <;> first | (cases h; done) | skip
      rename_i F hF
      split at h <;> first | (cases h; done) | skip
      rename_i hcaps
      split at h <;> first | (cases h; done) | skip
      rename_i e1 s1 st1 hrun
      split at h <;> first | (cases h; done) | skip
      rename_i hok
      simp only [Option.some.injEq, Prod.mk.injEq] at h
      obtain ⟨rfl, rfl⟩ := h
      simp only [Bool.and_eq_true, List.all_eq_true] at hok
      obtain ⟨⟨⟨⟨h1, h2⟩, h3⟩, h4⟩, h5⟩ := hok
      refine ⟨rfl, fid, caps, F, hf, hT _ _ hF, Nat.le_of_ble_eq_true hcaps, xYC_sound hcx (Y := fun vs hl Kont => vs.length = ps.length ∧ CWp P x hl.length false ⟨setPs s.al ps vs, hl⟩ (fun e s1 => e = .normal ∧ CWp P y s1.hl.length false s1 (bodyK Kont))) ?_ _ _ _ _ hrun _ ?_⟩
      · intro vs hl res hl' hh Kont hKo
        simp only at hh
        split at hh <;> first | (cases hh; done) | skip
        rename_i hlen
        split at hh <;> first | (cases hh; done) | skip
        rename_i s2 hx2
        refine ⟨Nat.eq_of_beq_eq_true hlen, ihx false _ _ _ hx2 _ _ ⟨rfl, ?_⟩⟩
        split at hh <;> first | (cases hh; done) | skip
        all_goals
          rename_i hy2
          simp only [Option.some.injEq, Prod.mk.injEq] at hh
          obtain ⟨rfl, rfl⟩ := hh
          exact ihy false _ _ _ hy2 _ _ hKo
      · refine ⟨?_, h2, ?_, s1.hl.length, Nat.le_of_ble_eq_true h4, by simpa using h5, by simpa using hK⟩
        · cases e1 <;> simp [endOk] at h1 ⊢
        · cases st1 with
          | none => exact .inl rfl
          | some q => cases q <;> simp [exitOk] at h3 ⊢

/-- Functions. -/
def xF (nm : FuncId → Bool) (T : FuncId → Option CFn) (n : Nat) : Nat → XC
  | 0 => fun _ _ _ => none
  | d + 1 => fun f args hl => match T f with
    | none => none
    | some F => match Nat.ble args.length F.n with
      | false => none
      | true => match xC (xF nm T n d) nm T n F.code true ⟨argsAl 0 args, hl⟩ with
        | none => none
        | some (e, s) => match endOk e with
          | true => xFin F.rvs hl.length s
          | false => none

theorem xF_sound {P : Program} (hm : P.follows .mixedOrders = true) {nm : FuncId → Bool} {T : FuncId → Option CFn} (hT : TOk P T) {n : Nat} : ∀ d, (xF nm T n d).Ok P := by
  intro d
  induction d with
  | zero => intro f args hl r hl' h; simp [xF] at h
  | succ d ih =>
    intro f args hl r hl' h
    simp only [xF] at h
    split at h <;> first | (cases h; done) | skip
    rename_i F hF
    split at h <;> first | (cases h; done) | skip
    rename_i hargs
    split at h <;> first | (cases h; done) | skip
    rename_i e s hrun
    split at h <;> first | (cases h; done) | skip
    rename_i he
    refine callsF_comp hm (hT _ _ hF) (Nat.le_of_ble_eq_true hargs) (xC_sound ih hT _ _ _ _ _ hrun _ _ (xFin_spec h ?_))
    cases e <;> simp [endOk] at he ⊢

end Go.Am
end

section
namespace Go.Am
open Go Go.RowKit

inductive FT where
  | nil
  | leaf (k : Nat) (F : CFn)
  | node (m : Nat) (l r : FT)

def FT.look : FT → Nat → Option CFn
  | .nil, _ => none
  | .leaf k F, f => match Nat.beq f k with
    | true => some F
    | false => none
  | .node m l r, f => match Nat.blt f m with
    | true => l.look f
    | false => r.look f

def FT.Ok (P : Program) : FT → Prop
  | .nil => True
  | .leaf k F => compF P k = some F
  | .node _ l r => l.Ok P ∧ r.Ok P

theorem FT.tOk {P : Program} : ∀ (t : FT), t.Ok P → TOk P t.look := by
  intro t
  induction t with
  | nil => intro _ f F h; simp [FT.look] at h
  | leaf k G =>
    intro hk f F h
    simp only [FT.look] at h
    split at h <;> first | (cases h; done) | skip
    rename_i hb
    simp only [Option.some.injEq] at h; subst h
    rw [Nat.eq_of_beq_eq_true hb]
    exact hk
  | node m l r ihl ihr =>
    intro hk f F h
    simp only [FT.look] at h
    split at h
    · exact ihl hk.1 f F h
    · exact ihr hk.2 f F h

end Go.Am
end

section
namespace Go.Am
open Go Go.RowKit

def eqB {α : Type} (f : α → α → Bool) : List α → List α → Bool
  | [], [] => true
  | x :: xs, y :: ys => match f x y with
    | true => eqB f xs ys
    | false => false
  | _, _ => false

theorem eqB_spec {α : Type} {f : α → α → Bool} (hf : ∀ x y, f x y = true → x = y) : ∀ (l l' : List α), eqB f l l' = true → l = l' := by
  intro l
  induction l with
  | nil => intro l' h; cases l' with
    | nil => rfl
    | cons => simp [eqB] at h
  | cons x l ih =>
    intro l' h
    cases l' with
    | nil => simp [eqB] at h
    | cons y l' =>
      simp only [eqB] at h
      split at h
      · rename_i h1; rw [hf x y h1, ih l' h]
      · cases h

/-- The same plain values, n deep. -/
def eqN : Nat → AV → AV → Bool
  | 0, _, _ => false
  | n + 1, x, y => match x, y with
    | .int .i64 a, .int .i64 b => decide (a = b)
    | .bool true, .bool true => true
    | .bool false, .bool false => true
    | .agg cs, .agg ds => eqB (eqN n) cs ds
    | .sv false a xs, .sv false b ys => Nat.beq a b && eqB (eqN n) xs ys
    | .clo f cs, .clo g ds => Nat.beq f g && eqB (eqN n) cs ds
    | .rp true cs, .rp true ds => eqB (eqN n) cs ds
    | _, _ => false

theorem eqN_spec : ∀ (n : Nat) (x y : AV), eqN n x y = true → x = y := by
  intro n
  induction n with
  | zero => intro x y h; simp [eqN] at h
  | succ n ih =>
    intro x y h
    simp only [eqN] at h
    split at h <;> first | (cases h; done) | rfl | skip
    · simp only [decide_eq_true_eq] at h; rw [h]
    · rw [eqB_spec ih _ _ h]
    · simp only [Bool.and_eq_true] at h
      rw [Nat.eq_of_beq_eq_true h.1, eqB_spec ih _ _ h.2]
    · simp only [Bool.and_eq_true] at h
      rw [Nat.eq_of_beq_eq_true h.1, eqB_spec ih _ _ h.2]
    · rw [eqB_spec ih _ _ h]

structure Memo where
  f : Nat
  args : List AV
  r : AV
  hl : List Blk

def memoX (cx : XC) : List Memo → XC
  | [], f, args, hl => cx f args hl
  | m :: ms, f, args, hl => match hl with
    | [] => match Nat.beq f m.f && eqB (eqN 5) args m.args with
      | true => some (m.r, m.hl)
      | false => memoX cx ms f args []
    | hl => cx f args hl

def MemoOk (P : Program) (ms : List Memo) : Prop := ∀ m ∈ ms, CallsF P m.f m.args [] m.r m.hl

theorem memoOk_nil {P : Program} : MemoOk P [] := fun m h => by cases h
theorem memoOk_cons {P : Program} {m : Memo} {ms : List Memo} (h : CallsF P m.f m.args [] m.r m.hl) (hs : MemoOk P ms) : MemoOk P (m :: ms) := fun x hx => by
  rcases List.mem_cons.1 hx with rfl | hx
  · exact h
  · exact hs x hx

theorem memoX_ok {P : Program} {cx : XC} (hcx : cx.Ok P) : ∀ (ms : List Memo), MemoOk P ms → (memoX cx ms).Ok P := by
  intro ms
  induction ms with
  | nil => intro _ f args hl r hl' h; exact hcx f args hl r hl' h
  | cons m ms ih =>
    intro hm f args hl r hl' h
    simp only [memoX] at h
    split at h
    · split at h
      · rename_i hb
        simp only [Bool.and_eq_true] at hb
        simp only [Option.some.injEq, Prod.mk.injEq] at h
        obtain ⟨rfl, rfl⟩ := h
        rw [Nat.eq_of_beq_eq_true hb.1, eqB_spec (eqN_spec 5) _ _ hb.2]
        exact hm m (by simp)
      · exact ih (fun m hm' => hm m (by simp [hm'])) f args [] r hl' h
    · exact hcx f args _ r hl' h

/-- Functions, some of whose calls are known. -/
def xFm (nm : FuncId → Bool) (T : FuncId → Option CFn) (ms : List Memo) (n : Nat) : Nat → XC
  | 0 => fun _ _ _ => none
  | d + 1 => fun f args hl => match T f with
    | none => none
    | some F => match Nat.ble args.length F.n with
      | false => none
      | true => match xC (memoX (xFm nm T ms n d) ms) nm T n F.code true ⟨argsAl 0 args, hl⟩ with
        | none => none
        | some (e, s) => match endOk e with
          | true => xFin F.rvs hl.length s
          | false => none

theorem xFm_sound {P : Program} (hm : P.follows .mixedOrders = true) {nm : FuncId → Bool} {T : FuncId → Option CFn} (hT : TOk P T) {ms : List Memo} (hms : MemoOk P ms) {n : Nat} : ∀ d, (xFm nm T ms n d).Ok P := by
  intro d
  induction d with
  | zero => intro f args hl r hl' h; simp [xFm] at h
  | succ d ih =>
    intro f args hl r hl' h
    simp only [xFm] at h
    split at h <;> first | (cases h; done) | skip
    rename_i F hF
    split at h <;> first | (cases h; done) | skip
    rename_i hargs
    split at h <;> first | (cases h; done) | skip
    rename_i e s hrun
    split at h <;> first | (cases h; done) | skip
    rename_i he
    refine callsF_comp hm (hT _ _ hF) (Nat.le_of_ble_eq_true hargs) (xC_sound (memoX_ok ih ms hms) hT _ _ _ _ _ hrun _ _ (xFin_spec h ?_))
    cases e <;> simp [endOk] at he ⊢

end Go.Am
end
