/- What an abstract operation looks at and what it changes.
   Conditions: none. -/
import Derived.OrdersIn
import Derived.Test.YtkbpkbjfphdgeaaAm5
section
set_option linter.unusedSimpArgs false
set_option linter.unusedVariables false
namespace Go.Am
open Go Go.RowKit

def Opd.rd : Opd → List Nat
  | .t n => [n]
  | .c _ => []
def rdO : Option Opd → List Nat
  | none => []
  | some x => x.rd
def rdL (l : List Opd) : List Nat := l.flatMap Opd.rd

/-- The slots that an operation looks at. -/
def AOp.rd : AOp → List Nat
  | .mv x | .smv x | .box x | .nchk x | .neg x | .not x | .len x | .lenS x => x.rd
  | .conv _ x | .ext x _ | .faddr x _ | .fld x _ _ _ | .load _ _ x | .mks _ _ _ x | .clear _ _ x => x.rd
  | .pick c a b => c.rd ++ a.rd ++ b.rd
  | .newnil _ | .alloc _ | .lenC _ | .bad => []
  | .build _ ps => ps.flatMap fun p => p.2.2.rd
  | .bsl _ xs | .mkf _ xs | .mx xs | .mn xs => rdL xs
  | .store _ x y | .bin _ x y | .eqv _ _ _ x y | .iaddr _ x y | .iaddrA _ _ x y | .idxA _ _ _ x y | .idxS x y | .append _ _ x y | .copy _ x y => x.rd ++ y.rd
  | .slc _ x lo hi => x.rd ++ rdO lo ++ rdO hi
  | .slcM _ x hi m => x.rd ++ hi.rd ++ m.rd
  | .call f xs => f.rd ++ rdL xs

def AV.ref : AV → List Nat
  | .sl b _ _ _ => [b]
  | .ptr b _ _ _ => [b]
  | _ => []

/-- The rows that an operation looks at. -/
def AOp.touch (c : AOp) (sl : Nat → AV) : List Nat :=
  match c with
  | .load _ _ x | .store _ x _ | .iaddr _ x _ | .slc _ x _ _ | .slcM _ x _ _ | .clear _ _ x => (x.ev sl).ref
  | .append _ _ x y => (x.ev sl).ref ++ (y.ev sl).ref
  | _ => []

theorem ev_congr {sl sl' : Nat → AV} {x : Opd} (h : ∀ t ∈ x.rd, sl' t = sl t) : x.ev sl' = x.ev sl := by
  cases x with
  | t n => exact h n (by simp [Opd.rd])
  | c v => rfl

theorem optInt_congr {sl sl' : Nat → AV} {x : Option Opd} (h : ∀ t ∈ rdO x, sl' t = sl t) : optInt sl' x = optInt sl x := by
  cases x with
  | none => rfl
  | some x => simp only [optInt]; rw [ev_congr h]

theorem evL_congr {sl sl' : Nat → AV} {xs : List Opd} (h : ∀ t ∈ rdL xs, sl' t = sl t) : xs.map (·.ev sl') = xs.map (·.ev sl) :=
  List.map_congr_left fun x hx => ev_congr fun t ht => h t (List.mem_flatMap.2 ⟨x, hx, ht⟩)

theorem aop_slots {c : AOp} {sl sl' : Nat → AV} {h : Nat → Blk} {fr : Nat} (hs : ∀ t ∈ c.rd, sl' t = sl t) : aop c sl' h fr = aop c sl h fr := by
  cases c with
  | build z ps =>
    have h1 : ∀ p ∈ ps, p.2.2.ev sl' = p.2.2.ev sl := fun p hp => ev_congr fun t ht => hs t (List.mem_flatMap.2 ⟨p, hp, ht⟩)
    have h2 : (ps.map fun p => (p.1, p.2.1, p.2.2.ev sl')) = ps.map fun p => (p.1, p.2.1, p.2.2.ev sl) := List.map_congr_left fun p hp => by rw [h1 p hp]
    have h3 : (ps.all fun p => (p.2.2.ev sl').elem) = ps.all fun p => (p.2.2.ev sl).elem := by
      have : ∀ (q : List (Nat × Nat × Opd)), (∀ p ∈ q, p.2.2.ev sl' = p.2.2.ev sl) → (q.all fun p => (p.2.2.ev sl').elem) = q.all fun p => (p.2.2.ev sl).elem := by
        intro q
        induction q with
        | nil => intro _; rfl
        | cons p q ih => intro hq; simp only [List.all_cons]; rw [hq p (by simp), ih fun p' hp' => hq p' (by simp [hp'])]
      exact this ps h1
    simp only [aop, h2, h3]
  | bsl sz xs =>
    have h1 : ∀ x ∈ xs, x.ev sl' = x.ev sl := fun x hx => ev_congr fun t ht => hs t (List.mem_flatMap.2 ⟨x, hx, ht⟩)
    have h2 : xs.map (·.ev sl') = xs.map (·.ev sl) := List.map_congr_left h1
    have h3 : (xs.all fun x => (x.ev sl').elem && (x.ev sl').cells.length == sz) = xs.all fun x => (x.ev sl).elem && (x.ev sl).cells.length == sz := by
      have : ∀ (q : List Opd), (∀ x ∈ q, x.ev sl' = x.ev sl) → (q.all fun x => (x.ev sl').elem && (x.ev sl').cells.length == sz) = q.all fun x => (x.ev sl).elem && (x.ev sl).cells.length == sz := by
        intro q
        induction q with
        | nil => intro _; rfl
        | cons p q ih => intro hq; simp only [List.all_cons]; rw [hq p (by simp), ih fun p' hp' => hq p' (by simp [hp'])]
      exact this xs h1
    simp only [aop, h2, h3]
  | mkf f xs => simp only [aop]; rw [evL_congr hs]
  | mx xs => simp only [aop]; rw [evL_congr hs]
  | mn xs => simp only [aop]; rw [evL_congr hs]
  | pick c a b =>
    simp only [AOp.rd, List.mem_append] at hs
    simp only [aop]
    rw [ev_congr (x := c) fun t ht => hs t (.inl (.inl ht)), ev_congr (x := a) fun t ht => hs t (.inl (.inr ht)), ev_congr (x := b) fun t ht => hs t (.inr ht)]
  | slc sz x lo hi =>
    simp only [AOp.rd, List.mem_append] at hs
    simp only [aop]
    rw [ev_congr (x := x) fun t ht => hs t (.inl (.inl ht)), optInt_congr (x := lo) fun t ht => hs t (.inl (.inr ht)), optInt_congr (x := hi) fun t ht => hs t (.inr ht)]
  | store _ x y => simp only [AOp.rd, List.mem_append] at hs; simp only [aop]; rw [ev_congr (x := x) fun t ht => hs t (.inl ht), ev_congr (x := y) fun t ht => hs t (.inr ht)]
  | bin _ x y => simp only [AOp.rd, List.mem_append] at hs; simp only [aop]; rw [ev_congr (x := x) fun t ht => hs t (.inl ht), ev_congr (x := y) fun t ht => hs t (.inr ht)]
  | eqv _ _ _ x y => simp only [AOp.rd, List.mem_append] at hs; simp only [aop]; rw [ev_congr (x := x) fun t ht => hs t (.inl ht), ev_congr (x := y) fun t ht => hs t (.inr ht)]
  | iaddr _ x y => simp only [AOp.rd, List.mem_append] at hs; simp only [aop]; rw [ev_congr (x := x) fun t ht => hs t (.inl ht), ev_congr (x := y) fun t ht => hs t (.inr ht)]
  | iaddrA _ _ x y => simp only [AOp.rd, List.mem_append] at hs; simp only [aop]; rw [ev_congr (x := x) fun t ht => hs t (.inl ht), ev_congr (x := y) fun t ht => hs t (.inr ht)]
  | idxA _ _ _ x y => simp only [AOp.rd, List.mem_append] at hs; simp only [aop]; rw [ev_congr (x := x) fun t ht => hs t (.inl ht), ev_congr (x := y) fun t ht => hs t (.inr ht)]
  | append _ _ x y => simp only [AOp.rd, List.mem_append] at hs; simp only [aop]; rw [ev_congr (x := x) fun t ht => hs t (.inl ht), ev_congr (x := y) fun t ht => hs t (.inr ht)]
  | idxS x y => simp only [AOp.rd, List.mem_append] at hs; simp only [aop]; rw [ev_congr (x := x) fun t ht => hs t (.inl ht), ev_congr (x := y) fun t ht => hs t (.inr ht)]
  | copy _ x y => rfl
  | slcM _ x hi mx =>
    simp only [AOp.rd, List.mem_append] at hs
    simp only [aop]
    rw [ev_congr (x := x) fun t ht => hs t (.inl (.inl ht)), ev_congr (x := hi) fun t ht => hs t (.inl (.inr ht)), ev_congr (x := mx) fun t ht => hs t (.inr ht)]
  | clear _ _ x => simp only [aop]; rw [ev_congr (x := x) hs]
  | call f xs => rfl
  | newnil _ => rfl
  | alloc _ => rfl
  | lenC _ => rfl
  | bad => rfl
  | mv x => simp only [aop]; rw [ev_congr (x := x) hs]
  | smv x => simp only [aop]; rw [ev_congr (x := x) hs]
  | box x => simp only [aop]; rw [ev_congr (x := x) hs]
  | load _ _ x => simp only [aop]; rw [ev_congr (x := x) hs]
  | nchk x => simp only [aop]; rw [ev_congr (x := x) hs]
  | neg x => simp only [aop]; rw [ev_congr (x := x) hs]
  | not x => simp only [aop]; rw [ev_congr (x := x) hs]
  | conv _ x => simp only [aop]; rw [ev_congr (x := x) hs]
  | ext x _ => simp only [aop]; rw [ev_congr (x := x) hs]
  | faddr x _ => simp only [aop]; rw [ev_congr (x := x) hs]
  | fld x _ _ _ => simp only [aop]; rw [ev_congr (x := x) hs]
  | mks _ _ _ x => simp only [aop]; rw [ev_congr (x := x) hs]
  | len x => simp only [aop]; rw [ev_congr (x := x) hs]
  | lenS x => simp only [aop]; rw [ev_congr (x := x) hs]

theorem rowAt_congr {h h' : Nat → Blk} {b g : Nat} (hb : h' b = h b) : rowAt? h' b g = rowAt? h b g := by simp only [rowAt?, hb]

theorem loadAV_congr {h h' : Nat → Blk} {agg : Bool} {sz : Nat} {x : AV} (hb : ∀ b ∈ x.ref, h' b = h b) : loadAV h' agg sz x = loadAV h agg sz x := by
  cases x <;> simp only [loadAV]
  rw [rowAt_congr (hb _ (by simp [AV.ref]))]
theorem storeAV_congr {h h' : Nat → Blk} {sz : Nat} {v x : AV} (hb : ∀ b ∈ x.ref, h' b = h b) : storeAV h' sz v x = storeAV h sz v x := by
  cases x <;> simp only [storeAV]
  rw [rowAt_congr (hb _ (by simp [AV.ref]))]
theorem iaddrAV_congr {h h' : Nat → Blk} {sz : Nat} {k : Int} {x : AV} (hb : ∀ b ∈ x.ref, h' b = h b) : iaddrAV h' sz k x = iaddrAV h sz k x := by
  cases x <;> simp only [iaddrAV]
  rw [rowAt_congr (hb _ (by simp [AV.ref]))]
theorem contAV_congr {h h' : Nat → Blk} {sz : Nat} {x : AV} (hb : ∀ b ∈ x.ref, h' b = h b) : contAV h' sz x = contAV h sz x := by
  cases x <;> simp only [contAV]
  rw [hb _ (by simp [AV.ref])]
theorem appendAV_congr {h h' : Nat → Blk} {fr sz n : Nat} {x : AV} {ys : List AV} (hb : ∀ b ∈ x.ref, h' b = h b) : appendAV h' fr sz n x ys = appendAV h fr sz n x ys := by
  cases x with
  | sl b g i m => cases i with
    | zero => simp only [appendAV]; rw [hb _ (by simp [AV.ref])]
    | succ i => rfl
  | sv vol _ _ => cases vol <;> rfl
  | _ => rfl

theorem slcMAV_congr {h h' : Nat → Blk} {sz : Nat} {u : Int} {x : AV} (hb : ∀ b ∈ x.ref, h' b = h b) : slcMAV h' sz u x = slcMAV h sz u x := by
  cases x <;> simp only [slcMAV]
  rw [hb _ (by simp [AV.ref])]
theorem clearAV_congr {h h' : Nat → Blk} {sz : Nat} {z x : AV} (hb : ∀ b ∈ x.ref, h' b = h b) : clearAV h' sz z x = clearAV h sz z x := by
  cases x <;> simp only [clearAV]
  rw [hb _ (by simp [AV.ref])]

theorem aop_local {c : AOp} {sl : Nat → AV} {h h' : Nat → Blk} {fr : Nat} (hb : ∀ b ∈ c.touch sl, h' b = h b) : aop c sl h' fr = aop c sl h fr := by
  cases c with
  | load _ _ x => simp only [aop]; rw [loadAV_congr hb]
  | store _ x y => simp only [aop]; rw [storeAV_congr hb]
  | iaddr _ x y =>
    simp only [aop]
    split
    · rw [iaddrAV_congr hb]
    · rfl
  | slc _ x lo hi =>
    simp only [aop]
    cases hx : x.ev sl <;> simp only
    rw [hb _ (by simp [AOp.touch, hx, AV.ref])]
  | slcM _ x hi mx =>
    simp only [aop]
    split
    · rw [slcMAV_congr hb]
    · rfl
  | clear _ _ x => simp only [aop]; rw [clearAV_congr hb]
  | append _ _ x y =>
    simp only [AOp.touch, List.mem_append] at hb
    simp only [aop]
    rw [contAV_congr fun b h => hb b (.inr h)]
    split
    · rw [appendAV_congr fun b h => hb b (.inl h)]
    · rfl
  | _ => rfl

/-- The rows that change: none, or one that was looked at, or a new one. -/
theorem aop_ups {c : AOp} {sl : Nat → AV} {h : Nat → Blk} {fr : Nat} {r : Res} (hr : aop c sl h fr = some r) : r.ups = [] ∨ ∃ b blk, r.ups = [(b, blk)] ∧ (b = fr ∨ (b ∈ c.touch sl ∧ h b ≠ .dead)) := by
  cases c with
  | store _ x y =>
    simp only [aop, Option.map_eq_some_iff] at hr
    obtain ⟨u, h1, rfl⟩ := hr
    refine .inr ⟨u.1, u.2, rfl, .inr ?_⟩
    simp only [AOp.touch]
    cases hx : x.ev sl <;> rw [hx] at h1 <;> simp only [storeAV] at h1 <;> first | (cases h1; done) | skip
    split at h1 <;> first | (cases h1; done) | skip
    rename_i hrow
    split at h1 <;> first | (cases h1; done) | skip
    split at h1 <;> first | (cases h1; done) | skip
    simp only [Option.some.injEq] at h1
    subst h1
    refine ⟨by simp [AV.ref], fun hd => ?_⟩
    simp only [rowAt?, hd] at hrow
    cases hrow
  | slcM _ x hi mx =>
    simp only [aop] at hr
    split at hr <;> first | (cases hr; done) | skip
    split at hr <;> first | (cases hr; done) | skip
    generalize hx : x.ev sl = X at hr
    cases X <;> simp only [slcMAV] at hr <;> first | (cases hr; done) | skip
    split at hr <;> first | (cases hr; done) | skip
    rename_i hrow
    split at hr <;> first | (cases hr; done) | skip
    simp only [Option.some.injEq] at hr; subst hr
    exact .inr ⟨_, _, rfl, .inr ⟨by simp [AOp.touch, hx, AV.ref], by rw [hrow]; simp⟩⟩
  | clear _ _ x =>
    simp only [aop] at hr
    generalize hx : x.ev sl = X at hr
    cases X <;> simp only [clearAV] at hr <;> first | (cases hr; done) | skip
    split at hr <;> first | (cases hr; done) | skip
    rename_i hrow
    split at hr <;> first | (cases hr; done) | skip
    simp only [Option.some.injEq] at hr; subst hr
    exact .inr ⟨_, _, rfl, .inr ⟨by simp [AOp.touch, hx, AV.ref], by rw [hrow]; simp⟩⟩
  | append _ _ x y =>
    simp only [aop] at hr
    split at hr <;> first | (cases hr; done) | skip
    simp only [appendAV] at hr
    split at hr <;> first | (cases hr; done) | skip
    generalize hx : x.ev sl = X at hr
    split at hr
    · split at hr <;> first | (cases hr; done) | skip
      simp only [Option.some.injEq] at hr; subst hr
      exact .inr ⟨_, _, rfl, .inl rfl⟩
    · split at hr <;> first | (cases hr; done) | skip
      rename_i hrow
      split at hr <;> first | (cases hr; done) | skip
      simp only [Option.some.injEq] at hr; subst hr
      exact .inr ⟨_, _, rfl, .inr ⟨by simp [AOp.touch, hx, AV.ref], by rw [hrow]; simp⟩⟩
    · split at hr <;> first | (cases hr; done) | skip
      simp only [Option.some.injEq] at hr; subst hr
      exact .inr ⟨_, _, rfl, .inl rfl⟩
    · cases hr
  | _ =>
    simp only [aop] at hr
    repeat' first
      | (cases hr; done)
      | (simp only [Option.some.injEq] at hr; subst hr; first | exact .inl rfl | exact .inr ⟨_, _, rfl, .inl rfl⟩)
      | (obtain ⟨_, _, rfl⟩ := Option.map_eq_some_iff.1 hr; exact .inl rfl)
      | split at hr

/-- The number of what would be new matters only if something is. -/
theorem aop_refr {c : AOp} {sl : Nat → AV} {h : Nat → Blk} {fr fr' : Nat} {r : Res} (hr : aop c sl h fr = some r) (hn : ∀ p ∈ r.ups, p.1 ≠ fr) : aop c sl h fr' = some r := by
  cases c with
  | append _ _ x y =>
    simp only [aop] at hr ⊢
    split at hr <;> first | (cases hr; done) | skip
    rename_i hy
    simp only [appendAV] at hr ⊢
    split at hr <;> first | (cases hr; done) | skip
    rename_i hall
    rw [if_pos hall]
    split at hr
    · split at hr <;> first | (cases hr; done) | skip
      simp only [Option.some.injEq] at hr; subst hr
      exact absurd rfl (hn _ (List.mem_singleton.2 rfl))
    · exact hr
    · split at hr <;> first | (cases hr; done) | skip
      simp only [Option.some.injEq] at hr; subst hr
      exact absurd rfl (hn _ (List.mem_singleton.2 rfl))
    · cases hr
  | newnil _ => simp only [aop, Option.some.injEq] at hr; subst hr; exact absurd rfl (hn _ (List.mem_singleton.2 rfl))
  | alloc _ =>
    simp only [aop] at hr
    split at hr <;> first | (cases hr; done) | skip
    simp only [Option.some.injEq] at hr; subst hr; exact absurd rfl (hn _ (List.mem_singleton.2 rfl))
  | box _ =>
    simp only [aop] at hr
    split at hr <;> first | (cases hr; done) | skip
    simp only [Option.some.injEq] at hr; subst hr; exact absurd rfl (hn _ (List.mem_singleton.2 rfl))
  | bsl _ _ =>
    simp only [aop] at hr
    split at hr <;> first | (cases hr; done) | skip
    simp only [Option.some.injEq] at hr; subst hr; exact absurd rfl (hn _ (List.mem_singleton.2 rfl))
  | mks _ _ _ _ =>
    simp only [aop] at hr
    split at hr <;> first | (cases hr; done) | skip
    split at hr <;> first | (cases hr; done) | skip
    simp only [Option.some.injEq] at hr; subst hr; exact absurd rfl (hn _ (List.mem_singleton.2 rfl))
  | _ => exact hr

end Go.Am
end

section
set_option linter.unusedSimpArgs false
set_option linter.unusedVariables false
namespace Go.Am
open Go Go.RowKit

structure COp where
  op : AOp
  dst : Option Nat
  guard : Option (Nat × Bool)
  bef : Nat
  deriving Inhabited

def compGuard (ops : Array Oper) (n : Nat) : Option (Nat × Bool) → Option (Option (Nat × Bool))
  | none => some none
  | some (j, want) => match (ops[j]?).bind (·.dst) with
    | some d => if d < n then some (some (d, want)) else none
    | none => none

def compDst (n : Nat) : Option Nat → Bool
  | none => true
  | some d => d < n

/-- What the layer does not know becomes an operation that is never reached. -/
def compOpB (P : Program) (op : Op) (ty : TypeId) : Option AOp := match compOp P op ty with
  | some c => some c
  | none => match op with
    | .defer _ => none
    | _ => some .bad

def compO (P : Program) (n : Nat) (ops : Array Oper) (o : Oper) (bef : Nat) : Option COp :=
  match compOpB P o.op o.type, compGuard ops n o.guard with
  | some c, some g => if compDst n o.dst = true then some ⟨c, o.dst, g, bef⟩ else none
  | _, _ => none

def wantedAV (sl : Nat → AV) : Option (Nat × Bool) → Option Bool
  | none => some true
  | some (d, want) => match sl d with
    | .bool b => some (b == want)
    | .tup [] => some false
    | _ => none

def COp.rd (c : COp) : List Nat := c.op.rd ++ (c.guard.map Prod.fst).toList

theorem wantedAV_sound {P : Program} {κ : K} {w : World} {sl : Nat → AV} {a : Act} {n : Nat} {ops : Array Oper} {o : Oper} {g : Option (Nat × Bool)} (hg : compGuard ops n o.guard = some g) (hs : SRel κ w sl a) (hn : a.tmps.size = n) {b : Bool} (hb : wantedAV sl g = some b) :
    Region.wanted o (yielded ops a.tmps) = b := by
  unfold Region.wanted
  cases hog : o.guard with
  | none =>
    rw [hog] at hg
    simp only [compGuard, Option.some.injEq] at hg; subst hg
    simp only [wantedAV, Option.some.injEq] at hb; exact hb
  | some q =>
    obtain ⟨j, want⟩ := q
    rw [hog] at hg
    simp only [compGuard] at hg
    split at hg <;> first | (cases hg; done) | skip
    rename_i d hd
    split at hg <;> first | (cases hg; done) | skip
    rename_i hlt
    simp only [Option.some.injEq] at hg; subst hg
    simp only [wantedAV] at hb
    have hv := hs d
    have hget : a.tmps[d]? = some (a.tmps.getD d undef) := by
      have : d < a.tmps.size := by rw [hn]; exact hlt
      simp [this]
    simp only [yielded, hd, Option.bind_some, hget]
    generalize a.tmps.getD d undef = v at *
    split at hb
    · rename_i x heq
      rw [heq] at hv
      cases hv
      simp only [Option.some.injEq] at hb; subst hb
      simp
    · rename_i heq
      rw [heq] at hv
      cases hv with
      | tup hl hr =>
        simp only [Option.some.injEq] at hb; subst hb
        simp
    · cases hb

/-- What one operation of a region does, told of slots and rows. -/
def OpL (P : Program) (n : Nat) (ops : Array Oper) (j : Nat) (dst : Option Nat) (rd T : List Nat) (s : Nat → AV) (h : Nat → Blk) (v : AV) (W : List (Nat × Blk)) : Prop :=
  ∀ (r : Option Nat) (κ : K) (sl : Nat → AV) (h' : Nat → Blk) (w : World) (a : Act) (Q : Exit → Act → World → Prop) (Kk : Act → World → Prop),
    (∀ t ∈ rd, sl t = s t) → (∀ b ∈ T, h' b = h b) → (∃ b, h' b = .dead) → Inv κ h' w → SRel κ w sl a → a.tmps.size = n →
    (∀ u κ' w', Ext κ w κ' w' → Inv κ' (updL h' W) w' → VRel κ' w' v u → Chg κ h' w κ' (updL h' W) w' → Kk (a.put dst u) w') →
    wpOpIn (wideR r) 0 P ops Q j Kk a w

theorem not_defer {P : Program} {o : Oper} {c : AOp} (hc : compOpB P o.op o.type = some c) : ∀ d, o.op ≠ .defer d := by
  intro d hd
  rw [hd] at hc
  simp [compOpB, compOp] at hc

theorem compOpB_spec {P : Program} {op : Op} {ty : TypeId} {c : AOp} (hc : compOpB P op ty = some c) : compOp P op ty = some c ∨ c = .bad := by
  unfold compOpB at hc
  split at hc
  · exact .inl (by simp_all)
  · split at hc
    · cases hc
    · simp only [Option.some.injEq] at hc; exact .inr hc.symm

theorem OpL.skip {P : Program} {n : Nat} {ops : Array Oper} {j : Nat} {o : Oper} {c : COp} {bef : Nat} (ho : ops[j]? = some o) (hc : compO P n ops o bef = some c) {s : Nat → AV} {h : Nat → Blk} (hw : wantedAV s c.guard = some false) :
    OpL P n ops j c.dst c.rd [] s h (.tup []) [] := by
  intro r κ sl h' w a Q Kk hrd _ _ hi hs hn hk
  simp only [compO] at hc
  split at hc <;> first | (cases hc; done) | skip
  rename_i c0 g hc0 hg
  split at hc <;> first | (cases hc; done) | skip
  simp only [Option.some.injEq] at hc; subst hc
  have hw' : wantedAV sl g = some false := by
    rw [← hw]
    cases g with
    | none => rfl
    | some q => simp only [wantedAV]; rw [hrd q.1 (by simp [COp.rd])]
  unfold wpOpIn
  simp only [ho]
  rw [if_neg (by rw [wantedAV_sound (P := P) hg hs hn hw']; simp)]
  refine ⟨fun _ _ => trivial, hk undef κ w (.refl _ _) hi ?_ (.refl _ _ _)⟩
  exact .tup rfl (fun i x v hx => by simp at hx)

theorem OpL.op {P : Program} {n : Nat} {ops : Array Oper} {j : Nat} {o : Oper} {c : COp} {bef : Nat} (ho : ops[j]? = some o) (hc : compO P n ops o bef = some c) (hnc : c.op.isCall = false) {s : Nat → AV} {h : Nat → Blk} {fr : Nat} (hw : wantedAV s c.guard = some true) {r : Res}
    (hr : aop c.op s h fr = some r) (hfr : h fr = .dead) : OpL P n ops j c.dst c.rd (c.op.touch s ++ r.ups.map Prod.fst) s h r.v r.ups := by
  intro rr κ sl h' w a Q Kk hrd hT hdead hi hs hn hk
  simp only [compO] at hc
  split at hc <;> first | (cases hc; done) | skip
  rename_i c0 g hc0 hg
  split at hc <;> first | (cases hc; done) | skip
  simp only [Option.some.injEq] at hc; subst hc
  simp only at hr hw hk hrd hT hnc
  have hw' : wantedAV sl g = some true := by
    rw [← hw]
    cases g with
    | none => rfl
    | some q => simp only [wantedAV]; rw [hrd q.1 (by simp [COp.rd])]
  have h1 : aop c0 sl h' fr = some r := by
    rw [aop_local (sl := sl) (h := h), aop_slots (sl := s), hr]
    · exact fun t ht => hrd t (by simp [COp.rd, ht])
    · intro b hb
      refine hT b (List.mem_append_left _ ?_)
      have : c0.touch sl = c0.touch s := by
        have hev : ∀ x : Opd, (∀ t ∈ x.rd, t ∈ c0.rd) → x.ev sl = x.ev s := fun x hx => ev_congr fun t ht => hrd t (by simp [COp.rd, hx t ht])
        cases c0 with
        | load _ _ x => simp only [AOp.touch]; rw [hev x (fun t ht => ht)]
        | store _ x y => simp only [AOp.touch]; rw [hev x (fun t ht => by simp [AOp.rd, ht])]
        | iaddr _ x y => simp only [AOp.touch]; rw [hev x (fun t ht => by simp [AOp.rd, ht])]
        | slcM _ x _ _ => simp only [AOp.touch]; rw [hev x (fun t ht => by simp [AOp.rd, ht])]
        | clear _ _ x => simp only [AOp.touch]; rw [hev x (fun t ht => ht)]
        | slc _ x _ _ => simp only [AOp.touch]; rw [hev x (fun t ht => by simp [AOp.rd, ht])]
        | append _ _ x y => simp only [AOp.touch]; rw [hev x (fun t ht => by simp [AOp.rd, ht]), hev y (fun t ht => by simp [AOp.rd, ht])]
        | _ => rfl
      rwa [this] at hb
  have hc1 : compOp P o.op o.type = some c0 := (compOpB_spec hc0).resolve_right fun h => by subst h; simp [aop] at hr
  have hrun : Runs P (execOp a.eval o) κ h' w r.v (updL h' r.ups) := by
    by_cases hex : ∀ p ∈ r.ups, p.1 ≠ fr
    · obtain ⟨b, hb⟩ := hdead
      exact aop_sound hc1 hnc hi hs hb (aop_refr h1 hex)
    · have hin : fr ∈ r.ups.map Prod.fst := by
        simp only [Classical.not_forall, Classical.not_not] at hex
        obtain ⟨p, hp, rfl⟩ := hex
        exact List.mem_map_of_mem hp
      exact aop_sound hc1 hnc hi hs ((hT fr (List.mem_append_right _ hin)).trans hfr) h1
  unfold wpOpIn
  simp only [ho]
  rw [if_pos (wantedAV_sound (P := P) hg hs hn hw')]
  refine ⟨fun _ _ => trivial, ?_⟩
  rw [Oper.semAt_eq _ _ _ (not_defer hc0)]
  obtain ⟨u, κ', w', hor, hx, hi', hv, hc'⟩ := hrun
  rcases hor with hor | ⟨hor, rfl⟩
  · rw [hor]; exact hk u κ' w' hx hi' hv hc'
  · rw [hor]; exact hk _ κ' w' hx hi' hv hc'

theorem compOp_call {P : Program} {op : Op} {ty : TypeId} {f : Opd} {xs : List Opd} (h : compOp P op ty = some (.call f xs)) : ∃ F args argTypes, op = .call { callee := .value F, args, argTypes } ∧ f = copd F ∧ xs = args.toList.map copd := by
  unfold compOp at h
  split at h
  all_goals
    repeat' first
      | (simp only [Option.some.injEq, AOp.call.injEq] at h; exact ⟨_, _, _, rfl, h.1.symm, h.2.symm⟩)
      | (cases h; done)
      | (obtain ⟨_, _, h⟩ := Option.map_eq_some_iff.1 h; cases h; done)
      | split at h

theorem OpL.call {P : Program} {n : Nat} {ops : Array Oper} {j : Nat} {o : Oper} {c : COp} {bef : Nat} (ho : ops[j]? = some o) (hc : compO P n ops o bef = some c) {f : Opd} {xs : List Opd} (hop : c.op = .call f xs) {s : Nat → AV} {h : Nat → Blk} (hw : wantedAV s c.guard = some true)
    {fid : FuncId} {caps : List AV} (hf : f.ev s = .clo fid caps) {T : List Nat} {v : AV} {W : List (Nat × Blk)} (hC : CallsL P fid (xs.map (·.ev s) ++ caps) h T v W) : OpL P n ops j c.dst c.rd T s h v W := by
  intro rr κ sl h' w a Q Kk hrd hT hdead hi hs hn hk
  simp only [compO] at hc
  split at hc <;> first | (cases hc; done) | skip
  rename_i c0 g hc0 hg
  split at hc <;> first | (cases hc; done) | skip
  simp only [Option.some.injEq] at hc; subst hc
  simp only at hw hk hrd hop
  subst hop
  have hw' : wantedAV sl g = some true := by
    rw [← hw]
    cases g with
    | none => rfl
    | some q => simp only [wantedAV]; rw [hrd q.1 (by simp [COp.rd])]
  unfold wpOpIn
  simp only [ho]
  rw [if_pos (wantedAV_sound (P := P) hg hs hn hw')]
  refine ⟨fun _ _ => trivial, ?_⟩
  rw [Oper.semAt_eq _ _ _ (not_defer hc0)]
  have hfs : f.ev sl = .clo fid caps := by rw [← hf]; exact ev_congr fun t ht => hrd t (by simp [COp.rd, AOp.rd, ht])
  have hxs : xs.map (·.ev sl) = xs.map (·.ev s) := evL_congr fun t ht => hrd t (by simp [COp.rd, AOp.rd, ht])
  obtain ⟨F, args, argTypes, hop, rfl, rfl⟩ := compOp_call ((compOpB_spec hc0).resolve_right (by simp))
  have hF := ev_rel hs F
  rw [hfs] at hF
  obtain ⟨dst, op, ty, pos, after, guard⟩ := o
  simp only at hop
  subst hop
  generalize hFv : a.eval F = Fv at hF
  cases hF with
  | clo hl hr =>
    rename_i vs
    have hrun : (execOp a.eval { dst, op := .call { callee := .value F, args, argTypes }, type := ty, pos, after, guard }).run P w = .ok (.enter fid (args.map a.eval ++ vs)) w := by
      simp only [execOp, resolve, hFv, Deferred.ofValue, Sem.run_bind, Sem.run_pure, Result.andThen_ok, invoke, Array.empty_append]
      exact hC.enter _ _
    rw [hrun]
    simp only [Oper.uponIn]
    refine ⟨fun h => (by cases h), ?_⟩
    have hcalls := hC.calls κ w h' (args.map a.eval ++ vs) hT hi (by simp [hl]) (fun i x v hx hv => by
      by_cases hi' : i < args.size
      · rw [List.getElem?_append_left (by simpa using hi')] at hx
        rw [Array.getElem?_append_left (by simpa using hi')] at hv
        simp only [List.map_map, List.getElem?_map, Array.getElem?_toList, Array.getElem?_map] at hx hv
        cases hq : args[i]? with
        | none => simp [hq] at hx
        | some y =>
          simp only [hq, Option.map_some, Option.some.injEq, Function.comp] at hx hv
          subst hx hv
          have := ev_rel hs y
          rwa [ev_congr (x := copd y) (sl := s) (sl' := sl)] at this
          intro t ht
          exact hrd t (by
            simp only [COp.rd, AOp.rd, rdL, List.mem_append, List.mem_flatMap]
            exact .inl (.inr ⟨copd y, List.mem_map_of_mem (Array.mem_toList_iff.2 (Array.mem_of_getElem? hq)), ht⟩))
      · rw [List.getElem?_append_right (by simpa using hi')] at hx
        rw [Array.getElem?_append_right (by simpa using hi')] at hv
        simp only [List.length_map, Array.length_toList, Array.size_map] at hx hv
        exact hr _ _ _ hx hv)
    exact CallsIn.mono (F := wideR rr) hcalls (by
      rintro e w' ⟨u, κ', rfl, hx, hi', hv, hc'⟩
      exact hk u κ' w' hx hi' hv hc')

end Go.Am
end

section
set_option linter.unusedSimpArgs false
set_option linter.unusedVariables false
namespace Go.Am
open Go Go.RowKit

/-! ### A fold over those steps that were taken -/
section fold
variable {σ α : Type} (eff : σ → (Nat → α) → Nat → α) (wr : σ → Nat → Prop)

def gF (S : Nat → Bool) : Nat → List σ → (Nat → α) → Nat → α
  | _, [], f => f
  | i, x :: L, f => gF S (i + 1) L (if S i then eff x f else f)

variable {eff wr} (h1 : ∀ x f t, ¬ wr x t → eff x f t = f t) (h2 : ∀ x f g t, wr x t → eff x f t = eff x g t)
include h1 h2

theorem gF_agree {S S' : Nat → Bool} {t : Nat} : ∀ (L : List σ) (i : Nat) (f f' : Nat → α), (∀ k x, L[k]? = some x → wr x t → S (i + k) = S' (i + k)) → f t = f' t → gF eff S i L f t = gF eff S' i L f' t := by
  intro L
  induction L with
  | nil => intro i f f' _ h; exact h
  | cons x L ih =>
    intro i f f' h hf
    simp only [gF]
    refine ih (i + 1) _ _ (fun k y hk hy => ?_) ?_
    · have := h (k + 1) y (by simpa using hk) hy
      rwa [show i + (k + 1) = i + 1 + k by omega] at this
    · by_cases hw : wr x t
      · have := h 0 x rfl hw
        rw [Nat.add_zero] at this
        rw [this]
        split
        · exact h2 x f f' t hw
        · exact hf
      · have a1 : (if S i then eff x f else f) t = f t := by split; exact h1 x f t hw; rfl
        have a2 : (if S' i then eff x f' else f') t = f' t := by split; exact h1 x f' t hw; rfl
        rw [a1, a2]; exact hf

omit h2 in
theorem gF_none {S : Nat → Bool} {t : Nat} : ∀ (L : List σ) (i : Nat) (f : Nat → α), (∀ k x, L[k]? = some x → wr x t → S (i + k) = false) → gF eff S i L f t = f t := by
  intro L
  induction L with
  | nil => intro i f _; rfl
  | cons x L ih =>
    intro i f h
    simp only [gF]
    rw [ih (i + 1) _ (fun k y hk hy => by have := h (k + 1) y (by simpa using hk) hy; rwa [show i + (k + 1) = i + 1 + k by omega] at this)]
    split
    · rename_i hS
      by_cases hw : wr x t
      · have := h 0 x rfl hw; rw [Nat.add_zero, hS] at this; cases this
      · exact h1 x f t hw
    · rfl

theorem gF_add {S S' : Nat → Bool} {t : Nat} {x : σ} : ∀ (L : List σ) (i j : Nat) (f : Nat → α), L[j]? = some x → S (i + j) = false → S' (i + j) = true → (∀ k, k ≠ i + j → S' k = S k) → (∀ k y, j < k → L[k]? = some y → wr y t → wr x t → S (i + k) = false) →
    gF eff S' i L f t = eff x (gF eff S i L f) t := by
  intro L
  induction L with
  | nil => intro i j f h; simp at h
  | cons y L ih =>
    intro i j f hj hS hS' hother hlater
    simp only [gF]
    cases j with
    | zero =>
      simp only [List.getElem?_cons_zero, Option.some.injEq] at hj
      subst hj
      rw [Nat.add_zero] at hS hS' hother
      rw [if_pos hS', hS]
      simp only [Bool.false_eq_true, if_false]
      by_cases hw : wr y t
      · rw [h2 y _ f t hw]
        refine gF_none h1 L (i + 1) _ fun k z hk hz => ?_
        rw [hother _ (by omega)]
        have := hlater (k + 1) z (by omega) (by simpa using hk) hz hw
        rwa [show i + (k + 1) = i + 1 + k by omega] at this
      · rw [h1 y _ t hw]
        exact gF_agree h1 h2 L (i + 1) _ _ (fun k z hk hz => hother _ (by omega)) (h1 y f t hw)
    | succ j =>
      rw [hother i (by omega)]
      refine ih (i + 1) j _ (by simpa using hj) ?_ ?_ (fun k hk => hother k (by omega)) (fun k z hk hz hw1 hw2 => ?_)
      · rwa [show i + (j + 1) = i + 1 + j by omega] at hS
      · rwa [show i + (j + 1) = i + 1 + j by omega] at hS'
      · have := hlater (k + 1) z (by omega) (by simpa using hz) hw1 hw2
        rwa [show i + (k + 1) = i + 1 + k by omega] at this

omit h1 h2 in
theorem gF_all {S S' : Nat → Bool} : ∀ (L : List σ) (i : Nat) (f : Nat → α), (∀ k, k < L.length → S (i + k) = S' (i + k)) → gF eff S i L f = gF eff S' i L f := by
  intro L
  induction L with
  | nil => intro i f _; rfl
  | cons x L ih =>
    intro i f h
    simp only [gF]
    have := h 0 (by simp)
    rw [Nat.add_zero] at this
    rw [this]
    exact ih (i + 1) _ fun k hk => by
      have := h (k + 1) (by simpa using hk)
      rwa [show i + (k + 1) = i + 1 + k by omega] at this
end fold

def updO (f : Nat → AV) (d : Option Nat) (v : AV) : Nat → AV := match d with
  | some d => upd f d v
  | none => f

structure Step where
  c : COp
  T : List Nat
  v : AV
  W : List (Nat × Blk)

def sEff (x : Step) (f : Nat → AV) : Nat → AV := updO f x.c.dst x.v
def hEff (x : Step) (f : Nat → Blk) : Nat → Blk := updL f x.W
def sWr (x : Step) (t : Nat) : Prop := x.c.dst = some t
def hWr (x : Step) (b : Nat) : Prop := ∃ p ∈ x.W, p.1 = b

theorem s1 : ∀ (x : Step) (f : Nat → AV) (t : Nat), ¬ sWr x t → sEff x f t = f t := by
  intro x f t h
  unfold sEff updO
  cases hd : x.c.dst with
  | none => rfl
  | some d => exact upd_other _ _ fun e => h (by rw [sWr, hd, e])
theorem s2 : ∀ (x : Step) (f g : Nat → AV) (t : Nat), sWr x t → sEff x f t = sEff x g t := by
  intro x f g t h
  unfold sEff updO
  rw [h]; simp
theorem h1 : ∀ (x : Step) (f : Nat → Blk) (b : Nat), ¬ hWr x b → hEff x f b = f b := fun x f b h => updL_other _ _ fun p hp e => h ⟨p, hp, e⟩
theorem updL_congr {b : Nat} : ∀ (l : List (Nat × Blk)) (f g : Nat → Blk), (f b = g b ∨ ∃ p ∈ l, p.1 = b) → updL f l b = updL g l b := by
  intro l
  induction l with
  | nil => intro f g h; exact h.resolve_right (by rintro ⟨p, hp, _⟩; cases hp)
  | cons p l ih =>
    intro f g h
    rw [updL_cons, updL_cons]
    refine ih _ _ ?_
    by_cases hp : p.1 = b
    · left; rw [hp]; simp
    · rcases h with h | ⟨q, hq, e⟩
      · left; rw [upd_other _ _ (Ne.symm hp), upd_other _ _ (Ne.symm hp)]; exact h
      · rcases List.mem_cons.1 hq with rfl | hq
        · exact absurd e hp
        · exact .inr ⟨q, hq, e⟩
theorem h2 : ∀ (x : Step) (f g : Nat → Blk) (b : Nat), hWr x b → hEff x f b = hEff x g b := fun x f g b h => updL_congr _ _ _ (.inr h)

/-! ### One step of a frame -/
def RelF (E : Env) (sl : Nat → AV) (h : Nat → Blk) (a : Act) (w : World) : Prop :=
  ∃ κ, Ext E.κ E.w κ w ∧ Chg E.κ (hget E.hl) E.w κ h w ∧ Inv κ h w ∧ SRel κ w sl a ∧ a.tmps.size = E.n ∧ Marks E.mb a.defers w ∧ Inv E.κ (hget E.hl) E.w

theorem SRel.put {κ : K} {w : World} {sl : Nat → AV} {a : Act} {n : Nat} (hs : SRel κ w sl a) (hn : a.tmps.size = n) {d : Option Nat} (hd : compDst n d = true) {v : AV} {u : Value} (hv : VRel κ w v u) : SRel κ w (updO sl d v) (a.put d u) := by
  cases d with
  | none => exact hs
  | some d =>
    simp only [compDst, decide_eq_true_eq] at hd
    intro t
    simp only [updO, Act.put]
    by_cases ht : t = d
    · subst ht
      have : t < a.tmps.size := by rw [hn]; exact hd
      simpa [this] using hv
    · rw [upd_other _ _ ht]
      have := hs t
      simpa [Array.getElem?_setIfInBounds, Ne.symm ht] using this

theorem RelF.step {P : Program} {E : Env} {sl s : Nat → AV} {h h0 : Nat → Blk} {a : Act} {w : World} (hr : RelF E sl h a w) {ops : Array Oper} {j : Nat} {dst : Option Nat} {rd T : List Nat} {v : AV} {W : List (Nat × Blk)} (ho : OpL P E.n ops j dst rd T s h0 v W) (hd : compDst E.n dst = true)
    (h1 : ∀ t ∈ rd, sl t = s t) (h2 : ∀ b ∈ T, h b = h0 b) (h3 : ∃ b, h b = .dead) {r : Option Nat} {Q : Exit → Act → World → Prop} {Kk : Act → World → Prop} (hk : ∀ a' w', RelF E (updO sl dst v) (updL h W) a' w' → Kk a' w') : wpOpIn (wideR r) 0 P ops Q j Kk a w := by
  obtain ⟨κ, hx, hc, hi, hs, hn, hmk, hE⟩ := hr
  refine ho r κ sl h w a Q Kk h1 h2 h3 hi hs hn fun u κ' w' hx' hi' hv hc' => hk _ _ ⟨κ', hx.trans hx', hc.trans hc', hi', SRel.put (fun t => (hs t).ext hx') hn hd hv, ?_, ?_, hE⟩
  · cases dst <;> simp [Act.put, hn]
  · obtain ⟨Ds, hnd, hds, hDs⟩ := hmk
    refine ⟨Ds, hnd, ?_, fun D hD => ⟨(hDs D hD).1, hc'.keepDef hi _ _ (hDs D hD).2⟩⟩
    cases dst <;> exact hds

end Go.Am
end
