/- Compiled code, what it does, and that the machine does it.
   Conditions: none. -/
import Derived.RangeFuncIn
import Derived.RangeFuncRecord
import Derived.Test.YtkbpkbjfphdgeaaAm7
section
set_option linter.unusedSimpArgs false
set_option linter.unusedVariables false
namespace Go.Am
open Go Go.RowKit

inductive CCode where
  | skip
  | region (draw : Bool) (ops : List COp)
  | seq (a b : CCode)
  | cond (c : Opd) (x y : CCode)
  | block (id : Nat) (c : CCode)
  | loop (c : CCode)
  | rangeF (f : Opd) (ps : List Nat) (assign body : CCode)
  | exit (id : Nat)
  | ret
  deriving Inhabited

def compOs (P : Program) (n : Nat) (ops : Array Oper) : List Oper → List Nat → Option (List COp)
  | [], _ => some []
  | o :: os, bs => match compO P n ops o (bs.headD 0), compOs P n ops os bs.tail with
    | some c, some cs => some (c :: cs)
    | _, _ => none

def compReg (P : Program) (n : Nat) (ops : Array Oper) (draw : Bool) : Option (List COp) :=
  match compOs P n ops ops.toList (if draw then (Region.before ops).toList else []) with
  | some cs => if draw = true then (if befOk (cs.map (·.bef)) 0 ops.toList cs = true ∧ slotsOk 0 cs = true then some cs else none) else some cs
  | none => none

def compC (P : Program) (n : Nat) : Code → Option CCode
  | .skip => some .skip
  | .region _ ops draw => (compReg P n ops draw).map (.region draw)
  | .seq a b => match compC P n a, compC P n b with
    | some x, some y => some (.seq x y)
    | _, _ => none
  | .cond c a b => match compC P n a, compC P n b with
    | some x, some y => some (.cond (copd c) x y)
    | _, _ => none
  | .block id c => (compC P n c).map (.block id)
  | .loop c => (compC P n c).map .loop
  | .rangeFunc f ps a b => match compC P n a, compC P n b with
    | some x, some y => if (ps.toList.all fun p => decide (p < n)) = true then some (.rangeF (copd f) ps.toList x y) else none
    | _, _ => none
  | .exit id => some (.exit id)
  | .ret => some .ret
  | _ => none

def setO (al : List (Nat × AV)) (d : Option Nat) (v : AV) : List (Nat × AV) := match d with
  | some d => set al d v
  | none => al
def hsetL (hl : List Blk) (W : List (Nat × Blk)) : List Blk := W.foldl hset hl

def okW : Nat → List (Nat × Blk) → Bool
  | _, [] => true
  | n, p :: W => decide (p.1 ≤ n) && okW (if p.1 = n then n + 1 else n) W

theorem get_setO (al : List (Nat × AV)) (d : Option Nat) (v : AV) : get (setO al d v) = updO (get al) d v := by
  cases d with
  | none => rfl
  | some d => exact get_set al d v

theorem hset_length (hl : List Blk) (p : Nat × Blk) (h : p.1 ≤ hl.length) : (hset hl p).length = if p.1 = hl.length then hl.length + 1 else hl.length := by
  unfold hset
  split
  · rename_i hlt; rw [if_neg (by omega)]; simp
  · rename_i hlt; rw [if_pos (by omega)]; simp

theorem hget_hsetL : ∀ (W : List (Nat × Blk)) (hl : List Blk), okW hl.length W = true → hget (hsetL hl W) = updL (hget hl) W := by
  intro W
  induction W with
  | nil => intro hl _; rfl
  | cons p W ih =>
    intro hl h
    simp only [okW, Bool.and_eq_true, decide_eq_true_eq] at h
    simp only [hsetL, List.foldl_cons, updL_cons]
    have := ih (hset hl p) (by rw [hset_length hl p h.1]; exact h.2)
    simp only [hsetL] at this
    rw [this, hget_hset hl p h.1]

theorem hsetL_length : ∀ (W : List (Nat × Blk)) (hl : List Blk), okW hl.length W = true → hl.length ≤ (hsetL hl W).length ∧ ∀ p ∈ W, p.1 < (hsetL hl W).length := by
  intro W
  induction W with
  | nil => intro hl _; exact ⟨Nat.le_refl _, fun p hp => by cases hp⟩
  | cons p W ih =>
    intro hl h
    simp only [okW, Bool.and_eq_true, decide_eq_true_eq] at h
    have hlen := hset_length hl p h.1
    obtain ⟨h1, h2⟩ := ih (hset hl p) (by rw [hlen]; exact h.2)
    simp only [hsetL, List.foldl_cons] at h1 h2 ⊢
    refine ⟨Nat.le_trans ?_ h1, fun q hq => ?_⟩
    · rw [hlen]; split <;> omega
    · rcases List.mem_cons.1 hq with rfl | hq
      · refine Nat.lt_of_lt_of_le ?_ h1
        rw [hlen]
        have := h.1
        split <;> omega
      · exact h2 q hq

/-- A call among the operations of a region: what it does is told by a contract. -/
def RunCall (P : Program) (f : Opd) (xs : List Opd) (dst : Option Nat) (bef : Nat) (al : List (Nat × AV)) (hl : List Blk) (tr : List (List Nat × List Nat × Nat)) (next : List (Nat × AV) → List Blk → List (List Nat × List Nat × Nat) → Prop) : Prop :=
  ∃ (fid : FuncId) (caps : List AV) (T : List Nat) (r : AV) (W : List (Nat × Blk)), f.ev (get al) = .clo fid caps ∧ CallsL P fid (xs.map (·.ev (get al)) ++ caps) (hget hl) T r W ∧
    (okW hl.length W && W.all (fun p => T.contains p.1)) = true ∧ next (setO al dst r) (hsetL hl W) ((T, W.map Prod.fst, bef) :: tr)

/-- The operations of a region, one after the other; 'tr' gathers what each touched. -/
def RunOps (P : Program) : List COp → List (Nat × AV) → List Blk → List (List Nat × List Nat × Nat) → (St → List (List Nat × List Nat × Nat) → Prop) → Prop
  | [], al, hl, tr, K => K ⟨al, hl⟩ tr.reverse
  | c :: cs, al, hl, tr, K => match wantedAV (get al) c.guard with
    | none => False
    | some false => RunOps P cs (setO al c.dst (.tup [])) hl (([], [], c.bef) :: tr) K
    | some true => match c.op with
      | .call f xs => RunCall P f xs c.dst c.bef al hl tr fun al hl tr => RunOps P cs al hl tr K
      | op => match aop op (get al) (hget hl) hl.length with
        | none => False
        | some r => RunOps P cs (setO al c.dst r.v) (hsetL hl r.ups) ((op.touch (get al) ++ r.ups.map Prod.fst, r.ups.map Prod.fst, c.bef) :: tr) K

theorem RunOps.mono {P : Program} : ∀ (cs : List COp) (al : List (Nat × AV)) (hl : List Blk) (tr : List (List Nat × List Nat × Nat)) {K K' : St → List (List Nat × List Nat × Nat) → Prop}, (∀ s t, K s t → K' s t) → RunOps P cs al hl tr K → RunOps P cs al hl tr K' := by
  intro cs
  induction cs with
  | nil => intro al hl tr K K' hk h; exact hk _ _ h
  | cons c cs ih =>
    intro al hl tr K K' hk h
    simp only [RunOps] at h ⊢
    split at h
    · exact h
    · exact ih _ _ _ hk h
    · split at h
      · obtain ⟨fid, caps, T, r, W, h1, h2, h3, h4⟩ := h
        exact ⟨fid, caps, T, r, W, h1, h2, h3, ih _ _ _ hk h4⟩
      · split at h
        · exact h
        · exact ih _ _ _ hk h

/-- One operation as a step. -/
theorem RunOps.head {P : Program} {n : Nat} {ops : Array Oper} {j : Nat} {o : Oper} {c : COp} {bef : Nat} (ho : ops[j]? = some o) (hc : compO P n ops o bef = some c) {cs : List COp} {al : List (Nat × AV)} {hl : List Blk} {tr : List (List Nat × List Nat × Nat)} {K : St → List (List Nat × List Nat × Nat) → Prop}
    (h : RunOps P (c :: cs) al hl tr K) : ∃ x : Step, x.c = c ∧ OpL P n ops j c.dst c.rd x.T (get al) (hget hl) x.v x.W ∧ compDst n c.dst = true ∧ okW hl.length x.W = true ∧ (∀ p ∈ x.W, p.1 ∈ x.T) ∧ RunOps P cs (setO al c.dst x.v) (hsetL hl x.W) (x.tr :: tr) K := by
  have hd : compDst n c.dst = true := by
    simp only [compO] at hc
    split at hc <;> first | (cases hc; done) | skip
    split at hc <;> first | (cases hc; done) | skip
    rename_i hd
    simp only [Option.some.injEq] at hc; subst hc
    exact hd
  simp only [RunOps] at h
  split at h
  · exact h.elim
  · rename_i hw
    exact ⟨⟨c, [], .tup [], []⟩, rfl, OpL.skip ho hc hw, hd, rfl, fun p hp => by (cases hp), h⟩
  · rename_i hw
    split at h
    · rename_i f xs hop
      obtain ⟨fid, caps, T, r, W, h1, h2, h3, h4⟩ := h
      simp only [Bool.and_eq_true, List.all_eq_true, List.contains_iff_mem] at h3
      exact ⟨⟨c, T, r, W⟩, rfl, OpL.call ho hc hop hw h1 h2, hd, h3.1, h3.2, h4⟩
    · rename_i hnc
      split at h
      · exact h.elim
      rename_i r h1
      have h2 := h
      have hcall : c.op.isCall = false := by
        cases hop : c.op <;> first | rfl | exact absurd hop (hnc _ _)
      refine ⟨⟨c, _, r.v, r.ups⟩, rfl, OpL.op ho hc hcall hw h1 (hget_dead _ _ (Nat.le_refl _)), hd, ?_, fun p hp => List.mem_append_right _ (List.mem_map_of_mem hp), h2⟩
      rcases aop_ups h1 with h3 | ⟨b, blk, h3, h4⟩
      · rw [h3]; rfl
      · rw [h3]
        simp only [okW, Bool.and_true, decide_eq_true_eq]
        rcases h4 with rfl | ⟨_, h4⟩
        · exact Nat.le_refl _
        · refine Nat.le_of_lt (Nat.lt_of_not_le fun hle => h4 (hget_dead _ _ hle))

theorem rel_relF {E : Env} {s : St} {a : Act} {w : World} : Rel E s a w ↔ RelF E (get s.al) (hget s.hl) a w := Iff.rfl

theorem RunOps.text {P : Program} {E : Env} {ops : Array Oper} {r : Option Nat} {Q : Exit → Act → World → Prop} : ∀ (os : List Oper) (bs : List Nat) (cs : List COp) (j : Nat) (al : List (Nat × AV)) (hl : List Blk) (tr : List (List Nat × List Nat × Nat)) (K : St → List (List Nat × List Nat × Nat) → Prop),
    compOs P E.n ops os bs = some cs → (∀ k o, os[k]? = some o → ops[j + k]? = some o) → RunOps P cs al hl tr K → (∀ s t a w, Rel E s a w → K s t → Q .normal a w) → ∀ a w, Rel E ⟨al, hl⟩ a w → wpOpsIn (wideR r) 0 P ops Q (List.range' j os.length) a w := by
  intro os
  induction os with
  | nil =>
    intro bs cs j al hl tr K hcs _ hrun hK a w hr
    simp only [compOs, Option.some.injEq] at hcs; subst hcs
    simp only [RunOps] at hrun
    exact hK _ _ a w hr hrun
  | cons o os ih =>
    intro bs cs j al hl tr K hcs hops hrun hK a w hr
    simp only [compOs] at hcs
    split at hcs <;> first | (cases hcs; done) | skip
    rename_i c cs' hc hcs'
    simp only [Option.some.injEq] at hcs; subst hcs
    obtain ⟨x, hxc, h1, h2, h3, h4, h5⟩ := RunOps.head (hops 0 o rfl) hc hrun
    rw [List.length_cons, List.range'_succ, wpOpsIn_cons]
    refine RelF.step (rel_relF.1 hr) h1 h2 (fun _ _ => rfl) (fun _ _ => rfl) ⟨hl.length, hget_dead _ _ (Nat.le_refl _)⟩ fun a' w' hr' => ?_
    refine ih _ _ (j + 1) _ _ _ K hcs' (fun k o' hk => ?_) h5 hK a' w' ?_
    · have := hops (k + 1) o' (by simpa using hk)
      rwa [show j + (k + 1) = j + 1 + k by omega] at this
    · refine rel_relF.2 ?_
      rw [get_setO, hget_hsetL _ _ h3]
      exact hr'

theorem gF_append {σ α : Type} {eff : σ → (Nat → α) → Nat → α} {S : Nat → Bool} : ∀ (L L' : List σ) (i : Nat) (f : Nat → α), gF eff S i (L ++ L') f = gF eff S (i + L.length) L' (gF eff S i L f) := by
  intro L
  induction L with
  | nil => intro L' i f; rfl
  | cons x L ih =>
    intro L' i f
    simp only [List.cons_append, gF]
    rw [ih, List.length_cons, show i + 1 + L.length = i + (L.length + 1) by omega]

/-- The run as a list of steps. -/
theorem RunOps.steps {P : Program} {n : Nat} {ops : Array Oper} : ∀ (os : List Oper) (bs : List Nat) (cs : List COp) (j : Nat) (al : List (Nat × AV)) (hl : List Blk) (tr : List (List Nat × List Nat × Nat)) (K : St → List (List Nat × List Nat × Nat) → Prop),
    compOs P n ops os bs = some cs → (∀ k o, os[k]? = some o → ops[j + k]? = some o) → RunOps P cs al hl tr K →
    ∃ (L : List Step) (s' : St) (M : Nat), L.map (·.c) = cs ∧ K s' (tr.reverse ++ L.map Step.tr) ∧ hl.length ≤ M ∧ (∀ x ∈ L, (∀ p ∈ x.W, p.1 < M) ∧ (∀ p ∈ x.W, p.1 ∈ x.T)) ∧
      get s'.al = gF sEff (fun _ => true) 0 L (get al) ∧ hget s'.hl = gF hEff (fun _ => true) 0 L (hget hl) ∧
      ∀ (k : Nat) (x : Step), L[k]? = some x → OpL P n ops (j + k) x.c.dst x.c.rd x.T (sAt L (get al) k) (hAt L (hget hl) k) x.v x.W ∧ compDst n x.c.dst = true := by
  intro os
  induction os with
  | nil =>
    intro bs cs j al hl tr K hcs _ hrun
    simp only [compOs, Option.some.injEq] at hcs; subst hcs
    simp only [RunOps] at hrun
    exact ⟨[], ⟨al, hl⟩, hl.length, rfl, by simpa using hrun, Nat.le_refl _, fun x hx => (by cases hx), rfl, rfl, fun k x h => by simp at h⟩
  | cons o os ih =>
    intro bs cs j al hl tr K hcs hops hrun
    simp only [compOs] at hcs
    split at hcs <;> first | (cases hcs; done) | skip
    rename_i c cs' hc hcs'
    simp only [Option.some.injEq] at hcs; subst hcs
    obtain ⟨x, hxc, h1, h2, h3, h4, h5⟩ := RunOps.head (hops 0 o rfl) hc hrun
    obtain ⟨L, s', M, e1, e2, e3, e4, e5, e6, e7⟩ := ih _ _ (j + 1) _ _ _ K hcs' (fun k o' hk => by
      have := hops (k + 1) o' (by simpa using hk)
      rwa [show j + (k + 1) = j + 1 + k by omega] at this) h5
    obtain ⟨l1, l2⟩ := hsetL_length _ _ h3
    have hal : get (setO al c.dst x.v) = sEff x (get al) := by rw [get_setO, ← hxc]; rfl
    have hhl : hget (hsetL hl x.W) = hEff x (hget hl) := hget_hsetL _ _ h3
    have shift : ∀ (k : Nat), (fun m => decide (m < k + 1)) 0 = true := fun k => by simp
    have gsh : ∀ {α : Type} (eff : Step → (Nat → α) → Nat → α) (k : Nat) (L : List Step) (i : Nat) (f : Nat → α), gF eff (fun m => decide (m < k + 1)) (i + 1) L f = gF eff (fun m => decide (m < k)) i L f := by
      intro α eff k L
      induction L with
      | nil => intro i f; rfl
      | cons y L ih => intro i f; simp only [gF]; rw [ih]; simp
    have gtr : ∀ {α : Type} (eff : Step → (Nat → α) → Nat → α) (L : List Step) (i : Nat) (f : Nat → α), gF eff (fun _ => true) (i + 1) L f = gF eff (fun _ => true) i L f := by
      intro α eff L
      induction L with
      | nil => intro i f; rfl
      | cons y L ih => intro i f; simp only [gF]; rw [ih]
    refine ⟨x :: L, s', M, by simp [e1, hxc], by simpa using e2, Nat.le_trans l1 e3, fun y hy => ?_, ?_, ?_, fun k y hk => ?_⟩
    · rcases List.mem_cons.1 hy with rfl | hy
      · exact ⟨fun p hp => Nat.lt_of_lt_of_le (l2 p hp) e3, h4⟩
      · exact e4 y hy
    · rw [e5, hal]; simp only [gF, if_true]; rw [gtr]
    · rw [e6, hhl]; simp only [gF, if_true]; rw [gtr]
    · cases k with
      | zero =>
        simp only [List.getElem?_cons_zero, Option.some.injEq] at hk; subst hk
        have z1 : sAt (x :: L) (get al) 0 = get al := by
          unfold sAt
          funext t
          exact gF_none s1 _ _ _ fun k y _ _ => by simp
        have z2 : hAt (x :: L) (hget hl) 0 = hget hl := by
          unfold hAt
          funext t
          exact Am.gF_none Am.h1 _ _ _ fun k y _ _ => by simp
        rw [z1, z2, hxc]
        exact ⟨h1, h2⟩
      | succ k =>
        obtain ⟨q1, q2⟩ := e7 k y (by simpa using hk)
        refine ⟨?_, q2⟩
        have z1 : sAt (x :: L) (get al) (k + 1) = sAt L (get (setO al c.dst x.v)) k := by
          unfold sAt
          simp only [gF, shift, if_true]
          rw [gsh, hal]
        have z2 : hAt (x :: L) (hget hl) (k + 1) = hAt L (hget (hsetL hl x.W)) k := by
          unfold hAt
          simp only [gF, shift, if_true]
          rw [gsh, hhl]
        rw [z1, z2, show j + (k + 1) = j + 1 + k by omega]
        exact q1

end Go.Am
end

section
set_option linter.unusedSimpArgs false
set_option linter.unusedVariables false
namespace Go.Am
open Go Go.RowKit

structure CFn where
  code : CCode
  rvs : List RV
  n : Nat
  deriving Inhabited

def compF (P : Program) (f : FuncId) : Option CFn := match P.funcs[f]? with
  | some fn => if (fn.name == "runtime.NumGoroutine") = true then none else match fn.body with
    | some c => match compC P fn.ntmps c, compRVs P fn.results.toList with
      | some cc, some rvs => some ⟨cc, rvs, fn.ntmps⟩
      | _, _ => none
    | none => none
  | none => none

/-- What a round does: it ends well, or is left. -/
abbrev Hdl := List AV → List Blk → (Option Exit → List Blk → Prop) → Prop
def Hdl.Mono (Y : Hdl) : Prop := ∀ vs hl (K K' : Option Exit → List Blk → Prop), (∀ r h, K r h → K' r h) → Y vs hl K → Y vs hl K'

def RunY (P : Program) (Y : Hdl) : List COp → List (Nat × AV) → List Blk → Option Exit → (St → Option Exit → Prop) → Prop
  | [], al, hl, st, K => K ⟨al, hl⟩ st
  | c :: cs, al, hl, st, K => match wantedAV (get al) c.guard with
    | none => False
    | some false => RunY P Y cs (setO al c.dst (.tup [])) hl st K
    | some true => match c.op with
      | .call f xs => (f.ev (get al) = .yld ∧ st = none ∧ Y (xs.map (·.ev (get al))) hl (fun res hl' => RunY P Y cs (setO al c.dst (.bool res.isNone)) hl' res K)) ∨
          RunCall P f xs c.dst c.bef al hl [] (fun al hl _ => RunY P Y cs al hl st K)
      | op => match aop op (get al) (hget hl) hl.length with
        | none => False
        | some r => RunY P Y cs (setO al c.dst r.v) (hsetL hl r.ups) st K

def ythenK (K : Exit → St → Option Exit → Prop) (Y : St → Option Exit → Prop) : Exit → St → Option Exit → Prop
  | .normal, s, st => Y s st
  | e, s, st => K e s st
def yblockK (id : Nat) (K : Exit → St → Option Exit → Prop) : Exit → St → Option Exit → Prop
  | .exit id', s, st => if id' = id then K .normal s st else K (.exit id') s st
  | e, s, st => K e s st

def YLoop (W : St → Option Exit → (Exit → St → Option Exit → Prop) → Prop) (s : St) (st : Option Exit) (K : Exit → St → Option Exit → Prop) : Prop :=
  ∀ X : St → Option Exit → Prop, (∀ s st, W s st (ythenK K X) → X s st) → X s st

def YWp (P : Program) (m0 : Nat) (Y : Hdl) : CCode → St → Option Exit → (Exit → St → Option Exit → Prop) → Prop
  | .skip, s, st, K => K .normal s st
  | .region draw ops, s, st, K => if draw = true then ∃ q, q ≤ ops.length ∧ fullFrom q ops = true ∧ RunOps P (ops.take q) s.al s.hl [] (fun s' tr => blkOk 0 tr = true ∧ RunY P Y (ops.drop q) s'.al s'.hl st (K .normal))
      else RunY P Y ops s.al s.hl st (K .normal)
  | .seq x y, s, st, K => YWp P m0 Y x s st (ythenK K fun s' st' => YWp P m0 Y y s' st' K)
  | .cond c x y, s, st, K => match c.ev (get s.al) with
    | .bool true => YWp P m0 Y x s st K
    | .bool false => YWp P m0 Y y s st K
    | _ => False
  | .block id c, s, st, K => YWp P m0 Y c s st (yblockK id K)
  | .loop c, s, st, K => YLoop (fun s st K => (∃ (m : Nat) (al' : List (Nat × AV)), (m0 ≤ m ∧ (∀ p ∈ al', get s.al p.1 = p.2 ∧ (p.2.lt m || p.2.isY) = true) ∧ ∀ b ∈ s.hl.take m, b.lt m = true) ∧ YWp P m0 Y c ⟨al', s.hl.take m⟩ st K) ∨ YWp P m0 Y c s st K) s st K
  | .rangeF _ _ _ _, _, _, _ => False
  | .exit id, s, st, K => K (.exit id) s st
  | .ret, s, st, K => K .ret s st

theorem RunCall.mono {P : Program} {f : Opd} {xs : List Opd} {dst : Option Nat} {bef : Nat} {al : List (Nat × AV)} {hl : List Blk} {tr : List (List Nat × List Nat × Nat)} {K K' : List (Nat × AV) → List Blk → List (List Nat × List Nat × Nat) → Prop} (hk : ∀ a h t, K a h t → K' a h t)
    (h : RunCall P f xs dst bef al hl tr K) : RunCall P f xs dst bef al hl tr K' := by
  obtain ⟨fid, caps, T, r, W, h1, h2, h3, h4⟩ := h
  exact ⟨fid, caps, T, r, W, h1, h2, h3, hk _ _ _ h4⟩

theorem RunY.mono {P : Program} {Y : Hdl} (hY : Y.Mono) : ∀ (cs : List COp) (al : List (Nat × AV)) (hl : List Blk) (st : Option Exit) {K K' : St → Option Exit → Prop}, (∀ s t, K s t → K' s t) → RunY P Y cs al hl st K → RunY P Y cs al hl st K' := by
  intro cs
  induction cs with
  | nil => intro al hl st K K' hk h; exact hk _ _ h
  | cons c cs ih =>
    intro al hl st K K' hk h
    simp only [RunY] at h ⊢
    split at h
    · exact h
    · exact ih _ _ _ hk h
    · split at h
      · rcases h with ⟨h1, h2, h3⟩ | h
        · exact .inl ⟨h1, h2, hY _ _ _ _ (fun r h h4 => ih _ _ _ hk h4) h3⟩
        · exact .inr (h.mono fun a h t h4 => ih _ _ _ hk h4)
      · split at h
        · exact h
        · exact ih _ _ _ hk h

theorem YWp.mono {P : Program} {m0 : Nat} {Y : Hdl} (hY : Y.Mono) : ∀ (c : CCode) (s : St) (st : Option Exit) {K K' : Exit → St → Option Exit → Prop}, (∀ e s t, K e s t → K' e s t) → YWp P m0 Y c s st K → YWp P m0 Y c s st K' := by
  intro c
  induction c with
  | skip => intro s st K K' hk h; exact hk _ _ _ h
  | exit id => intro s st K K' hk h; exact hk _ _ _ h
  | ret => intro s st K K' hk h; exact hk _ _ _ h
  | rangeF => intro s st K K' hk h; exact h
  | region draw ops =>
    intro s st K K' hk h
    simp only [YWp] at h ⊢
    split
    · rename_i hd
      rw [if_pos hd] at h
      obtain ⟨q, h1, h2, h3⟩ := h
      exact ⟨q, h1, h2, RunOps.mono _ _ _ _ (fun s t h => ⟨h.1, RunY.mono hY _ _ _ _ (fun s t => hk _ _ _) h.2⟩) h3⟩
    · rename_i hd
      rw [if_neg hd] at h
      exact RunY.mono hY _ _ _ _ (fun s t => hk _ _ _) h
  | seq x y ihx ihy =>
    intro s st K K' hk h
    refine ihx s st (fun e s' t h => ?_) h
    cases e <;> first | exact ihy s' t hk h | exact hk _ _ _ h
  | cond c x y ihx ihy =>
    intro s st K K' hk h
    simp only [YWp] at h ⊢
    split at h
    · exact ihx s st hk h
    · exact ihy s st hk h
    · exact h
  | block id c ih =>
    intro s st K K' hk h
    refine ih s st (fun e s' t h => ?_) h
    cases e <;> simp only [yblockK] at h ⊢ <;> first | exact hk _ _ _ h | skip
    split at h <;> (rename_i he; first | rw [if_pos he] | rw [if_neg he]) <;> exact hk _ _ _ h
  | loop c ih =>
    intro s st K K' hk h
    intro X hX
    refine h X fun s' t hh => hX s' t ?_
    rcases hh with ⟨m, al', h1, h2⟩ | h2
    · refine .inl ⟨m, al', h1, ih _ _ (fun e s t h => ?_) h2⟩
      cases e <;> first | exact h | exact hk _ _ _ h
    · refine .inr (ih _ _ (fun e s t h => ?_) h2)
      cases e <;> first | exact h | exact hk _ _ _ h

/-! ### The machine's side -/
def exitCode : Exit → Code
  | .exit id => .exit id
  | .goto t => .goto t
  | _ => .ret

/-- The loop's record between rounds, and after the last. -/
def recAt (R : Loop) : Option Exit → Loop
  | none => R
  | some e => { R with state := .done, pending := some (exitCode e) }

theorem putObj_put (w : World) (l : Nat) (o o' : Obj) : (w.putObj l o).putObj l o' = w.putObj l o' := by
  simp [World.putObj]

theorem putObj_self {w : World} {l : Nat} {o : Obj} (h : w.heap[l]? = some o) : w.putObj l o = w := by
  unfold World.putObj
  have : w.heap.setIfInBounds l o = w.heap := by
    obtain ⟨hlt, hg⟩ := Array.getElem?_eq_some_iff.1 h
    apply Array.ext
    · simp
    · intro i h1 h2
      by_cases hi : l = i
      · subst hi; rw [Array.getElem_setIfInBounds_self]; exact hg.symm
      · rw [Array.getElem_setIfInBounds_ne (h := hi)]
  rw [this]

theorem loop_ncells (R : Loop) : ∀ C e f, Obj.loop R ≠ .cells C e f := by intro C e f h; cases h

section conj
variable {κ κ' : K} {h h' : Nat → Blk} {w w' : World} {l : Nat} {o o1 : Obj}

theorem lies_ne (hi : Inv κ h w) (hl : w.heap[l]? = some o) (ho : ∀ C e f, o ≠ .cells C e f) : ∀ b loc, Lies κ h b loc → loc.c ≠ l := fun b loc hL he => by
  obtain ⟨g, frz, sz, xs, _, _, hr⟩ := hL.row hi
  obtain ⟨C, e, hC, _⟩ := hr.blk
  rw [he, hl] at hC; cases hC; exact ho _ _ _ rfl

/-- The same step, were the record another one. -/
theorem Chg.conj (hi : Inv κ h w) (hc : Chg κ h w κ' h' w') (hl : w.heap[l]? = some o) (ho : ∀ C e f, o ≠ .cells C e f) (o1 : Obj) : Chg κ h (w.putObj l o1) κ' h' (w'.putObj l o1) := by
  have hlt := (Array.getElem?_eq_some_iff.1 hl).1
  refine ⟨hc.os, hc.tape, hc.output, by simpa using hc.size, fun c hcl hL => ?_, fun b loc hL => ?_, fun c hcl hL => hc.prot c (by simpa using hcl) hL⟩
  · by_cases hcc : c = l
    · subst hcc
      rw [World.putObj_heap_same hlt, World.putObj_heap_same (Nat.lt_of_lt_of_le hlt hc.size)]
    · rw [World.putObj_heap_other hcc, World.putObj_heap_other hcc]
      exact hc.blk c (by simpa using hcl) hL
  · rcases hc.lies b loc hL with h1 | h1
    · exact .inl h1
    · exact .inr (by simpa using h1)

theorem Chg.keepObj (hi : Inv κ h w) (hc : Chg κ h w κ' h' w') (hl : w.heap[l]? = some o) (ho : ∀ C e f, o ≠ .cells C e f) : w'.heap[l]? = some o := by
  rw [hc.blk l (Array.getElem?_eq_some_iff.1 hl).1 (lies_ne hi hl ho)]; exact hl

theorem Ext.unput (hx : Ext κ w κ' w') (hl : w'.heap[l]? = some o) (ho : ∀ C e f, o ≠ .cells C e f) (o1 : Obj) : Ext κ w κ' (w'.putObj l o1) := hx.put l o o1 hl ho
end conj

/-- Slots and rows of an iterator; the loop's record. -/
def RelY (E : Env) (l : Nat) (R : Loop) (sl : Nat → AV) (h : Nat → Blk) (st : Option Exit) (a : Act) (w : World) : Prop :=
  ∃ w0, RelF E sl h a w0 ∧ w0.heap[l]? = some (.loop R) ∧ w = w0.putObj l (.loop (recAt R st))

theorem RelF.inv {E : Env} {sl : Nat → AV} {h : Nat → Blk} {a : Act} {w : World} (hr : RelF E sl h a w) : ∃ κ, Ext E.κ E.w κ w ∧ Chg E.κ (hget E.hl) E.w κ h w ∧ Inv κ h w ∧ SRel κ w sl a ∧ a.tmps.size = E.n ∧ Marks E.mb a.defers w ∧ Inv E.κ (hget E.hl) E.w := hr

/-- One more step behind a state. -/
theorem RelF.more {E : Env} {sl' : Nat → AV} {h h' : Nat → Blk} {a' : Act} {w w' : World} {κ κ' : K} (hx0 : Ext E.κ E.w κ w) (hc0 : Chg E.κ (hget E.hl) E.w κ h w) (hE : Inv E.κ (hget E.hl) E.w)
    (hx : Ext κ w κ' w') (hc : Chg κ h w κ' h' w') (hi : Inv κ' h' w') (hs : SRel κ' w' sl' a') (hn : a'.tmps.size = E.n) (hm : Marks E.mb a'.defers w') : RelF E sl' h' a' w' :=
  ⟨κ', hx0.trans hx, hc0.trans hc, hi, hs, hn, hm, hE⟩

theorem Marks.keep {B : Nat} {ds : List Deferred} {κ κ' : K} {h h' : Nat → Blk} {w w' : World} (hi : Inv κ h w) (hc : Chg κ h w κ' h' w') (hm : Marks B ds w) : Marks B ds w' := by
  obtain ⟨Ds, hnd, hds, hDs⟩ := hm
  exact ⟨Ds, hnd, hds, fun D hD => ⟨(hDs D hD).1, hc.keepDef hi _ _ (hDs D hD).2⟩⟩

theorem Marks.put {B : Nat} {ds : List Deferred} {w : World} (hm : Marks B ds w) {l : Nat} {R : Loop} (hl : w.heap[l]? = some (.loop R)) (o : Obj) : Marks B ds (w.putObj l o) := by
  obtain ⟨Ds, hnd, hds, hDs⟩ := hm
  refine ⟨Ds, hnd, hds, fun D hD => ⟨(hDs D hD).1, ?_⟩⟩
  rw [World.putObj_heap_other]
  · exact (hDs D hD).2
  · rintro rfl
    have := (hDs D hD).2
    rw [hl] at this; cases this

/-- What a handler of yields says of the machine's rounds. -/
def YOk (P : Program) (E : Env) (l : Nat) (R : Loop) (Y : Hdl) : Prop :=
  ∀ (vs : List AV) (hl : List Blk) (Kont : Option Exit → List Blk → Prop), Y vs hl Kont → ∀ (κ : K) (w0 : World) (us : Array Value), Ext E.κ E.w κ w0 → Inv κ (hget hl) w0 → w0.heap[l]? = some (.loop R) → vs.length = us.size →
    (∀ (i : Nat) (x : AV) (v : Value), vs[i]? = some x → us[i]? = some v → VRel κ w0 x v) →
    us.size = R.params.size ∧ RoundIn Fence.wide 0 P l R.fn ((R.params.zip us).foldl (fun tmps (t, a) => tmps.setIfInBounds t a) R.tmps) R.assign R.body w0 fun e w' =>
      ∃ (res : Option Exit) (hl' : List Blk) (κ' : K) (w0' : World), e = .returned (.bool res.isNone) ∧ Ext κ w0 κ' w0' ∧ Chg κ (hget hl) w0 κ' (hget hl') w0' ∧ Inv κ' (hget hl') w0' ∧ w0'.heap[l]? = some (.loop R) ∧ w' = w0'.putObj l (.loop (recAt R res)) ∧ Kont res hl'

theorem RelY.step {P : Program} {E : Env} {l : Nat} {R : Loop} {sl s : Nat → AV} {h h0 : Nat → Blk} {st : Option Exit} {a : Act} {w : World} (hr : RelY E l R sl h st a w) {ops : Array Oper} {j : Nat} {dst : Option Nat} {rd T : List Nat} {v : AV} {W : List (Nat × Blk)} (ho : OpL P E.n ops j dst rd T s h0 v W) (hd : compDst E.n dst = true)
    (h1 : ∀ t ∈ rd, sl t = s t) (h2 : ∀ b ∈ T, h b = h0 b) (h3 : ∃ b, h b = .dead) {r : Option Nat} {Q : Exit → Act → World → Prop} {Kk : Act → World → Prop} (hk : ∀ a' w', RelY E l R (updO sl dst v) (updL h W) st a' w' → Kk a' w') : wpOpIn (wideR r) 0 P ops Q j Kk a w := by
  obtain ⟨w0, ⟨κ, hx, hc, hi, hs, hn, hmk, hE⟩, hl, rfl⟩ := hr
  have hlt := (Array.getElem?_eq_some_iff.1 hl).1
  have hi' := hi.put l _ (.loop (recAt R st)) hl (loop_ncells R)
  have hx01 := (Ext.refl κ w0).put l _ (.loop (recAt R st)) hl (loop_ncells R)
  have hl1 : (w0.putObj l (.loop (recAt R st))).heap[l]? = some (.loop (recAt R st)) := World.putObj_heap_same hlt
  refine ho r κ sl h _ a Q Kk h1 h2 h3 hi' (fun t => (hs t).ext hx01) hn fun u κ' w' hx' hi2 hv hc' => hk _ _ ?_
  have hl2 : w'.heap[l]? = some (.loop (recAt R st)) := hc'.keepObj hi' hl1 (loop_ncells _)
  have hlt2 := (Array.getElem?_eq_some_iff.1 hl2).1
  have hx2 := (Ext.refl κ' w').put l _ (.loop R) hl2 (loop_ncells _)
  have hc2 := hc'.conj hi' hl1 (loop_ncells _) (.loop R)
  rw [putObj_put, putObj_self hl] at hc2
  refine ⟨w'.putObj l (.loop R), RelF.more hx hc hE ((hx01.trans hx').trans hx2) hc2 (hi2.put l _ _ hl2 (loop_ncells _)) (SRel.put (fun t => ((hs t).ext hx01).ext (hx'.trans hx2)) hn hd (hv.ext hx2)) ?_ ?_, World.putObj_heap_same hlt2, ?_⟩
  · cases dst <;> simp [Act.put, hn]
  · have := hmk.keep hi hc2
    cases dst <;> exact this
  · rw [putObj_put, putObj_self hl2]

/-- A yield. -/
theorem RelY.yield {P : Program} {E : Env} {l : Nat} {R : Loop} {Y : Hdl} (hY : YOk P E l R Y) {s : St} {a : Act} {w : World} (hr : RelY E l R (get s.al) (hget s.hl) none a w) {ops : Array Oper} {j : Nat} {o : Oper} {c : COp} {bef : Nat} (ho : ops[j]? = some o) (hc : compO P E.n ops o bef = some c) {f : Opd} {xs : List Opd} (hop : c.op = .call f xs)
    (hw : wantedAV (get s.al) c.guard = some true) (hyl : E.κ.yl = some l) (hf : f.ev (get s.al) = .yld) {Kont : Option Exit → List Blk → Prop} (hyy : Y (xs.map (·.ev (get s.al))) s.hl Kont) {Q : Exit → Act → World → Prop} {Kk : Act → World → Prop}
    (hk : ∀ res hl' a' w', RelY E l R (updO (get s.al) c.dst (.bool res.isNone)) (hget hl') res a' w' → Kont res hl' → Kk a' w') : wpOpIn (wideR none) 0 P ops Q j Kk a w := by
  obtain ⟨w0, ⟨κ, hx, hcg, hi, hs, hn, hmk, hE⟩, hl, rfl⟩ := hr
  have hself : w0.putObj l (.loop (recAt R none)) = w0 := putObj_self hl
  rw [hself]
  simp only [compO] at hc
  split at hc <;> first | (cases hc; done) | skip
  rename_i c0 g hc0 hg
  split at hc <;> first | (cases hc; done) | skip
  rename_i hdst
  simp only [Option.some.injEq] at hc; subst hc
  simp only at hw hk hop
  subst hop
  unfold wpOpIn
  simp only [ho]
  rw [if_pos (wantedAV_sound (P := P) hg hs hn hw)]
  refine ⟨fun _ _ => trivial, ?_⟩
  rw [Oper.semAt_eq _ _ _ (not_defer hc0)]
  obtain ⟨F, args, argTypes, hop, rfl, rfl⟩ := compOp_call ((compOpB_spec hc0).resolve_right (by simp))
  have hF := ev_rel hs F
  rw [hf] at hF
  obtain ⟨dst, op, ty, pos, after, guard⟩ := o
  simp only at hop
  subst hop
  generalize hFv : a.eval F = Fv at hF
  cases hF with
  | yld hyy' =>
  obtain rfl := Option.some.inj ((hx.yl.trans hyl).symm.trans hyy')
  obtain ⟨hsz, hround⟩ := hY _ _ _ hyy κ w0 (args.map a.eval) hx hi hl (by simp) (fun i x v hxi hvi => by
    simp only [List.map_map, List.getElem?_map, Array.getElem?_toList, Array.getElem?_map] at hxi hvi
    cases hq : args[i]? with
    | none => simp [hq] at hxi
    | some y =>
      simp only [hq, Option.map_some, Option.some.injEq, Function.comp] at hxi hvi
      subst hxi hvi
      exact ev_rel hs y)
  have hrun : (execOp a.eval { dst, op := .call { callee := .value F, args, argTypes }, type := ty, pos, after, guard }).run P w0 = .ok (.round l R.fn ((R.params.zip (args.map a.eval)).foldl (fun tmps (t, a) => tmps.setIfInBounds t a) R.tmps) R.assign R.body) w0 := by
    simp only [execOp, resolve, hFv, Deferred.ofValue, Sem.run_bind, Sem.run_pure, Result.andThen_ok, invoke, Array.empty_append, Array.append_empty]
    exact run_yield hl hsz
  rw [hrun]
  simp only [Oper.uponIn]
  refine ⟨fun h => (by cases h), hround.mono ?_⟩
  rintro e w' ⟨res, hl', κ', w0', rfl, hx', hc', hi', hl2, rfl, hK⟩
  refine hk res hl' _ _ ⟨w0', RelF.more hx hcg hE hx' hc' hi' (SRel.put (fun t => (hs t).ext hx') hn hdst (.bool _)) ?_ ?_, hl2, rfl⟩ hK
  · cases dst <;> simp [Act.put, hn]
  · have := hmk.keep hi hc'
    cases dst <;> exact this

end Go.Am
end
