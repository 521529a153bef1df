/- Compiled code, what it does, and that the machine does it.
   Conditions: none. -/
import Derived.RangeFuncIn
import Derived.RangeFuncRecord
import Derived.Test.YtkbpkbjfphdgeaaPart4
section
set_option linter.unusedSimpArgs false
set_option linter.unusedVariables false
namespace Go.Am
open Go Go.RowKit

inductive CCode where
  | skip
  | region (draw : Bool) (ops : List COp)
  | seq (a b : CCode)
  | cond (c : Opd) (x y : CCode)
  | block (id : Nat) (c : CCode)
  | loop (c : CCode)
  | rangeF (f : Opd) (ps : List Nat) (assign body : CCode)
  | exit (id : Nat)
  | ret
  deriving Inhabited
def compOs (P : Program) (n : Nat) (ops : Array Oper) : List Oper → List Nat → Option (List COp)
  | [], _ => some []
  | o :: os, bs => match compO P n ops o (bs.headD 0), compOs P n ops os bs.tail with
    | some c, some cs => some (c :: cs)
    | _, _ => none
def compReg (P : Program) (n : Nat) (ops : Array Oper) (draw : Bool) : Option (List COp) :=
  match compOs P n ops ops.toList (if draw then (Region.before ops).toList else []) with
  | some cs => if draw = true then (if befOk (cs.map (·.bef)) 0 ops.toList cs = true ∧ slotsOk 0 cs = true then some cs else none) else some cs
  | none => none
def compC (P : Program) (n : Nat) : Code → Option CCode
  | .skip => some .skip
  | .region _ ops draw => (compReg P n ops draw).map (.region draw)
  | .seq a b => match compC P n a, compC P n b with
    | some x, some y => some (.seq x y)
    | _, _ => none
  | .cond c a b => match compC P n a, compC P n b with
    | some x, some y => some (.cond (copd c) x y)
    | _, _ => none
  | .block id c => (compC P n c).map (.block id)
  | .loop c => (compC P n c).map .loop
  | .rangeFunc f ps a b => match compC P n a, compC P n b with
    | some x, some y => if (ps.toList.all fun p => decide (p < n)) = true then some (.rangeF (copd f) ps.toList x y) else none
    | _, _ => none
  | .exit id => some (.exit id)
  | .ret => some .ret
  | _ => none
def setO (al : List (Nat × AV)) (d : Option Nat) (v : AV) : List (Nat × AV) := match d with
  | some d => set al d v
  | none => al
def hsetL (hl : List Blk) (W : List (Nat × Blk)) : List Blk := W.foldl hset hl
def okW : Nat → List (Nat × Blk) → Bool
  | _, [] => true
  | n, p :: W => decide (p.1 ≤ n) && okW (if p.1 = n then n + 1 else n) W
theorem get_setO (al : List (Nat × AV)) (d : Option Nat) (v : AV) : get (setO al d v) = updO (get al) d v := by
  cases d with
  | none => rfl
  | some d => exact get_set al d v
theorem hset_length (hl : List Blk) (p : Nat × Blk) (h : p.1 ≤ hl.length) : (hset hl p).length = if p.1 = hl.length then hl.length + 1 else hl.length := by
  unfold hset
  split
  · rename_i hlt; rw [if_neg (by omega)]; simp
  · rename_i hlt; rw [if_pos (by omega)]; simp
theorem hget_hsetL : ∀ (W : List (Nat × Blk)) (hl : List Blk), okW hl.length W = true → hget (hsetL hl W) = updL (hget hl) W := by
  intro W
  induction W with
  | nil => intro hl _; rfl
  | cons p W ih =>
    intro hl h
    simp only [okW, Bool.and_eq_true, decide_eq_true_eq] at h
    simp only [hsetL, List.foldl_cons, updL_cons]
    have := ih (hset hl p) (by rw [hset_length hl p h.1]; exact h.2)
    simp only [hsetL] at this
    rw [this, hget_hset hl p h.1]
theorem hsetL_length : ∀ (W : List (Nat × Blk)) (hl : List Blk), okW hl.length W = true → hl.length ≤ (hsetL hl W).length ∧ ∀ p ∈ W, p.1 < (hsetL hl W).length := by
  intro W
  induction W with
  | nil => intro hl _; exact ⟨Nat.le_refl _, fun p hp => by cases hp⟩
  | cons p W ih =>
    intro hl h
    simp only [okW, Bool.and_eq_true, decide_eq_true_eq] at h
    have hlen := hset_length hl p h.1
    obtain ⟨h1, h2⟩ := ih (hset hl p) (by rw [hlen]; exact h.2)
    simp only [hsetL, List.foldl_cons] at h1 h2 ⊢
    refine ⟨Nat.le_trans ?_ h1, fun q hq => ?_⟩
    · rw [hlen]; split <;> omega
    · rcases List.mem_cons.1 hq with rfl | hq
      · refine Nat.lt_of_lt_of_le ?_ h1
        rw [hlen]
        have := h.1
        split <;> omega
      · exact h2 q hq
/-- A call among the operations of a region: what it does is told by a contract. -/
def RunCall (P : Program) (f : Opd) (xs : List Opd) (dst : Option Nat) (bef : Nat) (al : List (Nat × AV)) (hl : List Blk) (tr : List (List Nat × List Nat × Nat)) (next : List (Nat × AV) → List Blk → List (List Nat × List Nat × Nat) → Prop) : Prop :=
  ∃ (fid : FuncId) (caps : List AV) (T : List Nat) (r : AV) (W : List (Nat × Blk)), f.ev (get al) = .clo fid caps ∧ CallsL P fid (xs.map (·.ev (get al)) ++ caps) (hget hl) T r W ∧
    (okW hl.length W && W.all (fun p => T.contains p.1)) = true ∧ next (setO al dst r) (hsetL hl W) ((T, W.map Prod.fst, bef) :: tr)
/-- The operations of a region, one after the other; 'tr' gathers what each touched. -/
def RunOps (P : Program) : List COp → List (Nat × AV) → List Blk → List (List Nat × List Nat × Nat) → (St → List (List Nat × List Nat × Nat) → Prop) → Prop
  | [], al, hl, tr, K => K ⟨al, hl⟩ tr.reverse
  | c :: cs, al, hl, tr, K => match wantedAV (get al) c.guard with
    | none => False
    | some false => RunOps P cs (setO al c.dst (.tup [])) hl (([], [], c.bef) :: tr) K
    | some true => match c.op with
      | .call f xs => RunCall P f xs c.dst c.bef al hl tr fun al hl tr => RunOps P cs al hl tr K
      | op => match aop op (get al) (hget hl) hl.length with
        | none => False
        | some r => RunOps P cs (setO al c.dst r.v) (hsetL hl r.ups) ((op.touch (get al) ++ r.ups.map Prod.fst, r.ups.map Prod.fst, c.bef) :: tr) K
theorem RunOps.mono {P : Program} : ∀ (cs : List COp) (al : List (Nat × AV)) (hl : List Blk) (tr : List (List Nat × List Nat × Nat)) {K K' : St → List (List Nat × List Nat × Nat) → Prop}, (∀ s t, K s t → K' s t) → RunOps P cs al hl tr K → RunOps P cs al hl tr K' := by
  intro cs
  induction cs with
  | nil => intro al hl tr K K' hk h; exact hk _ _ h
  | cons c cs ih =>
    intro al hl tr K K' hk h
    simp only [RunOps] at h ⊢
    split at h
    · exact h
    · exact ih _ _ _ hk h
    · split at h
      · obtain ⟨fid, caps, T, r, W, h1, h2, h3, h4⟩ := h
        exact ⟨fid, caps, T, r, W, h1, h2, h3, ih _ _ _ hk h4⟩
      · split at h
        · exact h
        · exact ih _ _ _ hk h
/-- One operation as a step. -/
theorem RunOps.head {P : Program} {n : Nat} {ops : Array Oper} {j : Nat} {o : Oper} {c : COp} {bef : Nat} (ho : ops[j]? = some o) (hc : compO P n ops o bef = some c) {cs : List COp} {al : List (Nat × AV)} {hl : List Blk} {tr : List (List Nat × List Nat × Nat)} {K : St → List (List Nat × List Nat × Nat) → Prop}
    (h : RunOps P (c :: cs) al hl tr K) : ∃ x : Step, x.c = c ∧ OpL P n ops j c.dst c.rd x.T (get al) (hget hl) x.v x.W ∧ compDst n c.dst = true ∧ okW hl.length x.W = true ∧ (∀ p ∈ x.W, p.1 ∈ x.T) ∧ RunOps P cs (setO al c.dst x.v) (hsetL hl x.W) (x.tr :: tr) K := by
  have hd : compDst n c.dst = true := by
    simp only [compO] at hc
    split at hc <;> first | (cases hc; done) | skip
    split at hc <;> first | (cases hc; done) | skip
    rename_i hd
    simp only [Option.some.injEq] at hc; subst hc
    exact hd
  simp only [RunOps] at h
  split at h
  · exact h.elim
  · rename_i hw
    exact ⟨⟨c, [], .tup [], []⟩, rfl, OpL.skip ho hc hw, hd, rfl, fun p hp => by (cases hp), h⟩
  · rename_i hw
    split at h
    · rename_i f xs hop
      obtain ⟨fid, caps, T, r, W, h1, h2, h3, h4⟩ := h
      simp only [Bool.and_eq_true, List.all_eq_true, List.contains_iff_mem] at h3
      exact ⟨⟨c, T, r, W⟩, rfl, OpL.call ho hc hop hw h1 h2, hd, h3.1, h3.2, h4⟩
    · rename_i hnc
      split at h
      · exact h.elim
      rename_i r h1
      have h2 := h
      have hcall : c.op.isCall = false := by
        cases hop : c.op <;> first | rfl | exact absurd hop (hnc _ _)
      refine ⟨⟨c, _, r.v, r.ups⟩, rfl, OpL.op ho hc hcall hw h1 (hget_dead _ _ (Nat.le_refl _)), hd, ?_, fun p hp => List.mem_append_right _ (List.mem_map_of_mem hp), h2⟩
      rcases aop_ups h1 with h3 | ⟨b, blk, h3, h4⟩
      · rw [h3]; rfl
      · rw [h3]
        simp only [okW, Bool.and_true, decide_eq_true_eq]
        rcases h4 with rfl | ⟨_, h4⟩
        · exact Nat.le_refl _
        · refine Nat.le_of_lt (Nat.lt_of_not_le fun hle => h4 (hget_dead _ _ hle))
theorem rel_relF {E : Env} {s : St} {a : Act} {w : World} : Rel E s a w ↔ RelF E (get s.al) (hget s.hl) a w := Iff.rfl
theorem RunOps.text {P : Program} {E : Env} {ops : Array Oper} {r : Option Nat} {Q : Exit → Act → World → Prop} : ∀ (os : List Oper) (bs : List Nat) (cs : List COp) (j : Nat) (al : List (Nat × AV)) (hl : List Blk) (tr : List (List Nat × List Nat × Nat)) (K : St → List (List Nat × List Nat × Nat) → Prop),
    compOs P E.n ops os bs = some cs → (∀ k o, os[k]? = some o → ops[j + k]? = some o) → RunOps P cs al hl tr K → (∀ s t a w, Rel E s a w → K s t → Q .normal a w) → ∀ a w, Rel E ⟨al, hl⟩ a w → wpOpsIn (wideR r) 0 P ops Q (List.range' j os.length) a w := by
  intro os
  induction os with
  | nil =>
    intro bs cs j al hl tr K hcs _ hrun hK a w hr
    simp only [compOs, Option.some.injEq] at hcs; subst hcs
    simp only [RunOps] at hrun
    exact hK _ _ a w hr hrun
  | cons o os ih =>
    intro bs cs j al hl tr K hcs hops hrun hK a w hr
    simp only [compOs] at hcs
    split at hcs <;> first | (cases hcs; done) | skip
    rename_i c cs' hc hcs'
    simp only [Option.some.injEq] at hcs; subst hcs
    obtain ⟨x, hxc, h1, h2, h3, h4, h5⟩ := RunOps.head (hops 0 o rfl) hc hrun
    rw [List.length_cons, List.range'_succ, wpOpsIn_cons]
    refine RelF.step (rel_relF.1 hr) h1 h2 (fun _ _ => rfl) (fun _ _ => rfl) ⟨hl.length, hget_dead _ _ (Nat.le_refl _)⟩ fun a' w' hr' => ?_
    refine ih _ _ (j + 1) _ _ _ K hcs' (fun k o' hk => ?_) h5 hK a' w' ?_
    · have := hops (k + 1) o' (by simpa using hk)
      rwa [show j + (k + 1) = j + 1 + k by omega] at this
    · refine rel_relF.2 ?_
      rw [get_setO, hget_hsetL _ _ h3]
      exact hr'
/-- The run as a list of steps. -/
theorem RunOps.steps {P : Program} {n : Nat} {ops : Array Oper} : ∀ (os : List Oper) (bs : List Nat) (cs : List COp) (j : Nat) (al : List (Nat × AV)) (hl : List Blk) (tr : List (List Nat × List Nat × Nat)) (K : St → List (List Nat × List Nat × Nat) → Prop),
    compOs P n ops os bs = some cs → (∀ k o, os[k]? = some o → ops[j + k]? = some o) → RunOps P cs al hl tr K →
    ∃ (L : List Step) (s' : St) (M : Nat), L.map (·.c) = cs ∧ K s' (tr.reverse ++ L.map Step.tr) ∧ hl.length ≤ M ∧ (∀ x ∈ L, (∀ p ∈ x.W, p.1 < M) ∧ (∀ p ∈ x.W, p.1 ∈ x.T)) ∧
      get s'.al = gF sEff (fun _ => true) 0 L (get al) ∧ hget s'.hl = gF hEff (fun _ => true) 0 L (hget hl) ∧
      ∀ (k : Nat) (x : Step), L[k]? = some x → OpL P n ops (j + k) x.c.dst x.c.rd x.T (sAt L (get al) k) (hAt L (hget hl) k) x.v x.W ∧ compDst n x.c.dst = true := by
  intro os
  induction os with
  | nil =>
    intro bs cs j al hl tr K hcs _ hrun
    simp only [compOs, Option.some.injEq] at hcs; subst hcs
    simp only [RunOps] at hrun
    exact ⟨[], ⟨al, hl⟩, hl.length, rfl, by simpa using hrun, Nat.le_refl _, fun x hx => (by cases hx), rfl, rfl, fun k x h => by simp at h⟩
  | cons o os ih =>
    intro bs cs j al hl tr K hcs hops hrun
    simp only [compOs] at hcs
    split at hcs <;> first | (cases hcs; done) | skip
    rename_i c cs' hc hcs'
    simp only [Option.some.injEq] at hcs; subst hcs
    obtain ⟨x, hxc, h1, h2, h3, h4, h5⟩ := RunOps.head (hops 0 o rfl) hc hrun
    obtain ⟨L, s', M, e1, e2, e3, e4, e5, e6, e7⟩ := ih _ _ (j + 1) _ _ _ K hcs' (fun k o' hk => by
      have := hops (k + 1) o' (by simpa using hk)
      rwa [show j + (k + 1) = j + 1 + k by omega] at this) h5
    obtain ⟨l1, l2⟩ := hsetL_length _ _ h3
    have hal : get (setO al c.dst x.v) = sEff x (get al) := by rw [get_setO, ← hxc]; rfl
    have hhl : hget (hsetL hl x.W) = hEff x (hget hl) := hget_hsetL _ _ h3
    have shift : ∀ (k : Nat), (fun m => decide (m < k + 1)) 0 = true := fun k => by simp
    have gsh : ∀ {α : Type} (eff : Step → (Nat → α) → Nat → α) (k : Nat) (L : List Step) (i : Nat) (f : Nat → α), gF eff (fun m => decide (m < k + 1)) (i + 1) L f = gF eff (fun m => decide (m < k)) i L f := by
      intro α eff k L
      induction L with
      | nil => intro i f; rfl
      | cons y L ih => intro i f; simp only [gF]; rw [ih]; simp
    have gtr : ∀ {α : Type} (eff : Step → (Nat → α) → Nat → α) (L : List Step) (i : Nat) (f : Nat → α), gF eff (fun _ => true) (i + 1) L f = gF eff (fun _ => true) i L f := by
      intro α eff L
      induction L with
      | nil => intro i f; rfl
      | cons y L ih => intro i f; simp only [gF]; rw [ih]
    refine ⟨x :: L, s', M, by simp [e1, hxc], by simpa using e2, Nat.le_trans l1 e3, fun y hy => ?_, ?_, ?_, fun k y hk => ?_⟩
    · rcases List.mem_cons.1 hy with rfl | hy
      · exact ⟨fun p hp => Nat.lt_of_lt_of_le (l2 p hp) e3, h4⟩
      · exact e4 y hy
    · rw [e5, hal]; simp only [gF, if_true]; rw [gtr]
    · rw [e6, hhl]; simp only [gF, if_true]; rw [gtr]
    · cases k with
      | zero =>
        simp only [List.getElem?_cons_zero, Option.some.injEq] at hk; subst hk
        have z1 : sAt (x :: L) (get al) 0 = get al := by
          unfold sAt
          funext t
          exact gF_none s1 _ _ _ fun k y _ _ => by simp
        have z2 : hAt (x :: L) (hget hl) 0 = hget hl := by
          unfold hAt
          funext t
          exact Am.gF_none Am.h1 _ _ _ fun k y _ _ => by simp
        rw [z1, z2, hxc]
        exact ⟨h1, h2⟩
      | succ k =>
        obtain ⟨q1, q2⟩ := e7 k y (by simpa using hk)
        refine ⟨?_, q2⟩
        have z1 : sAt (x :: L) (get al) (k + 1) = sAt L (get (setO al c.dst x.v)) k := by
          unfold sAt
          simp only [gF, shift, if_true]
          rw [gsh, hal]
        have z2 : hAt (x :: L) (hget hl) (k + 1) = hAt L (hget (hsetL hl x.W)) k := by
          unfold hAt
          simp only [gF, shift, if_true]
          rw [gsh, hhl]
        rw [z1, z2, show j + (k + 1) = j + 1 + k by omega]
        exact q1
end Go.Am
end
section
set_option linter.unusedSimpArgs false
set_option linter.unusedVariables false
namespace Go.Am
open Go Go.RowKit

/-- From q on each operation waits for all before it. -/
def fullFrom (q : Nat) (cs : List COp) : Bool := (List.range cs.length).all fun j => decide (j < q) || (cs.map (·.bef)).getD j 0 == 2 ^ j - 1
theorem draw_pre {P : Program} {E : Env} {ops : Array Oper} {cs : List COp} {q : Nat} {L : List Step} {s : Nat → AV} {h : Nat → Blk} (hcl : cs.length = ops.size) (hlen : L.length = q) (hq : q ≤ ops.size) (hLc : L.map (·.c) = cs.take q) (hbef : befOk (cs.map (·.bef)) 0 ops.toList cs = true) (hfull : fullFrom q cs = true) (hslots : slotsOk 0 cs = true) (hblk : blkOk 0 (L.map Step.tr) = true)
    (hW : ∀ x ∈ L, ∀ p ∈ x.W, p.1 ∈ x.T) (hfree : ∃ b, h b = .dead ∧ ∀ x ∈ L, ∀ p ∈ x.W, p.1 ≠ b) (hop : ∀ (j : Nat) (x : Step), L[j]? = some x → OpL P E.n ops j x.c.dst x.c.rd x.T (sAt L s j) (hAt L h j) x.v x.W ∧ compDst E.n x.c.dst = true)
    {r : Option Nat} {Q : Exit → Act → World → Prop} (hQ : ∀ (fuel : Nat) (listed : Array Bool) (a : Act) (w : World), listed.size = ops.size → cnt (fun k => listed.getD k false) ops.size ≤ fuel → (∀ k, k < q → listed.getD k false = true) → (∀ k, q ≤ k → listed.getD k false = false) → RelF E (sAt L s q) (hAt L h q) a w → wpAnyIn (wideR r) 0 P .any ops Q fuel listed a w) :
    ∀ (fuel : Nat) (listed : Array Bool) (a : Act) (w : World), listed.size = ops.size → cnt (fun k => listed.getD k false) ops.size ≤ fuel →
      (∀ (j : Nat) (x : Step), L[j]? = some x → listed.getD j false = true → ∀ k, x.c.bef.testBit k = true → listed.getD k false = true) → (∀ k, q ≤ k → listed.getD k false = false) →
      RelF E (gF sEff (fun k => listed.getD k false) 0 L s) (gF hEff (fun k => listed.getD k false) 0 L h) a w → wpAnyIn (wideR r) 0 P .any ops Q fuel listed a w := by
  obtain ⟨hbl, hbs⟩ := befOk_spec _ _ _ hbef
  have hcsL : ∀ (j : Nat) (x : Step), L[j]? = some x → cs[j]? = some x.c := fun j x hx => by
    have h1 : (L.map (·.c))[j]? = some x.c := by simp [hx]
    rw [hLc, List.getElem?_take] at h1
    split at h1
    · exact h1
    · cases h1
  have hb0 : ∀ (j : Nat) (o : Oper) (c : COp), ops[j]? = some o → cs[j]? = some c → befOk1 (cs.map (·.bef)) j o c.bef = true := fun j o c ho hx => by
    have := hbs j o c (by simpa using ho) hx
    simpa using this
  have hb : ∀ (j : Nat) (o : Oper) (x : Step), ops[j]? = some o → L[j]? = some x → befOk1 (cs.map (·.bef)) j o x.c.bef = true := fun j o x ho hx => hb0 j o x.c ho (hcsL j x hx)
  have hdone : ∀ (fuel : Nat) (listed : Array Bool) (a : Act) (w : World), listed.size = ops.size → cnt (fun k => listed.getD k false) ops.size ≤ fuel → (∀ k, q ≤ k → listed.getD k false = false) → (∀ k, k < q → listed.getD k false = true) → RelF E (gF sEff (fun k => listed.getD k false) 0 L s) (gF hEff (fun k => listed.getD k false) 0 L h) a w → wpAnyIn (wideR r) 0 P .any ops Q fuel listed a w := fun fuel listed a w hsz hc hlate hl hr => by
    refine hQ fuel listed a w hsz hc hl hlate ?_
    unfold sAt hAt
    rw [gF_all (S := fun k => decide (k < q)) (S' := fun k => listed.getD k false) L 0 s (fun k hk => by simp only [Nat.zero_add]; rw [hl k (by omega)]; simp; omega),
      gF_all (S := fun k => decide (k < q)) (S' := fun k => listed.getD k false) L 0 h (fun k hk => by simp only [Nat.zero_add]; rw [hl k (by omega)]; simp; omega)]
    exact hr
  intro fuel
  induction fuel with
  | zero =>
    intro listed a w hsz hc _ hlate hr
    have hl := cnt_zero _ (Nat.le_zero.1 hc)
    exact hdone 0 listed a w hsz hc hlate (fun k hk => hl k (by omega)) hr
  | succ fuel ih =>
    intro listed a w hsz hc hcl hlate hr
    by_cases hall : ∀ k, k < q → listed.getD k false = true
    · exact hdone _ listed a w hsz hc hlate hall hr
    have hex0 : ∃ k, k < q ∧ listed.getD k false = false := by
      refine Classical.byContradiction fun hno => hall fun k hk => ?_
      cases hq : listed.getD k false with
      | true => rfl
      | false => exact absurd ⟨k, hk, hq⟩ hno
    refine ⟨fun hnil => ?_, fun j hj => ?_⟩
    · -- the least one that is left could come up
      exfalso
      have hex : ∃ m, m < q ∧ listed.getD m false = false ∧ ∀ k, k < m → listed.getD k false = true := by
        have : ∀ n, n < q → listed.getD n false = false → ∃ m, m < q ∧ listed.getD m false = false ∧ ∀ k, k < m → listed.getD k false = true := by
          intro n
          induction n using Nat.strongRecOn with
          | _ n ih =>
            intro hn hf
            by_cases h : ∃ k, k < n ∧ listed.getD k false = false
            · obtain ⟨k, h1, h2⟩ := h
              exact ih k h1 (by omega) h2
            · refine ⟨n, hn, hf, fun k hk => ?_⟩
              cases hq : listed.getD k false with
              | true => rfl
              | false => exact absurd ⟨k, hk, hq⟩ h
        obtain ⟨k, hk, hf⟩ := hex0
        exact this k hk hf
      obtain ⟨m, hm, hmf, hbelow⟩ := hex
      have hmem : m ∈ Region.ready .any ops listed := by
        have hmo : m < ops.size := by omega
        refine mem_ready.2 ⟨?_, ops[m], by simp [hmo], fun e he hbind => ?_⟩
        · have : m < listed.size := by omega
          simpa [this] using hmf
        · have hx : m < L.length := by omega
          have := hb m ops[m] L[m] (by simp [hmo]) (by simp [hx])
          simp only [befOk1, Bool.and_eq_true] at this
          have := List.all_eq_true.1 this.2 e (Array.mem_toList_iff.2 he)
          simp only [hbind, Bool.not_true, Bool.false_or, decide_eq_true_eq] at this
          exact hbelow _ this
      rw [hnil] at hmem
      cases hmem
    · obtain ⟨hjt, o, ho, hafter⟩ := mem_ready.1 hj
      have hjn : j < ops.size := (Array.getElem?_eq_some_iff.1 ho).1
      have hjl : j < listed.size := by omega
      have hjf : listed.getD j false = false := by simpa [hjl] using hjt
      have hpre0 : ∀ c, cs[j]? = some c → ∀ k, c.bef.testBit k = true → listed.getD k false = true := fun c hcj k hk => by
        have h3 := hb0 j o c ho hcj
        simp only [befOk1, Bool.and_eq_true, decide_eq_true_eq] at h3
        have hkj : k < j := by
          refine Nat.lt_of_not_le fun hle => ?_
          have : c.bef.testBit k = false := Nat.testBit_lt_two_pow (Nat.lt_of_lt_of_le h3.1.1 (Nat.pow_le_pow_right (by omega) hle))
          rw [this] at hk; cases hk
        have h4 := List.all_eq_true.1 h3.1.2 k (List.mem_range.2 hkj)
        rw [hk] at h4
        simp only [Bool.not_true, Bool.false_or, List.any_eq_true, Bool.and_eq_true, Bool.or_eq_true, beq_iff_eq] at h4
        obtain ⟨e, he, hbind, h5⟩ := h4
        have hel := hafter e (Array.mem_toList_iff.1 he) hbind
        rcases h5 with rfl | h5
        · exact hel
        · by_cases hlt : e.on < L.length
          · refine hcl e.on L[e.on] (by simp [hlt]) hel k ?_
            have h6 := hcsL e.on L[e.on] (by simp [hlt])
            simpa [List.getD_eq_getElem?_getD, h6] using h5
          · rw [hlate _ (by omega)] at hel; cases hel
      have hjq : j < q := by
        refine Nat.lt_of_not_le fun hle => ?_
        obtain ⟨k, hk, hf⟩ := hex0
        have hcj : j < cs.length := by omega
        have h3 := List.all_eq_true.1 hfull j (List.mem_range.2 hcj)
        simp only [Bool.or_eq_true, decide_eq_true_eq, beq_iff_eq] at h3
        have h4 : cs[j].bef = 2 ^ j - 1 := by
          rcases h3 with h3 | h3
          · omega
          · simpa [List.getD_eq_getElem?_getD, hcj] using h3
        have h5 := hpre0 cs[j] (by simp [hcj]) k (by rw [h4, Nat.testBit_two_pow_sub_one]; simp; omega)
        rw [hf] at h5; cases h5
      have hjL : j < L.length := by omega
      have hx : L[j]? = some L[j] := by simp [hjL]
      obtain ⟨hOpL, hdst⟩ := hop j L[j] hx
      have hpre : ∀ k, L[j].c.bef.testBit k = true → listed.getD k false = true := hpre0 L[j].c (hcsL j _ hx)
      -- what j looks at is as it would be
      have hsl : ∀ k y, L[k]? = some y → touches y.c L[j].c = true ∨ touches L[j].c y.c = true → k ≠ j → listed.getD k false = decide (k < j) := fun k y hk ht hkj => by
        rcases Nat.lt_or_gt_of_ne hkj with hlt | hgt
        · have := slotsOk_spec _ 0 hslots k j y.c L[j].c hlt (hcsL k y hk) (hcsL j _ hx) ht
          rw [Nat.zero_add] at this
          rw [hpre k this]; simp [hlt]
        · have := slotsOk_spec _ 0 hslots j k L[j].c y.c hgt (hcsL j _ hx) (hcsL k y hk) ht.symm
          rw [Nat.zero_add] at this
          cases hq : listed.getD k false with
          | true => have := hcl k y hk hq j this; rw [hjf] at this; cases this
          | false => simp; omega
      have hbk : ∀ k y, L[k]? = some y → confl y.tr L[j].tr = true ∨ confl L[j].tr y.tr = true → k ≠ j → listed.getD k false = decide (k < j) := fun k y hk ht hkj => by
        have hcomm : ∀ p q, confl p q = confl q p := fun p q => by simp only [confl]; rw [Bool.or_comm]
        rcases Nat.lt_or_gt_of_ne hkj with hlt | hgt
        · have := blkOk_spec _ 0 hblk k j y.tr L[j].tr hlt (by simp [hk]) (by simp [hx]) (ht.elim id fun h => by rw [hcomm]; exact h)
          rw [Nat.zero_add] at this
          rw [hpre k this]; simp [hlt]
        · have := blkOk_spec _ 0 hblk j k L[j].tr y.tr hgt (by simp [hx]) (by simp [hk]) (ht.elim (fun h => by rw [hcomm]; exact h) id)
          rw [Nat.zero_add] at this
          cases hq : listed.getD k false with
          | true => have := hcl k y hk hq j this; rw [hjf] at this; cases this
          | false => simp; omega
      have hself : listed.getD j false = decide (j < j) := by rw [hjf]; simp
      refine RelF.step hr hOpL hdst (fun t ht => ?_) (fun b hbT => ?_) ?_ fun a' w' hr' => ?_
      · refine gF_agree s1 s2 L 0 s s (fun k y hk hy => ?_) rfl
        rw [Nat.zero_add]
        by_cases hkj : k = j
        · subst hkj; exact hself
        · exact hsl k y hk (.inl (by simp only [sWr] at hy; simp [touches, hy, ht])) hkj
      · refine gF_agree h1 h2 L 0 h h (fun k y hk hy => ?_) rfl
        rw [Nat.zero_add]
        by_cases hkj : k = j
        · subst hkj; exact hself
        · obtain ⟨p, hp, rfl⟩ := hy
          refine hbk k y hk (.inl ?_) hkj
          simp only [confl, Step.tr, Bool.or_eq_true, List.any_eq_true, List.contains_iff_mem]
          exact .inl ⟨p.1, List.mem_map_of_mem hp, hbT⟩
      · obtain ⟨b, hb1, hb2⟩ := hfree
        refine ⟨b, ?_⟩
        rw [gF_none h1 L 0 h (fun k y hk hy => ?_)]
        · exact hb1
        · obtain ⟨p, hp, e⟩ := hy
          exact absurd e (hb2 y (List.mem_of_getElem? hk) p hp)
      · have hset : ∀ k, k ≠ j → (listed.setIfInBounds j true).getD k false = listed.getD k false := fun k hk => getD_set_ne false (Ne.symm hk)
        have hsetj : (listed.setIfInBounds j true).getD j false = true := by simp [hjl]
        refine ih _ a' w' (by simpa using hsz) ?_ (fun k y hk hkl b hbit => ?_) (fun k hk => by rw [hset k (by omega)]; exact hlate k hk) ?_
        · have := (cnt_add (S := fun k => listed.getD k false) (S' := fun k => (listed.setIfInBounds j true).getD k false) (j := j) hjf hsetj hset ops.size).1 hjn
          omega
        · by_cases hkj : k = j
          · subst hkj
            rw [hx] at hk; cases hk
            exact getD_set_true (hpre b hbit)
          · rw [hset k hkj] at hkl
            exact getD_set_true (hcl k y hk hkl b hbit)
        · have e1 : gF sEff (fun k => (listed.setIfInBounds j true).getD k false) 0 L s = updO (gF sEff (fun k => listed.getD k false) 0 L s) L[j].c.dst L[j].v := by
            funext t
            refine gF_add s1 s2 L 0 j s hx (by simpa using hjf) (by simpa using hsetj) (fun k hk => hset k (by simpa using hk)) fun k y hjk hk hw1 hw2 => ?_
            rw [Nat.zero_add]
            rw [hsl k y hk (.inl (by simp only [sWr] at hw1 hw2; simp [touches, hw1, hw2])) (by omega)]; simp; omega
          have e2 : gF hEff (fun k => (listed.setIfInBounds j true).getD k false) 0 L h = updL (gF hEff (fun k => listed.getD k false) 0 L h) L[j].W := by
            funext t
            refine gF_add h1 h2 L 0 j h hx (by simpa using hjf) (by simpa using hsetj) (fun k hk => hset k (by simpa using hk)) fun k y hjk hk hw1 hw2 => ?_
            rw [Nat.zero_add]
            obtain ⟨p, hp, rfl⟩ := hw1
            obtain ⟨q, hq, hqe⟩ := hw2
            rw [hbk k y hk (.inl ?_) (by omega)]
            · simp; omega
            · simp only [confl, Step.tr, Bool.or_eq_true, List.any_eq_true, List.contains_iff_mem]
              exact .inl ⟨p.1, List.mem_map_of_mem hp, hqe ▸ hW _ (List.getElem_mem hjL) q hq⟩
          rw [e1, e2]; exact hr'
end Go.Am
end
section
set_option linter.unusedSimpArgs false
set_option linter.unusedVariables false
namespace Go.Am
open Go Go.RowKit

structure CFn where
  code : CCode
  rvs : List RV
  n : Nat
  deriving Inhabited
def compF (P : Program) (f : FuncId) : Option CFn := match P.funcs[f]? with
  | some fn => if (fn.name == "runtime.NumGoroutine") = true then none else match fn.body with
    | some c => match compC P fn.ntmps c, compRVs P fn.results.toList with
      | some cc, some rvs => some ⟨cc, rvs, fn.ntmps⟩
      | _, _ => none
    | none => none
  | none => none
/-- What a round does: it ends well, or is left. -/
abbrev Hdl := List AV → List Blk → (Option Exit → List Blk → Prop) → Prop
def Hdl.Mono (Y : Hdl) : Prop := ∀ vs hl (K K' : Option Exit → List Blk → Prop), (∀ r h, K r h → K' r h) → Y vs hl K → Y vs hl K'
def RunY (P : Program) (Y : Hdl) : List COp → List (Nat × AV) → List Blk → Option Exit → (St → Option Exit → Prop) → Prop
  | [], al, hl, st, K => K ⟨al, hl⟩ st
  | c :: cs, al, hl, st, K => match wantedAV (get al) c.guard with
    | none => False
    | some false => RunY P Y cs (setO al c.dst (.tup [])) hl st K
    | some true => match c.op with
      | .call f xs => (f.ev (get al) = .yld ∧ st = none ∧ Y (xs.map (·.ev (get al))) hl (fun res hl' => RunY P Y cs (setO al c.dst (.bool res.isNone)) hl' res K)) ∨
          RunCall P f xs c.dst c.bef al hl [] (fun al hl _ => RunY P Y cs al hl st K)
      | op => match aop op (get al) (hget hl) hl.length with
        | none => False
        | some r => RunY P Y cs (setO al c.dst r.v) (hsetL hl r.ups) st K
def ythenK (K : Exit → St → Option Exit → Prop) (Y : St → Option Exit → Prop) : Exit → St → Option Exit → Prop
  | .normal, s, st => Y s st
  | e, s, st => K e s st
def yblockK (id : Nat) (K : Exit → St → Option Exit → Prop) : Exit → St → Option Exit → Prop
  | .exit id', s, st => if id' = id then K .normal s st else K (.exit id') s st
  | e, s, st => K e s st
def YLoop (W : St → Option Exit → (Exit → St → Option Exit → Prop) → Prop) (s : St) (st : Option Exit) (K : Exit → St → Option Exit → Prop) : Prop :=
  ∀ X : St → Option Exit → Prop, (∀ s st, W s st (ythenK K X) → X s st) → X s st
def YWp (P : Program) (m0 : Nat) (Y : Hdl) : CCode → St → Option Exit → (Exit → St → Option Exit → Prop) → Prop
  | .skip, s, st, K => K .normal s st
  | .region draw ops, s, st, K => if draw = true then ∃ q, q ≤ ops.length ∧ fullFrom q ops = true ∧ RunOps P (ops.take q) s.al s.hl [] (fun s' tr => blkOk 0 tr = true ∧ RunY P Y (ops.drop q) s'.al s'.hl st (K .normal))
      else RunY P Y ops s.al s.hl st (K .normal)
  | .seq x y, s, st, K => YWp P m0 Y x s st (ythenK K fun s' st' => YWp P m0 Y y s' st' K)
  | .cond c x y, s, st, K => match c.ev (get s.al) with
    | .bool true => YWp P m0 Y x s st K
    | .bool false => YWp P m0 Y y s st K
    | _ => False
  | .block id c, s, st, K => YWp P m0 Y c s st (yblockK id K)
  | .loop c, s, st, K => YLoop (fun s st K => (∃ (m : Nat) (al' : List (Nat × AV)), (m0 ≤ m ∧ (∀ p ∈ al', get s.al p.1 = p.2 ∧ (p.2.lt m || p.2.isY) = true) ∧ ∀ b ∈ s.hl.take m, b.lt m = true) ∧ YWp P m0 Y c ⟨al', s.hl.take m⟩ st K) ∨ YWp P m0 Y c s st K) s st K
  | .rangeF _ _ _ _, _, _, _ => False
  | .exit id, s, st, K => K (.exit id) s st
  | .ret, s, st, K => K .ret s st
theorem RunCall.mono {P : Program} {f : Opd} {xs : List Opd} {dst : Option Nat} {bef : Nat} {al : List (Nat × AV)} {hl : List Blk} {tr : List (List Nat × List Nat × Nat)} {K K' : List (Nat × AV) → List Blk → List (List Nat × List Nat × Nat) → Prop} (hk : ∀ a h t, K a h t → K' a h t)
    (h : RunCall P f xs dst bef al hl tr K) : RunCall P f xs dst bef al hl tr K' := by
  obtain ⟨fid, caps, T, r, W, h1, h2, h3, h4⟩ := h
  exact ⟨fid, caps, T, r, W, h1, h2, h3, hk _ _ _ h4⟩
theorem RunY.mono {P : Program} {Y : Hdl} (hY : Y.Mono) : ∀ (cs : List COp) (al : List (Nat × AV)) (hl : List Blk) (st : Option Exit) {K K' : St → Option Exit → Prop}, (∀ s t, K s t → K' s t) → RunY P Y cs al hl st K → RunY P Y cs al hl st K' := by
  intro cs
  induction cs with
  | nil => intro al hl st K K' hk h; exact hk _ _ h
  | cons c cs ih =>
    intro al hl st K K' hk h
    simp only [RunY] at h ⊢
    split at h
    · exact h
    · exact ih _ _ _ hk h
    · split at h
      · rcases h with ⟨h1, h2, h3⟩ | h
        · exact .inl ⟨h1, h2, hY _ _ _ _ (fun r h h4 => ih _ _ _ hk h4) h3⟩
        · exact .inr (h.mono fun a h t h4 => ih _ _ _ hk h4)
      · split at h
        · exact h
        · exact ih _ _ _ hk h
theorem YWp.mono {P : Program} {m0 : Nat} {Y : Hdl} (hY : Y.Mono) : ∀ (c : CCode) (s : St) (st : Option Exit) {K K' : Exit → St → Option Exit → Prop}, (∀ e s t, K e s t → K' e s t) → YWp P m0 Y c s st K → YWp P m0 Y c s st K' := by
  intro c
  induction c with
  | skip => intro s st K K' hk h; exact hk _ _ _ h
  | exit id => intro s st K K' hk h; exact hk _ _ _ h
  | ret => intro s st K K' hk h; exact hk _ _ _ h
  | rangeF => intro s st K K' hk h; exact h
  | region draw ops =>
    intro s st K K' hk h
    simp only [YWp] at h ⊢
    split
    · rename_i hd
      rw [if_pos hd] at h
      obtain ⟨q, h1, h2, h3⟩ := h
      exact ⟨q, h1, h2, RunOps.mono _ _ _ _ (fun s t h => ⟨h.1, RunY.mono hY _ _ _ _ (fun s t => hk _ _ _) h.2⟩) h3⟩
    · rename_i hd
      rw [if_neg hd] at h
      exact RunY.mono hY _ _ _ _ (fun s t => hk _ _ _) h
  | seq x y ihx ihy =>
    intro s st K K' hk h
    refine ihx s st (fun e s' t h => ?_) h
    cases e <;> first | exact ihy s' t hk h | exact hk _ _ _ h
  | cond c x y ihx ihy =>
    intro s st K K' hk h
    simp only [YWp] at h ⊢
    split at h
    · exact ihx s st hk h
    · exact ihy s st hk h
    · exact h
  | block id c ih =>
    intro s st K K' hk h
    refine ih s st (fun e s' t h => ?_) h
    cases e <;> simp only [yblockK] at h ⊢ <;> first | exact hk _ _ _ h | skip
    split at h <;> (rename_i he; first | rw [if_pos he] | rw [if_neg he]) <;> exact hk _ _ _ h
  | loop c ih =>
    intro s st K K' hk h
    intro X hX
    refine h X fun s' t hh => hX s' t ?_
    rcases hh with ⟨m, al', h1, h2⟩ | h2
    · refine .inl ⟨m, al', h1, ih _ _ (fun e s t h => ?_) h2⟩
      cases e <;> first | exact h | exact hk _ _ _ h
    · refine .inr (ih _ _ (fun e s t h => ?_) h2)
      cases e <;> first | exact h | exact hk _ _ _ h
/-! ### The machine's side -/
def exitCode : Exit → Code
  | .exit id => .exit id
  | .goto t => .goto t
  | _ => .ret
/-- The loop's record between rounds, and after the last. -/
def recAt (R : Loop) : Option Exit → Loop
  | none => R
  | some e => { R with state := .done, pending := some (exitCode e) }
theorem putObj_put (w : World) (l : Nat) (o o' : Obj) : (w.putObj l o).putObj l o' = w.putObj l o' := by
  simp [World.putObj]
theorem putObj_self {w : World} {l : Nat} {o : Obj} (h : w.heap[l]? = some o) : w.putObj l o = w := by
  unfold World.putObj
  have : w.heap.setIfInBounds l o = w.heap := by
    obtain ⟨hlt, hg⟩ := Array.getElem?_eq_some_iff.1 h
    apply Array.ext
    · simp
    · intro i h1 h2
      by_cases hi : l = i
      · subst hi; rw [Array.getElem_setIfInBounds_self]; exact hg.symm
      · rw [Array.getElem_setIfInBounds_ne (h := hi)]
  rw [this]
theorem loop_ncells (R : Loop) : ∀ C e f, Obj.loop R ≠ .cells C e f := by intro C e f h; cases h
section conj
variable {κ κ' : K} {h h' : Nat → Blk} {w w' : World} {l : Nat} {o o1 : Obj}

theorem lies_ne (hi : Inv κ h w) (hl : w.heap[l]? = some o) (ho : ∀ C e f, o ≠ .cells C e f) : ∀ b loc, Lies κ h b loc → loc.c ≠ l := fun b loc hL he => by
  obtain ⟨g, frz, sz, xs, _, _, hr⟩ := hL.row hi
  obtain ⟨C, e, hC, _⟩ := hr.blk
  rw [he, hl] at hC; cases hC; exact ho _ _ _ rfl
/-- The same step, were the record another one. -/
theorem Chg.conj (hi : Inv κ h w) (hc : Chg κ h w κ' h' w') (hl : w.heap[l]? = some o) (ho : ∀ C e f, o ≠ .cells C e f) (o1 : Obj) : Chg κ h (w.putObj l o1) κ' h' (w'.putObj l o1) := by
  have hlt := (Array.getElem?_eq_some_iff.1 hl).1
  refine ⟨hc.os, hc.tape, hc.output, by simpa using hc.size, fun c hcl hL => ?_, fun b loc hL => ?_, fun c hcl hL => hc.prot c (by simpa using hcl) hL⟩
  · by_cases hcc : c = l
    · subst hcc
      rw [World.putObj_heap_same hlt, World.putObj_heap_same (Nat.lt_of_lt_of_le hlt hc.size)]
    · rw [World.putObj_heap_other hcc, World.putObj_heap_other hcc]
      exact hc.blk c (by simpa using hcl) hL
  · rcases hc.lies b loc hL with h1 | h1
    · exact .inl h1
    · exact .inr (by simpa using h1)
theorem Chg.keepObj (hi : Inv κ h w) (hc : Chg κ h w κ' h' w') (hl : w.heap[l]? = some o) (ho : ∀ C e f, o ≠ .cells C e f) : w'.heap[l]? = some o := by
  rw [hc.blk l (Array.getElem?_eq_some_iff.1 hl).1 (lies_ne hi hl ho)]; exact hl
end conj

/-- Slots and rows of an iterator; the loop's record. -/
def RelY (E : Env) (l : Nat) (R : Loop) (sl : Nat → AV) (h : Nat → Blk) (st : Option Exit) (a : Act) (w : World) : Prop :=
  ∃ w0, RelF E sl h a w0 ∧ w0.heap[l]? = some (.loop R) ∧ w = w0.putObj l (.loop (recAt R st))
/-- One more step behind a state. -/
theorem RelF.more {E : Env} {sl' : Nat → AV} {h h' : Nat → Blk} {a' : Act} {w w' : World} {κ κ' : K} (hx0 : Ext E.κ E.w κ w) (hc0 : Chg E.κ (hget E.hl) E.w κ h w) (hE : Inv E.κ (hget E.hl) E.w)
    (hx : Ext κ w κ' w') (hc : Chg κ h w κ' h' w') (hi : Inv κ' h' w') (hs : SRel κ' w' sl' a') (hn : a'.tmps.size = E.n) (hm : Marks E.mb a'.defers w') : RelF E sl' h' a' w' :=
  ⟨κ', hx0.trans hx, hc0.trans hc, hi, hs, hn, hm, hE⟩
theorem Marks.keep {B : Nat} {ds : List Deferred} {κ κ' : K} {h h' : Nat → Blk} {w w' : World} (hi : Inv κ h w) (hc : Chg κ h w κ' h' w') (hm : Marks B ds w) : Marks B ds w' := by
  obtain ⟨Ds, hnd, hds, hDs⟩ := hm
  exact ⟨Ds, hnd, hds, fun D hD => ⟨(hDs D hD).1, hc.keepDef hi _ _ (hDs D hD).2⟩⟩
theorem Marks.put {B : Nat} {ds : List Deferred} {w : World} (hm : Marks B ds w) {l : Nat} {R : Loop} (hl : w.heap[l]? = some (.loop R)) (o : Obj) : Marks B ds (w.putObj l o) := by
  obtain ⟨Ds, hnd, hds, hDs⟩ := hm
  refine ⟨Ds, hnd, hds, fun D hD => ⟨(hDs D hD).1, ?_⟩⟩
  rw [World.putObj_heap_other]
  · exact (hDs D hD).2
  · rintro rfl
    have := (hDs D hD).2
    rw [hl] at this; cases this
/-- What a handler of yields says of the machine's rounds. -/
def YOk (P : Program) (E : Env) (l : Nat) (R : Loop) (Y : Hdl) : Prop :=
  ∀ (vs : List AV) (hl : List Blk) (Kont : Option Exit → List Blk → Prop), Y vs hl Kont → ∀ (κ : K) (w0 : World) (us : Array Value), Ext E.κ E.w κ w0 → Inv κ (hget hl) w0 → w0.heap[l]? = some (.loop R) → vs.length = us.size →
    (∀ (i : Nat) (x : AV) (v : Value), vs[i]? = some x → us[i]? = some v → VRel κ w0 x v) →
    us.size = R.params.size ∧ RoundIn Fence.wide 0 P l R.fn ((R.params.zip us).foldl (fun tmps (t, a) => tmps.setIfInBounds t a) R.tmps) R.assign R.body w0 fun e w' =>
      ∃ (res : Option Exit) (hl' : List Blk) (κ' : K) (w0' : World), e = .returned (.bool res.isNone) ∧ Ext κ w0 κ' w0' ∧ Chg κ (hget hl) w0 κ' (hget hl') w0' ∧ Inv κ' (hget hl') w0' ∧ w0'.heap[l]? = some (.loop R) ∧ w' = w0'.putObj l (.loop (recAt R res)) ∧ Kont res hl'
theorem RelY.step {P : Program} {E : Env} {l : Nat} {R : Loop} {sl s : Nat → AV} {h h0 : Nat → Blk} {st : Option Exit} {a : Act} {w : World} (hr : RelY E l R sl h st a w) {ops : Array Oper} {j : Nat} {dst : Option Nat} {rd T : List Nat} {v : AV} {W : List (Nat × Blk)} (ho : OpL P E.n ops j dst rd T s h0 v W) (hd : compDst E.n dst = true)
    (h1 : ∀ t ∈ rd, sl t = s t) (h2 : ∀ b ∈ T, h b = h0 b) (h3 : ∃ b, h b = .dead) {r : Option Nat} {Q : Exit → Act → World → Prop} {Kk : Act → World → Prop} (hk : ∀ a' w', RelY E l R (updO sl dst v) (updL h W) st a' w' → Kk a' w') : wpOpIn (wideR r) 0 P ops Q j Kk a w := by
  obtain ⟨w0, ⟨κ, hx, hc, hi, hs, hn, hmk, hE⟩, hl, rfl⟩ := hr
  have hlt := (Array.getElem?_eq_some_iff.1 hl).1
  have hi' := hi.put l _ (.loop (recAt R st)) hl (loop_ncells R)
  have hx01 := (Ext.refl κ w0).put l _ (.loop (recAt R st)) hl (loop_ncells R)
  have hl1 : (w0.putObj l (.loop (recAt R st))).heap[l]? = some (.loop (recAt R st)) := World.putObj_heap_same hlt
  refine ho r κ sl h _ a Q Kk h1 h2 h3 hi' (fun t => (hs t).ext hx01) hn fun u κ' w' hx' hi2 hv hc' => hk _ _ ?_
  have hl2 : w'.heap[l]? = some (.loop (recAt R st)) := hc'.keepObj hi' hl1 (loop_ncells _)
  have hlt2 := (Array.getElem?_eq_some_iff.1 hl2).1
  have hx2 := (Ext.refl κ' w').put l _ (.loop R) hl2 (loop_ncells _)
  have hc2 := hc'.conj hi' hl1 (loop_ncells _) (.loop R)
  rw [putObj_put, putObj_self hl] at hc2
  refine ⟨w'.putObj l (.loop R), RelF.more hx hc hE ((hx01.trans hx').trans hx2) hc2 (hi2.put l _ _ hl2 (loop_ncells _)) (SRel.put (fun t => ((hs t).ext hx01).ext (hx'.trans hx2)) hn hd (hv.ext hx2)) ?_ ?_, World.putObj_heap_same hlt2, ?_⟩
  · cases dst <;> simp [Act.put, hn]
  · have := hmk.keep hi hc2
    cases dst <;> exact this
  · rw [putObj_put, putObj_self hl2]
/-- A yield. -/
theorem RelY.yield {P : Program} {E : Env} {l : Nat} {R : Loop} {Y : Hdl} (hY : YOk P E l R Y) {s : St} {a : Act} {w : World} (hr : RelY E l R (get s.al) (hget s.hl) none a w) {ops : Array Oper} {j : Nat} {o : Oper} {c : COp} {bef : Nat} (ho : ops[j]? = some o) (hc : compO P E.n ops o bef = some c) {f : Opd} {xs : List Opd} (hop : c.op = .call f xs)
    (hw : wantedAV (get s.al) c.guard = some true) (hyl : E.κ.yl = some l) (hf : f.ev (get s.al) = .yld) {Kont : Option Exit → List Blk → Prop} (hyy : Y (xs.map (·.ev (get s.al))) s.hl Kont) {Q : Exit → Act → World → Prop} {Kk : Act → World → Prop}
    (hk : ∀ res hl' a' w', RelY E l R (updO (get s.al) c.dst (.bool res.isNone)) (hget hl') res a' w' → Kont res hl' → Kk a' w') : wpOpIn (wideR none) 0 P ops Q j Kk a w := by
  obtain ⟨w0, ⟨κ, hx, hcg, hi, hs, hn, hmk, hE⟩, hl, rfl⟩ := hr
  have hself : w0.putObj l (.loop (recAt R none)) = w0 := putObj_self hl
  rw [hself]
  simp only [compO] at hc
  split at hc <;> first | (cases hc; done) | skip
  rename_i c0 g hc0 hg
  split at hc <;> first | (cases hc; done) | skip
  rename_i hdst
  simp only [Option.some.injEq] at hc; subst hc
  simp only at hw hk hop
  subst hop
  unfold wpOpIn
  simp only [ho]
  rw [if_pos (wantedAV_sound (P := P) hg hs hn hw)]
  refine ⟨fun _ _ => trivial, ?_⟩
  rw [Oper.semAt_eq _ _ _ (not_defer hc0)]
  obtain ⟨F, args, argTypes, hop, rfl, rfl⟩ := compOp_call ((compOpB_spec hc0).resolve_right (by simp))
  have hF := ev_rel hs F
  rw [hf] at hF
  obtain ⟨dst, op, ty, pos, after, guard⟩ := o
  simp only at hop
  subst hop
  generalize hFv : a.eval F = Fv at hF
  cases hF with
  | yld hyy' =>
  obtain rfl := Option.some.inj ((hx.yl.trans hyl).symm.trans hyy')
  obtain ⟨hsz, hround⟩ := hY _ _ _ hyy κ w0 (args.map a.eval) hx hi hl (by simp) (fun i x v hxi hvi => by
    simp only [List.map_map, List.getElem?_map, Array.getElem?_toList, Array.getElem?_map] at hxi hvi
    cases hq : args[i]? with
    | none => simp [hq] at hxi
    | some y =>
      simp only [hq, Option.map_some, Option.some.injEq, Function.comp] at hxi hvi
      subst hxi hvi
      exact ev_rel hs y)
  have hrun : (execOp a.eval { dst, op := .call { callee := .value F, args, argTypes }, type := ty, pos, after, guard }).run P w0 = .ok (.round l R.fn ((R.params.zip (args.map a.eval)).foldl (fun tmps (t, a) => tmps.setIfInBounds t a) R.tmps) R.assign R.body) w0 := by
    simp only [execOp, resolve, hFv, Deferred.ofValue, Sem.run_bind, Sem.run_pure, Result.andThen_ok, invoke, Array.empty_append, Array.append_empty]
    exact run_yield hl hsz
  rw [hrun]
  simp only [Oper.uponIn]
  refine ⟨fun h => (by cases h), hround.mono ?_⟩
  rintro e w' ⟨res, hl', κ', w0', rfl, hx', hc', hi', hl2, rfl, hK⟩
  refine hk res hl' _ _ ⟨w0', RelF.more hx hcg hE hx' hc' hi' (SRel.put (fun t => (hs t).ext hx') hn hdst (.bool _)) ?_ ?_, hl2, rfl⟩ hK
  · cases dst <;> simp [Act.put, hn]
  · have := hmk.keep hi hc'
    cases dst <;> exact this
end Go.Am
end
section
set_option linter.unusedSimpArgs false
set_option linter.unusedVariables false
namespace Go.Am
open Go Go.RowKit

abbrev RelS (E : Env) (l : Nat) (R : Loop) (s : St) (st : Option Exit) (a : Act) (w : World) : Prop := RelY E l R (get s.al) (hget s.hl) st a w
def AYp (P : Program) (E : Env) (l : Nat) (R : Loop) (c : Code) (s : St) (st : Option Exit) (K : Exit → St → Option Exit → Prop) : Prop :=
  ∀ a w, RelS E l R s st a w → c.wpIn (wideR none) 0 P (fun e a' w' => ∃ s' st', RelS E l R s' st' a' w' ∧ K e s' st') a w
section rules
variable {P : Program} {E : Env} {l : Nat} {R : Loop} {s : St} {st : Option Exit} {K : Exit → St → Option Exit → Prop}

theorem AYp.mono {c : Code} {K' : Exit → St → Option Exit → Prop} (h : AYp P E l R c s st K) (hk : ∀ e s t, K e s t → K' e s t) : AYp P E l R c s st K' :=
  fun a w hr => wpIn_mono (h a w hr) fun e a' w' ⟨s', t', h1, h2⟩ => ⟨s', t', h1, hk _ _ _ h2⟩
theorem AYp.skip (h : K .normal s st) : AYp P E l R .skip s st K := fun a w hr => wpIn_skip ⟨s, st, hr, h⟩
theorem AYp.exit {id : Nat} (h : K (.exit id) s st) : AYp P E l R (.exit id) s st K := fun a w hr => wpIn_exit ⟨s, st, hr, h⟩
theorem AYp.ret (h : K .ret s st) : AYp P E l R .ret s st K := fun a w hr => wpIn_ret ⟨s, st, hr, h⟩
theorem AYp.seq {x y : Code} (h : AYp P E l R x s st (ythenK K fun s' st' => AYp P E l R y s' st' K)) : AYp P E l R (.seq x y) s st K := fun a w hr =>
  wpIn_seq (wpIn_mono (h a w hr) fun e a' w' ⟨s', t', h1, h2⟩ => by
    cases e with
    | normal => exact h2 a' w' h1
    | _ => exact ⟨s', t', h1, h2⟩)
theorem RelS.cond {a : Act} {w : World} (hr : RelS E l R s st a w) {c : Operand} {t : Bool} (hc : (copd c).ev (get s.al) = .bool t) : a.eval c = .bool t := by
  obtain ⟨w0, ⟨κ, _, _, _, hs, _⟩, _⟩ := hr
  have hv := ev_rel hs c
  rw [hc] at hv
  generalize a.eval c = v at *; cases hv; rfl
theorem AYp.cond {c : Operand} {x y : Code} {t : Bool} (hc : (copd c).ev (get s.al) = .bool t) (h : AYp P E l R (if t then x else y) s st K) : AYp P E l R (.cond c x y) s st K := fun a w hr =>
  wpIn_cond (hr.cond hc) (h a w hr)
theorem AYp.block {id : Nat} {c : Code} (h : AYp P E l R c s st (yblockK id K)) : AYp P E l R (.block id c) s st K := fun a w hr =>
  wpIn_block (wpIn_mono (h a w hr) fun e a' w' ⟨s', t', h1, h2⟩ => by
    cases e with
    | exit id' =>
      simp only [Exit.inBlock, yblockK] at h2 ⊢
      split at h2
      · rename_i he; rw [if_pos he]; exact ⟨s', t', h1, h2⟩
      · rename_i he; rw [if_neg he]; exact ⟨s', t', h1, h2⟩
    | _ => exact ⟨s', t', h1, h2⟩)
def AYLoop (P : Program) (E : Env) (l : Nat) (R : Loop) (c : Code) (s : St) (st : Option Exit) (K : Exit → St → Option Exit → Prop) : Prop :=
  ∀ a w, RelS E l R s st a w → ∀ (b : Frame) (k : List Item) (cs : List Frame), b.roundOf = (wideR none).round → (wideR none).fn b.fn → (wideR none).room (cs.length + 1 + 0) →
    ∃ e a' w', (∃ s' st', RelS E l R s' st' a' w' ∧ K e s' st') ∧ ArrivesIn (Machine.fenced P (wideR none)) P (lone (b.atR a (.code c :: .inLoop c :: k)) cs w) b k cs e a' w'
theorem AYLoop.round {c : Code} (h : AYp P E l R c s st (ythenK K fun s st => AYLoop P E l R c s st K)) : AYLoop P E l R c s st K := by
  intro a w hr b k cs hro hb hroom
  obtain ⟨e, a₁, w₁, ⟨s1, t1, h1, h2⟩, harr⟩ := h a w hr b (.inLoop c :: k) cs hro hb hroom
  cases e with
  | normal =>
    obtain ⟨e₂, a₂, w₂, hq₂, harr₂⟩ := h2 a₁ w₁ h1 b k cs hro hb hroom
    exact ⟨e₂, a₂, w₂, hq₂, .of_steps (StepsIn.trans harr (.one (fenced_calm hb hroom rfl) stepR_inLoop)) harr₂⟩
  | exit id => exact ⟨_, a₁, w₁, ⟨s1, t1, h1, h2⟩, .pass (x := .inLoop c) rfl (fun _ _ => .inl (by simp)) harr⟩
  | goto l => exact ⟨_, a₁, w₁, ⟨s1, t1, h1, h2⟩, .pass (x := .inLoop c) rfl (fun _ _ => .inl (by simp)) harr⟩
  | ret => exact ⟨_, a₁, w₁, ⟨s1, t1, h1, h2⟩, .pass (x := .inLoop c) rfl (fun _ _ => .inl (by simp)) harr⟩
  | panic ch => exact ⟨_, a₁, w₁, ⟨s1, t1, h1, h2⟩, .pass (x := .inLoop c) rfl (fun _ _ => .inl (by simp)) harr⟩
  | outgrown => exact ⟨_, a₁, w₁, ⟨s1, t1, h1, h2⟩, .pass (x := .inLoop c) rfl (fun _ _ => .inl (by simp)) harr⟩
theorem AYp.loop {c : Code} (h : AYLoop P E l R c s st K) : AYp P E l R (.loop c) s st K := fun a w hr b k cs hro hb hroom => by
  obtain ⟨e, a', w', hq, harr⟩ := h a w hr b k cs hro hb hroom
  exact ⟨e, a', w', hq, .of_steps (.one (fenced_calm hb hroom rfl) stepR_loop) harr⟩
theorem RelS.forget {a : Act} {w : World} (hr : RelS E l R s st a w) (m : Nat) (al' : List (Nat × AV)) (hm : E.hl.length ≤ m) (hal : ∀ p ∈ al', get s.al p.1 = p.2 ∧ (p.2.lt m || p.2.isY) = true) (hhl : ∀ b ∈ s.hl.take m, b.lt m = true) : RelS E l R ⟨al', s.hl.take m⟩ st a w := by
  obtain ⟨w0, h0, h1, h2⟩ := hr
  exact ⟨w0, Rel.forget (s := s) h0 m al' hm hal hhl, h1, h2⟩
end rules

/-- The operations of a region in their order. V j: from the j-th operation on. -/
theorem RunY.text {P : Program} {E : Env} {l : Nat} {R : Loop} {Y : Hdl} (hyl : E.κ.yl = some l) (hY : YOk P E l R Y) {ops : Array Oper} {Q : Exit → Act → World → Prop} {V : Nat → Act → World → Prop} (hend : ∀ a w, Q .normal a w → V ops.size a w) :
    ∀ (os : List Oper) (bs : List Nat) (cs : List COp) (j : Nat) (al : List (Nat × AV)) (hl : List Blk) (st : Option Exit) (K : St → Option Exit → Prop), (∀ i, j ≤ i → i < ops.size → ∀ a w, wpOpIn (wideR none) 0 P ops Q i (V (i + 1)) a w → V i a w) → j + os.length = ops.size →
    compOs P E.n ops os bs = some cs → (∀ k o, os[k]? = some o → ops[j + k]? = some o) → RunY P Y cs al hl st K → (∀ s t a w, RelS E l R s t a w → K s t → Q .normal a w) → ∀ a w, RelS E l R ⟨al, hl⟩ st a w → V j a w := by
  intro os
  induction os with
  | nil =>
    intro bs cs j al hl st K hV hj hcs _ hrun hK a w hr
    simp only [compOs, Option.some.injEq] at hcs; subst hcs
    simp only [List.length_nil, Nat.add_zero] at hj
    subst hj
    exact hend a w (hK _ _ a w hr hrun)
  | cons o os ih =>
    intro bs cs j al hl st K hV hj hcs hops hrun hK a w hr
    simp only [compOs] at hcs
    split at hcs <;> first | (cases hcs; done) | skip
    rename_i c cs' hc hcs'
    simp only [Option.some.injEq] at hcs; subst hcs
    simp only [List.length_cons] at hj
    refine hV j (Nat.le_refl _) (by omega) a w ?_
    have hV' : ∀ i, j + 1 ≤ i → i < ops.size → ∀ a w, wpOpIn (wideR none) 0 P ops Q i (V (i + 1)) a w → V i a w := fun i hi => hV i (by omega)
    have hops' : ∀ k o', os[k]? = some o' → ops[j + 1 + k]? = some o' := fun k o' hk => by
      have := hops (k + 1) o' (by simpa using hk)
      rwa [show j + (k + 1) = j + 1 + k by omega] at this
    have hoj := hops 0 o rfl
    rw [Nat.add_zero] at hoj
    have hd : compDst E.n c.dst = true := by
      have hc' := hc
      simp only [compO] at hc'
      split at hc' <;> first | (cases hc'; done) | skip
      split at hc' <;> first | (cases hc'; done) | skip
      rename_i hd
      simp only [Option.some.injEq] at hc'; subst hc'
      exact hd
    have step : ∀ (x : Step), OpL P E.n ops j c.dst c.rd x.T (get al) (hget hl) x.v x.W → okW hl.length x.W = true → RunY P Y cs' (setO al c.dst x.v) (hsetL hl x.W) st K → wpOpIn (wideR none) 0 P ops Q j (V (j + 1)) a w := fun x h1 h3 h5 => by
      refine RelY.step hr h1 hd (fun _ _ => rfl) (fun _ _ => rfl) ⟨hl.length, hget_dead _ _ (Nat.le_refl _)⟩ fun a' w' hr' => ?_
      refine ih _ _ (j + 1) _ _ _ K hV' (by omega) hcs' hops' h5 hK a' w' ?_
      show RelY E l R (get (setO al c.dst x.v)) (hget (hsetL hl x.W)) st a' w'
      rw [get_setO, hget_hsetL _ _ h3]
      exact hr'
    simp only [RunY] at hrun
    split at hrun
    · exact hrun.elim
    · rename_i hw
      exact step ⟨c, [], .tup [], []⟩ (OpL.skip hoj hc hw) rfl hrun
    · rename_i hw
      split at hrun
      · rename_i f xs hop
        rcases hrun with ⟨hf, rfl, hyy⟩ | ⟨fid, caps, T, r, W, h1, h2, h3, h4⟩
        · refine RelY.yield hY (s := ⟨al, hl⟩) hr hoj hc hop hw hyl hf hyy fun res hl' a' w' hr' hk => ?_
          refine ih _ _ (j + 1) _ _ _ K hV' (by omega) hcs' hops' hk hK a' w' ?_
          show RelY E l R (get (setO al c.dst _)) (hget hl') res a' w'
          rw [get_setO]
          exact hr'
        · simp only [Bool.and_eq_true, List.all_eq_true, List.contains_iff_mem] at h3
          exact step ⟨c, T, r, W⟩ (OpL.call hoj hc hop hw h1 h2) h3.1 h4
      · rename_i hnc
        split at hrun
        · exact hrun.elim
        rename_i r h1
        have hcall : c.op.isCall = false := by
          cases hop : c.op <;> first | rfl | exact absurd hop (hnc _ _)
        refine step ⟨c, _, r.v, r.ups⟩ (OpL.op hoj hc hcall hw h1 (hget_dead _ _ (Nat.le_refl _))) ?_ hrun
        rcases aop_ups h1 with h3 | ⟨b, blk, h3, h4⟩
        · rw [h3]; rfl
        · rw [h3]
          simp only [okW, Bool.and_true, decide_eq_true_eq]
          rcases h4 with rfl | ⟨_, h4⟩
          · exact Nat.le_refl _
          · refine Nat.le_of_lt (Nat.lt_of_not_le fun hle => h4 (hget_dead _ _ hle))
theorem compOs_take {P : Program} {n : Nat} {ops : Array Oper} : ∀ (os : List Oper) (bs : List Nat) (cs : List COp) (q : Nat), compOs P n ops os bs = some cs → compOs P n ops (os.take q) bs = some (cs.take q) ∧ compOs P n ops (os.drop q) (bs.drop q) = some (cs.drop q) := by
  intro os
  induction os with
  | nil => intro bs cs q h; simp only [compOs, Option.some.injEq] at h; subst h; simp [compOs]
  | cons o os ih =>
    intro bs cs q h
    cases q with
    | zero => exact ⟨by simp [compOs], by simpa using h⟩
    | succ q =>
      simp only [compOs] at h
      split at h <;> first | (cases h; done) | skip
      rename_i c cs' hc hcs'
      simp only [Option.some.injEq] at h; subst h
      obtain ⟨h1, h2⟩ := ih bs.tail cs' q hcs'
      refine ⟨?_, ?_⟩
      · simp only [List.take_succ_cons, compOs, hc, h1]
      · simp only [List.drop_succ_cons]
        cases bs with
        | nil => simpa using h2
        | cons b bs => simpa using h2
theorem compOs_length {P : Program} {n : Nat} {ops : Array Oper} : ∀ (os : List Oper) (bs : List Nat) (cs : List COp), compOs P n ops os bs = some cs → cs.length = os.length := by
  intro os
  induction os with
  | nil => intro bs cs h; simp only [compOs, Option.some.injEq] at h; subst h; rfl
  | cons o os ih =>
    intro bs cs h
    simp only [compOs] at h
    split at h <;> first | (cases h; done) | skip
    rename_i c cs' hc hcs'
    simp only [Option.some.injEq] at h; subst h
    simp [ih _ _ hcs']
/-- The record as it stands, and back. -/
theorem RelS.base {E : Env} {l : Nat} {R : Loop} {s : St} {st : Option Exit} {a : Act} {w : World} (hr : RelS E l R s st a w) : ∃ κ, Rel ⟨κ, s.hl, w, E.n, E.mb⟩ s a w ∧
    ∀ (s' : St) (a' : Act) (w' : World), Rel ⟨κ, s.hl, w, E.n, E.mb⟩ s' a' w' → RelS E l R s' st a' w' := by
  obtain ⟨w0, ⟨κ, hx, hc, hi, hs, hn, hmk, hE⟩, hl, rfl⟩ := hr
  have hlt := (Array.getElem?_eq_some_iff.1 hl).1
  have hi' := hi.put l _ (.loop (recAt R st)) hl (loop_ncells R)
  have hx01 := (Ext.refl κ w0).put l _ (.loop (recAt R st)) hl (loop_ncells R)
  have hl1 : (w0.putObj l (.loop (recAt R st))).heap[l]? = some (.loop (recAt R st)) := World.putObj_heap_same hlt
  refine ⟨κ, ⟨κ, .refl _ _, .refl _ _ _, hi', fun t => (hs t).ext hx01, hn, hmk.put hl _, hi'⟩, ?_⟩
  rintro s' a' w' ⟨κ', hx', hc', hi2, hs2, hn2, hmk2, -⟩
  have hl2 : w'.heap[l]? = some (.loop (recAt R st)) := hc'.keepObj hi' hl1 (loop_ncells _)
  have hlt2 := (Array.getElem?_eq_some_iff.1 hl2).1
  have hx2 := (Ext.refl κ' w').put l _ (.loop R) hl2 (loop_ncells _)
  have hc2 := hc'.conj hi' hl1 (loop_ncells _) (.loop R)
  rw [putObj_put, putObj_self hl] at hc2
  refine ⟨w'.putObj l (.loop R), RelF.more hx hc hE ((hx01.trans hx').trans hx2) hc2 (hi2.put l _ _ hl2 (loop_ncells _)) (fun t => (hs2 t).ext hx2) hn2 (hmk2.put hl2 _), World.putObj_heap_same hlt2, ?_⟩
  rw [putObj_put, putObj_self hl2]
theorem RelF.drew {E : Env} {sl : Nat → AV} {h : Nat → Blk} {a : Act} {w : World} (hr : RelF E sl h a w) : RelF E sl h a { w with drawn := w.drawn + 1 } := by
  obtain ⟨κ, hx, hcg, hi, hs, hn, hmk, hE⟩ := hr
  have hd : Ext κ w κ { w with drawn := w.drawn + 1 } := ⟨rfl, fun _ _ _ h => h, fun _ => Nat.le_refl _, fun _ _ _ _ h => h, fun _ C _ h => ⟨C, h, rfl⟩, rfl⟩
  exact ⟨κ, hx.trans hd, ⟨hcg.os, hcg.tape, hcg.output, hcg.size, hcg.blk, hcg.lies, hcg.prot⟩, hi.heapEq rfl, fun t => (hs t).ext hd, hn, hmk, hE⟩
theorem RelS.drew {E : Env} {l : Nat} {R : Loop} {s : St} {st : Option Exit} {a : Act} {w : World} (hr : RelS E l R s st a w) : RelS E l R s st a { w with drawn := w.drawn + 1 } := by
  obtain ⟨w0, h0, h1, rfl⟩ := hr
  exact ⟨{ w0 with drawn := w0.drawn + 1 }, h0.drew, h1, rfl⟩
theorem AYp.region {P : Program} (hm : P.follows .mixedOrders = true) {E : Env} {l : Nat} {R : Loop} {Y : Hdl} (hyl : E.κ.yl = some l) (hY : YOk P E l R Y) {id : Nat} {ops : Array Oper} {cs : List COp} (hc : compReg P E.n ops false = some cs) {s : St} {st : Option Exit} {K : Exit → St → Option Exit → Prop} (h : RunY P Y cs s.al s.hl st (K .normal)) : AYp P E l R (.region id ops false) s st K := by
  intro a w hr
  unfold compReg at hc
  split at hc <;> first | (cases hc; done) | skip
  rename_i cs' hcs
  simp only [Bool.false_eq_true, if_false, Option.some.injEq] at hc hcs; subst hc
  obtain ⟨Q, hQd⟩ : ∃ Q : Exit → Act → World → Prop, Q = fun e a' w' => ∃ s' st', RelS E l R s' st' a' w' ∧ K e s' st' := ⟨_, rfl⟩
  rw [← hQd]
  refine wpIn_region ?_
  have := RunY.text hyl hY (ops := ops) (Q := Q) (V := fun j => wpOpsIn (wideR none) 0 P ops Q (List.range' j (ops.size - j))) (fun a w h => by simpa [wpOpsIn] using h) ops.toList [] cs' 0 s.al s.hl st (K .normal)
    (fun i _ hi a w hw => by
      rw [show ops.size - i = (ops.size - (i + 1)) + 1 by omega, List.range'_succ, wpOpsIn_cons]; exact hw) (by simp) hcs (fun k o hk => by simpa using hk) h (fun s t a w hr hk => by rw [hQd]; exact ⟨s, t, hr, hk⟩) a w hr
  simpa [List.range_eq_range'] using this
theorem AYp.regionD {P : Program} (hm : P.follows .mixedOrders = true) {E : Env} {l : Nat} {R : Loop} {Y : Hdl} (hyl : E.κ.yl = some l) (hY : YOk P E l R Y) {id : Nat} {ops : Array Oper} {cs : List COp} (hc : compReg P E.n ops true = some cs) {s : St} {st : Option Exit} {K : Exit → St → Option Exit → Prop} {q : Nat} (hq : q ≤ cs.length) (hfull : fullFrom q cs = true)
    (h : RunOps P (cs.take q) s.al s.hl [] (fun s' tr => blkOk 0 tr = true ∧ RunY P Y (cs.drop q) s'.al s'.hl st (K .normal))) : AYp P E l R (.region id ops true) s st K := by
  intro a w hr
  unfold compReg at hc
  split at hc <;> first | (cases hc; done) | skip
  rename_i cs' hcs
  simp only [if_true] at hc hcs
  split at hc <;> first | (cases hc; done) | skip
  rename_i hok
  simp only [Option.some.injEq] at hc; subst hc
  have hlen0 : cs'.length = ops.size := by simpa using compOs_length _ _ _ hcs
  obtain ⟨ht, hd⟩ := compOs_take _ _ _ q hcs
  obtain ⟨L, s', M, e1, ⟨hblk, hK⟩, e3, e4, e5, e6, e7⟩ := RunOps.steps _ _ _ 0 _ _ _ _ ht (fun k o hk => by
    rw [List.getElem?_take] at hk
    split at hk
    · simpa using hk
    · cases hk) h
  have hlen : L.length = q := by
    have : (L.map (·.c)).length = (cs'.take q).length := by rw [e1]
    rw [List.length_map, List.length_take] at this
    omega
  refine wpIn_region_any hm ?_
  obtain ⟨κ, h1, h2⟩ := hr.drew.base
  obtain ⟨wd, hwd⟩ : ∃ wd : World, wd = { w with drawn := w.drawn + 1 } := ⟨_, rfl⟩
  rw [← hwd] at h1 h2 ⊢
  obtain ⟨hbl, hbs⟩ := befOk_spec _ _ _ hok.1
  obtain ⟨Q, hQd⟩ : ∃ Q : Exit → Act → World → Prop, Q = fun e a' w' => ∃ s' st', RelS E l R s' st' a' w' ∧ K e s' st' := ⟨_, rfl⟩
  rw [← hQd]
  -- the later ones
  have hlate : ∀ (i : Nat), q ≤ i → i < ops.size → ∀ (listed : Array Bool), listed.size = ops.size → (∀ k, k < i → listed.getD k false = true) → (∀ k, i ≤ k → listed.getD k false = false) → ∀ j ∈ Region.ready .any ops listed, j = i := fun i hqi hi listed hsz hl1 hl2 j hj => by
    obtain ⟨hjt, o, ho, hafter⟩ := mem_ready.1 hj
    have hjn : j < ops.size := (Array.getElem?_eq_some_iff.1 ho).1
    have hjf : listed.getD j false = false := by have : j < listed.size := by omega
                                                 simpa [this] using hjt
    refine Classical.byContradiction fun hne => ?_
    have hji : i < j := by
      rcases Nat.lt_or_ge j i with hlt | hge
      · have := hl1 j hlt; rw [hjf] at this; cases this
      · omega
    have hjc : j < cs'.length := by omega
    have h3 := List.all_eq_true.1 hfull j (List.mem_range.2 hjc)
    simp only [Bool.or_eq_true, decide_eq_true_eq, beq_iff_eq] at h3
    have h4 : cs'[j].bef = 2 ^ j - 1 := by
      rcases h3 with h3 | h3
      · omega
      · simpa [List.getD_eq_getElem?_getD, hjc] using h3
    have hb := hbs j o cs'[j] (by simpa using ho) (by simp [hjc])
    rw [Nat.zero_add] at hb
    simp only [befOk1, Bool.and_eq_true, decide_eq_true_eq] at hb
    have h5 := List.all_eq_true.1 hb.1.2 i (List.mem_range.2 hji)
    rw [h4, Nat.testBit_two_pow_sub_one] at h5
    simp only [hji, decide_true, Bool.not_true, Bool.false_or, List.any_eq_true, Bool.and_eq_true, Bool.or_eq_true, beq_iff_eq] at h5
    obtain ⟨e, he, hbind, h6⟩ := h5
    have hel := hafter e (Array.mem_toList_iff.1 he) hbind
    have hei : e.on < i := by
      refine Nat.lt_of_not_le fun hle => ?_
      rw [hl2 _ hle] at hel; cases hel
    rcases h6 with h6 | h6
    · omega
    · have hec : e.on < cs'.length := by omega
      have hbe := hbs e.on ops[e.on] cs'[e.on] (by simp) (by simp [hec])
      rw [Nat.zero_add] at hbe
      simp only [befOk1, Bool.and_eq_true, decide_eq_true_eq] at hbe
      have h7 : cs'[e.on].bef.testBit i = true := by simpa [List.getD_eq_getElem?_getD, hec] using h6
      have h8 : cs'[e.on].bef.testBit i = false := Nat.testBit_lt_two_pow (Nat.lt_of_lt_of_le hbe.1.1 (Nat.pow_le_pow_right (by omega) (by omega)))
      rw [h7] at h8; cases h8
  refine draw_pre (E := ⟨κ, s.hl, wd, E.n, E.mb⟩) (L := L) (s := get s.al) (h := hget s.hl) hlen0 hlen (by omega) e1 hok.1 hfull hok.2 (by simpa using hblk) (fun x hx => (e4 x hx).2) ⟨M, hget_dead _ _ e3, fun x hx p hp => Nat.ne_of_lt ((e4 x hx).1 p hp)⟩ (fun j x hx => by have := e7 j x hx; rwa [Nat.zero_add] at this)
    (fun fuel listed a' w' hsz hcnt hl1 hl2 hr' => ?_) ops.size _ a _ (by simp) ?_ ?_ ?_ ?_
  · have hrS : RelS E l R s' st a' w' := by
      refine h2 s' a' w' ?_
      refine rel_relF.2 ?_
      rw [e5, e6]
      have a1 : sAt L (get s.al) q = gF sEff (fun _ => true) 0 L (get s.al) := gF_all L 0 _ fun k hk => by simp; omega
      have a2 : hAt L (hget s.hl) q = gF hEff (fun _ => true) 0 L (hget s.hl) := gF_all L 0 _ fun k hk => by simp; omega
      rwa [a1, a2] at hr'
    have key := RunY.text hyl hY (ops := ops) (Q := Q) (V := fun j a w => ∀ (fuel : Nat) (listed : Array Bool), listed.size = ops.size → cnt (fun k => listed.getD k false) ops.size ≤ fuel → (∀ k, k < j → listed.getD k false = true) → (∀ k, j ≤ k → listed.getD k false = false) → wpAnyIn (wideR none) 0 P .any ops Q fuel listed a w)
      (fun a w hQ fuel listed hsz _ hl1 hl2 => by
        have hnil : Region.ready .any ops listed = [] := by
          rw [List.eq_nil_iff_forall_not_mem]
          intro j hj
          obtain ⟨hjt, o, ho, _⟩ := mem_ready.1 hj
          have hjn : j < ops.size := (Array.getElem?_eq_some_iff.1 ho).1
          have hjs : j < listed.size := by omega
          have := hl1 j hjn
          simp [hjs] at hjt this
          rw [this] at hjt; cases hjt
        cases fuel with
        | zero => exact ⟨hnil, hQ⟩
        | succ fuel => exact ⟨fun _ => hQ, fun i hi => by rw [hnil] at hi; cases hi⟩)
      (ops.toList.drop q) _ (cs'.drop q) q s'.al s'.hl st (K .normal) (fun i hqi hi a w hw fuel listed hsz hcnt hl1 hl2 => by
        have hi0 : listed.getD i false = false := hl2 i (Nat.le_refl _)
        have his : i < listed.size := by omega
        have hpos : 0 < cnt (fun k => listed.getD k false) ops.size := by
          refine Nat.pos_of_ne_zero fun h0 => ?_
          have := cnt_zero _ h0 i hi
          rw [hi0] at this; cases this
        obtain ⟨fuel', rfl⟩ : ∃ f, fuel = f + 1 := ⟨fuel - 1, by omega⟩
        refine ⟨fun hnil => ?_, fun j hj => ?_⟩
        · exfalso
          have hmem : i ∈ Region.ready .any ops listed := by
            refine mem_ready.2 ⟨by simpa [his] using hi0, ops[i], by simp [hi], fun e he hbind => ?_⟩
            have hic : i < cs'.length := by omega
            have := hbs i ops[i] cs'[i] (by simp [hi]) (by simp [hic])
            rw [Nat.zero_add] at this
            simp only [befOk1, Bool.and_eq_true] at this
            have := List.all_eq_true.1 this.2 e (Array.mem_toList_iff.2 he)
            simp only [hbind, Bool.not_true, Bool.false_or, decide_eq_true_eq] at this
            exact hl1 _ this
          rw [hnil] at hmem; cases hmem
        · obtain rfl := hlate i hqi hi listed hsz hl1 hl2 j hj
          refine wpOpIn_mono (fun a w hv => hv fuel' _ (by simpa using hsz) ?_ (fun k hk => ?_) (fun k hk => ?_)) hw
          · have := (cnt_add (S := fun k => listed.getD k false) (S' := fun k => (listed.setIfInBounds j true).getD k false) (j := j) hi0 (by simp [his]) (fun k hk => getD_set_ne false (Ne.symm hk)) ops.size).1 hi
            omega
          · by_cases hkj : k = j
            · subst hkj; simp [his]
            · rw [getD_set_ne false (Ne.symm hkj)]; exact hl1 k (by omega)
          · rw [getD_set_ne false (by omega)]; exact hl2 k (by omega)) (by simp; omega) hd (fun k o hk => by simpa using hk) hK (fun s t a w hr hk => by rw [hQd]; exact ⟨s, t, hr, hk⟩) a' w' hrS
    exact key fuel listed hsz hcnt hl1 hl2
  · have : ∀ n m, cnt (fun k => (Array.replicate m false).getD k false) n ≤ n := by
      intro n m
      induction n with
      | zero => exact Nat.le_refl _
      | succ n ih => simp only [cnt]; split <;> omega
    exact this _ _
  · intro j x _ hl
    by_cases hj : j < ops.size <;> simp [hj] at hl
  · intro k _
    by_cases hj : k < ops.size <;> simp [hj]
  · have z : (fun k => (Array.replicate ops.size false).getD k false) = fun _ => false := by
      funext k
      by_cases hk : k < ops.size <;> simp [hk]
    rw [z]
    have a1 : gF sEff (fun _ => false) 0 L (get s.al) = get s.al := by funext t; exact gF_none s1 _ _ _ fun _ _ _ _ => rfl
    have a2 : gF hEff (fun _ => false) 0 L (hget s.hl) = hget s.hl := by funext t; exact Am.gF_none Am.h1 _ _ _ fun _ _ _ _ => rfl
    rw [a1, a2]; exact h1
theorem YWp.sound {P : Program} (hm : P.follows .mixedOrders = true) {E : Env} {l : Nat} {R : Loop} {Y : Hdl} (hyl : E.κ.yl = some l) (hY : YOk P E l R Y) {m0 : Nat} (hE : E.hl.length ≤ m0) : ∀ (code : Code) (c : CCode), compC P E.n code = some c → ∀ (s : St) (st : Option Exit) (K : Exit → St → Option Exit → Prop), YWp P m0 Y c s st K → AYp P E l R code s st K := by
  intro code
  induction code with
  | skip => intro c hc s st K h; simp only [compC, Option.some.injEq] at hc; subst hc; exact AYp.skip h
  | exit id => intro c hc s st K h; simp only [compC, Option.some.injEq] at hc; subst hc; exact AYp.exit h
  | ret => intro c hc s st K h; simp only [compC, Option.some.injEq] at hc; subst hc; exact AYp.ret h
  | region id ops draw =>
    intro c hc s st K h
    obtain ⟨cs, h1, rfl⟩ := Option.map_eq_some_iff.1 hc
    simp only [YWp] at h
    cases draw with
    | false => rw [if_neg (by simp)] at h; exact AYp.region hm hyl hY h1 h
    | true =>
      rw [if_pos rfl] at h
      obtain ⟨q, h2, h3, h4⟩ := h
      exact AYp.regionD hm hyl hY h1 h2 h3 h4
  | seq x y ihx ihy =>
    intro c hc s st K h
    simp only [compC] at hc
    split at hc <;> first | (cases hc; done) | skip
    rename_i cx cy hx hy
    simp only [Option.some.injEq] at hc; subst hc
    refine AYp.seq (AYp.mono (ihx cx hx s st _ h) fun e s' t h => ?_)
    cases e <;> first | exact ihy cy hy s' t K h | exact h
  | cond c x y ihx ihy =>
    intro cc hc s st K h
    simp only [compC] at hc
    split at hc <;> first | (cases hc; done) | skip
    rename_i cx cy hx hy
    simp only [Option.some.injEq] at hc; subst hc
    simp only [YWp] at h
    split at h
    · rename_i hb; exact AYp.cond (t := true) hb (ihx cx hx s st K h)
    · rename_i hb; exact AYp.cond (t := false) hb (ihy cy hy s st K h)
    · exact h.elim
  | block id c ih =>
    intro cc hc s st K h
    obtain ⟨c', h1, rfl⟩ := Option.map_eq_some_iff.1 hc
    exact AYp.block (ih c' h1 s st _ h)
  | loop c ih =>
    intro cc hc s st K h
    obtain ⟨c', h1, rfl⟩ := Option.map_eq_some_iff.1 hc
    refine AYp.loop (h (fun s st => AYLoop P E l R c s st K) fun s' t hh => ?_)
    rcases hh with ⟨m, al', ⟨h2, h3, h4⟩, h5⟩ | h5
    · have key : AYLoop P E l R c ⟨al', s'.hl.take m⟩ t K := AYLoop.round (AYp.mono (ih c' h1 _ _ _ h5) fun e s'' t' h6 => by cases e <;> exact h6)
      exact fun a w hr => key a w (hr.forget m al' (Nat.le_trans hE h2) h3 h4)
    · exact AYLoop.round (AYp.mono (ih c' h1 _ _ _ h5) fun e s'' t' h6 => by cases e <;> exact h6)
  | rangeFunc f ps x y ihx ihy =>
    intro cc hc s st K h
    simp only [compC] at hc
    split at hc <;> first | (cases hc; done) | skip
    split at hc <;> first | (cases hc; done) | skip
    simp only [Option.some.injEq] at hc; subst hc
    exact h.elim
  | _ => intro cc hc; simp [compC] at hc
end Go.Am
end
section
set_option linter.unusedSimpArgs false
set_option linter.unusedVariables false
namespace Go.Am
open Go Go.RowKit

def setPs (al : List (Nat × AV)) : List Nat → List AV → List (Nat × AV)
  | p :: ps, v :: vs => setPs (set al p v) ps vs
  | _, _ => al
theorem setPs_rel {κ : K} {w : World} : ∀ (ps : List Nat) (vs : List AV) (us : List Value) (al : List (Nat × AV)) (tmps : Array Value), ps.all (fun p => decide (p < tmps.size)) = true → vs.length = us.length →
    (∀ (i : Nat) (x : AV) (v : Value), vs[i]? = some x → us[i]? = some v → VRel κ w x v) → (∀ t, VRel κ w (get al t) (tmps.getD t undef)) →
    (∀ t, VRel κ w (get (setPs al ps vs) t) (((ps.zip us).foldl (fun (tmps : Array Value) (q : Nat × Value) => tmps.setIfInBounds q.1 q.2) tmps).getD t undef)) ∧ ((ps.zip us).foldl (fun (tmps : Array Value) (q : Nat × Value) => tmps.setIfInBounds q.1 q.2) tmps).size = tmps.size := by
  intro ps
  induction ps with
  | nil => intro vs us al tmps _ _ _ hs; exact ⟨hs, rfl⟩
  | cons p ps ih =>
    intro vs us al tmps hb hl hr hs
    cases vs with
    | nil =>
      have : us = [] := List.eq_nil_of_length_eq_zero (by simpa using hl.symm)
      subst this
      exact ⟨hs, rfl⟩
    | cons v vs =>
      cases us with
      | nil => simp at hl
      | cons u us =>
        simp only [List.all_cons, Bool.and_eq_true, decide_eq_true_eq] at hb
        obtain ⟨h1, h2⟩ := ih vs us (set al p v) (tmps.setIfInBounds p u) (by simpa using hb.2) (by simpa using hl) (fun i x y hx hy => hr (i + 1) x y hx hy) (fun t => by
          rw [get_set]
          by_cases ht : t = p
          · subst ht
            have := hr 0 v u rfl rfl
            simpa [upd, hb.1] using this
          · rw [upd_other _ _ ht]
            have := hs t
            simpa [Array.getElem?_setIfInBounds, Ne.symm ht] using this)
        refine ⟨?_, ?_⟩
        · simpa only [setPs, List.zip_cons_cons, List.foldl_cons] using h1
        · simpa only [List.zip_cons_cons, List.foldl_cons, Array.size_setIfInBounds] using h2
theorem Ext.alloc (κ : K) (w : World) (o : Obj) : Ext κ w κ (w.alloc o) := by
  refine ⟨rfl, fun _ _ _ h => h, fun _ => Nat.le_refl _, fun c off v _ hv => ?_, fun c C e hc => ⟨C, ?_, rfl⟩, rfl⟩
  · exact (World.cell?_of_block (w := w) (Below.heap_alloc w _ _ (World.block_lt_of_cell? w _ hv))).trans hv
  · rw [Below.heap_alloc w _ _ (Array.getElem?_eq_some_iff.1 hc).1]; exact hc
theorem Inv.alloc {κ : K} {h : Nat → Blk} {w : World} (hi : Inv κ h w) (o : Obj) : Inv κ h (w.alloc o) := by
  have hx := Ext.alloc κ w o
  refine ⟨by have := hi.base; simp; omega, fun b => ?_, hi.inj, fun c hc => by have := hi.prot c hc; simp; omega⟩
  have h0 := hi.ok b
  cases hbl : h b with
  | dead => rw [hbl] at h0; exact h0
  | row nil g frz sz xs =>
    rw [hbl] at h0
    refine ⟨?_, h0.2⟩
    rcases h0.1 with h3 | ⟨h3, loc, h4, h5⟩
    · exact .inl h3
    · obtain ⟨C, e, hC, _⟩ := h5.blk
      exact .inr ⟨h3, loc, h4, h5.keep hx (Below.heap_alloc w _ _ (Array.getElem?_eq_some_iff.1 hC).1) rfl⟩
theorem Chg.alloc (κ : K) (h : Nat → Blk) (w : World) (o : Obj) : Chg κ h w κ h (w.alloc o) :=
  ⟨rfl, rfl, rfl, by simp, fun c hc _ => Below.heap_alloc w _ c hc, fun b loc hl => .inl ⟨b, loc, hl, rfl⟩, fun _ _ _ => rfl⟩
/-- What a body with marks must achieve. -/
theorem leaves_marks {P : Program} {fn : Func} {rvs : List RV} (hrv : compRVs P fn.results.toList = some rvs) {E : Env} {l : Nat} {R : Loop} {s : St} {st : Option Exit} {a : Act} {Rp : Ending → World → Prop} (hres : (resRV s.al s.hl rvs).isSome = true)
    (h : ∀ (v : Value) (κ : K) (w0 : World), Ext E.κ E.w κ w0 → Chg E.κ (hget E.hl) E.w κ (hget s.hl) w0 → Inv κ (hget s.hl) w0 → w0.heap[l]? = some (.loop R) → Rp (.returned v) (w0.putObj l (.loop (recAt R st)))) :
    ∀ (ds : List Deferred) (w0 : World) (κ : K), Ext E.κ E.w κ w0 → Chg E.κ (hget E.hl) E.w κ (hget s.hl) w0 → Inv κ (hget s.hl) w0 → SRel κ w0 (get s.al) a → w0.heap[l]? = some (.loop R) → Marks E.w.heap.size ds w0 →
      LeavesInM Fence.wide 0 P fn a.tmps Rp ds .returning (w0.putObj l (.loop (recAt R st))) := by
  obtain ⟨xs, hxs⟩ := Option.isSome_iff_exists.1 hres
  intro ds
  induction ds with
  | nil =>
    intro w0 κ hx hc hi hs hl _
    have hi' := hi.put l _ (.loop (recAt R st)) hl (loop_ncells R)
    have hx01 := (Ext.refl κ w0).put l _ (.loop (recAt R st)) hl (loop_ncells R)
    obtain ⟨v, hrun, -⟩ := results_run hrv hi' (fun t => (hs t).ext hx01) hxs
    exact ⟨v, hrun, h v κ w0 hx hc hi hl⟩
  | cons d ds ih =>
    rintro w0 κ hx hc hi hs hl ⟨Ds, hnd, hds, hDs⟩
    cases Ds with
    | nil => simp at hds
    | cons D Ds =>
      simp only [List.map_cons, List.cons.injEq] at hds
      obtain ⟨hd, hds⟩ := hds
      obtain ⟨hD1, hD2⟩ := hDs D (by simp)
      have hncells : ∀ C e f, Obj.deferred (some []) ≠ .cells C e f := by simp
      have hDl : D ≠ l := by rintro rfl; rw [hl] at hD2; cases hD2
      have hD3 : (w0.putObj l (.loop (recAt R st))).heap[D]? = some (.deferred (some [])) := by rw [World.putObj_heap_other hDl]; exact hD2
      have hcomm : (w0.putObj l (.loop (recAt R st))).putObj D (.deferred none) = (w0.putObj D (.deferred none)).putObj l (.loop (recAt R st)) := by
        simp only [World.putObj]
        rw [Array.setIfInBounds_comm _ _ (Ne.symm hDl)]
      refine ⟨by simp, .inl ⟨D, (w0.putObj D (.deferred none)).putObj l (.loop (recAt R st)), by rw [hd], by rw [← hcomm]; exact run_takeDeferred hD3, ?_⟩⟩
      refine ih _ κ (hx.put D _ _ hD2 hncells) (hc.put D _ hD1) (hi.put D _ _ hD2 hncells) (fun t => (hs t).ext ((Ext.refl κ w0).put D _ _ hD2 hncells)) ?_ ⟨Ds, (List.nodup_cons.1 hnd).2, hds, fun D' hD' => ?_⟩
      · rw [World.putObj_heap_other (Ne.symm hDl)]; exact hl
      · obtain ⟨h1, h2⟩ := hDs D' (by simp [hD'])
        refine ⟨h1, ?_⟩
        rw [World.putObj_heap_other]
        · exact h2
        · rintro rfl; exact (List.nodup_cons.1 hnd).1 hD'
/-- The record that yields go to. -/
theorem VRel.setY {κ : Am.K} {w : World} {x : AV} {v : Value} (h : VRel κ w x v) (hy : κ.yl = none) (y : Option Nat) : VRel { κ with yl := y } w x v := by
  induction h with
  | int => exact .int _ _
  | bool => exact .bool _
  | str => exact .str _
  | nilp => exact .nilp
  | nilf => exact .nilf
  | nili => exact .nili
  | nils => exact .nils
  | und => exact .und _
  | agg hl _ ih => exact .agg hl ih
  | tup hl _ ih => exact .tup hl ih
  | sv a c F hn hv hc hm hs _ ih => exact .sv a c F hn hv hc hm hs ih
  | sl loc a c hρ hn ha hb => exact .sl loc a c hρ hn ha hb
  | slnil hρ => exact .slnil hρ
  | ptr loc hρ => exact .ptr loc hρ
  | rp p F hp hm _ ih => exact .rp p F hp hm ih
  | clo hl _ ih => exact .clo hl ih
  | yld h => rw [hy] at h; cases h
theorem Inv.setY {κ : Am.K} {h : Nat → Blk} {w : World} (hi : Inv κ h w) (hy : κ.yl = none) (y : Option Nat) : Inv { κ with yl := y } h w := by
  refine ⟨hi.base, fun b => ?_, hi.inj, hi.prot⟩
  have h0 := hi.ok b
  cases hbl : h b with
  | dead => rw [hbl] at h0; exact h0
  | row nil g frz sz xs =>
    rw [hbl] at h0
    refine ⟨?_, h0.2⟩
    rcases h0.1 with h3 | ⟨h3, loc, h4, h5⟩
    · exact .inl h3
    · refine .inr ⟨h3, loc, h4, h5.hsz, h5.own, h5.blk, h5.size, fun k j x hk => ?_, h5.prot⟩
      obtain ⟨v, hv, hr⟩ := h5.cell k j x hk
      exact ⟨v, hv, hr.setY hy y⟩
/-- Rows are forgotten, and the record with them. -/
theorem Inv.leave {κ : Am.K} {hl : List Blk} {w : World} (hi : Inv κ (hget hl) w) (m : Nat) (hhl : ∀ b ∈ hl.take m, b.lt m = true) :
    Inv { κ with yl := none, rho := fun b g => if b < m then κ.rho b g else none } (hget (hl.take m)) w ∧
    ∀ b loc, Lies { κ with yl := none, rho := fun b g => if b < m then κ.rho b g else none } (hget (hl.take m)) b loc → Lies κ (hget hl) b loc := by
  obtain ⟨κ', hκ'⟩ : ∃ κ' : Am.K, κ' = { κ with yl := none, rho := fun b g => if b < m then κ.rho b g else none } := ⟨_, rfl⟩
  have hρ : ∀ b g, b < m → κ'.rho b g = κ.rho b g := fun b g hb => by rw [hκ']; show (if _ then _ else _) = _; rw [if_pos hb]
  have hρ0 : ∀ b g, ¬ b < m → κ'.rho b g = none := fun b g hb => by rw [hκ']; show (if _ then _ else _) = _; rw [if_neg hb]
  have hpr : ∀ c off, Pr κ c off → Pr κ' c off := fun _ _ h => by rw [hκ']; exact h
  have hh : ∀ b, hget (hl.take m) b = if b < m then hget hl b else .dead := hget_take hl m
  have hlies : ∀ b loc, Lies κ' (hget (hl.take m)) b loc → Lies κ (hget hl) b loc := by
    rintro b loc ⟨g, frz, sz, xs, h1, h2⟩
    rw [hh] at h1
    split at h1
    · rename_i hb; rw [hρ b g hb] at h2; exact ⟨g, frz, sz, xs, h1, h2⟩
    · cases h1
  rw [← hκ']
  refine ⟨⟨by rw [hκ']; exact hi.base, fun b => ?_, fun b b' loc loc' h1 h2 => hi.inj b b' loc loc' (hlies _ _ h1) (hlies _ _ h2), by rw [hκ']; exact hi.prot⟩, hlies⟩
  rw [hh]
  split
  · rename_i hb
    have h0 := hi.ok b
    cases hbl : hget hl b with
    | dead => rw [hbl] at h0; intro g; rw [hρ b g hb]; exact h0 g
    | row nil g frz sz xs =>
      rw [hbl] at h0
      have hlt : ltL m xs = true := by
        have hmem : Blk.row nil g frz sz xs ∈ hl.take m := by
          unfold hget at hbl
          cases hq : hl[b]? with
          | none => simp [hq] at hbl
          | some q =>
            simp only [hq, Option.getD_some] at hbl
            subst hbl
            exact List.mem_of_getElem? (i := b) (by rw [List.getElem?_take, if_pos hb]; exact hq)
        exact hhl _ hmem
      refine ⟨?_, fun g' hg' => by rw [hρ b g' hb]; exact h0.2 g' hg'⟩
      rcases h0.1 with ⟨h1, h2, h3⟩ | ⟨h1, loc, h2, h3⟩
      · exact .inl ⟨h1, by rw [hρ b g hb]; exact h2, h3⟩
      · refine .inr ⟨h1, loc, by rw [hρ b g hb]; exact h2, h3.hsz, by rw [hκ']; exact h3.own, h3.blk, h3.size, fun k j x hk => ?_, by rw [hκ']; exact h3.prot⟩
        obtain ⟨v, hv, hvr⟩ := h3.cell k j x hk
        exact ⟨v, hv, hvr.low (mem_cellAt hlt hk) hρ hpr⟩
  · rename_i hb; exact fun g => hρ0 b g hb
theorem AWp.rangeF {P : Program} (hm : P.follows .mixedOrders = true) {E : Env} (hmb : E.mb ≤ E.w.heap.size) {g : Operand} {ps : Array Tmp} {assign body : Code} {s : St} {K : Exit → St → Prop} {fid : FuncId} {caps : List AV} {F : CFn} (hf : (copd g).ev (get s.al) = .clo fid caps) (hF : compF P fid = some F) (hcaps : caps.length + 1 ≤ F.n)
    (Y : Hdl) (hyl : E.κ.yl = none) (hY : ∀ (κ : Am.K) (w1 : World) (a : Act) (l D fn : Nat), SRel κ w1 (get s.al) a → a.tmps.size = E.n → YOk P ⟨κ, s.hl, w1, F.n, w1.heap.size⟩ l { state := .ready, pending := none, fn, tmps := a.tmps, params := ps, assign, body, defers := D } Y)
    (h : YWp P s.hl.length Y F.code ⟨argsAl 0 (.yld :: caps), s.hl⟩ none fun e s' st' => (e = .normal ∨ e = .ret) ∧ (resRV s'.al s'.hl F.rvs).isSome = true ∧ (st' = none ∨ st' = some .ret ∨ ∃ id, st' = some (.exit id)) ∧
      ∃ m, s.hl.length ≤ m ∧ (∀ b ∈ s'.hl.take m, b.lt m = true) ∧ K (st'.getD .normal) ⟨s.al, s'.hl.take m⟩) : AWp P none E (.rangeFunc g ps assign body) s K := by
  intro a w hr
  obtain ⟨κ, hx, hc, hi, hs, hn, hmk, hE⟩ := hr
  unfold compF at hF
  split at hF <;> first | (cases hF; done) | skip
  rename_i fn hfn
  split at hF <;> first | (cases hF; done) | skip
  rename_i hname
  split at hF <;> first | (cases hF; done) | skip
  rename_i c hcb
  split at hF <;> first | (cases hF; done) | skip
  rename_i cc rvs hcc hrvs
  simp only [Option.some.injEq] at hF; subst hF
  simp only at hcaps h hY
  refine wpIn_rangeFunc fun fn0 _ => ?_
  have hgv := ev_rel hs g
  rw [hf] at hgv
  generalize hgvv : a.eval g = gv at hgv
  cases hgv with
  | clo hlc hrc =>
    rename_i lb
    obtain ⟨R, hR⟩ : ∃ R : Loop, R = { state := .ready, pending := none, fn := fn0, tmps := a.tmps, params := ps, assign, body, defers := w.heap.size } := ⟨_, rfl⟩
    obtain ⟨wa, hwa⟩ : ∃ wa, wa = w.alloc (.deferred (some [])) := ⟨_, rfl⟩
    obtain ⟨w1, hw1⟩ : ∃ w1, w1 = wa.alloc (.loop R) := ⟨_, rfl⟩
    have hsz1 : w1.heap.size = w.heap.size + 2 := by rw [hw1, hwa]; simp
    have hla : wa.heap.size = w.heap.size + 1 := by rw [hwa]; simp
    have hl1 : w1.heap[w.heap.size + 1]? = some (.loop R) := by rw [hw1, ← hla]; exact World.alloc_heap_new wa _
    have hD1 : w1.heap[w.heap.size]? = some (.deferred (some [])) := by
      rw [hw1, Below.heap_alloc wa _ _ (by omega), hwa]; exact World.alloc_heap_new w _
    have hx1 : Ext κ w κ w1 := by rw [hw1]; refine Ext.trans ?_ (Ext.alloc κ wa _); rw [hwa]; exact Ext.alloc κ w _
    have hc1 : Chg κ (hget s.hl) w κ (hget s.hl) w1 := by rw [hw1]; refine Chg.trans ?_ (Chg.alloc κ _ wa _); rw [hwa]; exact Chg.alloc κ _ w _
    have hi1 : Inv κ (hget s.hl) w1 := by rw [hw1]; refine Inv.alloc ?_ _; rw [hwa]; exact hi.alloc _
    have hky : κ.yl = none := hx.yl.trans hyl
    obtain ⟨κi, hκi⟩ : ∃ κi : Am.K, κi = { κ with yl := some (w.heap.size + 1) } := ⟨_, rfl⟩
    have hii : Inv κi (hget s.hl) w1 := by rw [hκi]; exact hi1.setY hky _
    have hkv : ∀ {x : AV} {v : Value}, VRel κ w1 x v → VRel κi w1 x v := fun h => by rw [hκi]; exact h.setY hky _
    refine ⟨w.heap.size + 1, [{ target := .collected w.heap.size, args := #[] }], w1, { target := .fn (.func fid) lb, args := #[.func (.yield (w.heap.size + 1)) #[] #[]] }, w1, fid, #[.func (.yield (w.heap.size + 1)) #[] #[]] ++ lb, w1, ?_, ?_, fun _ _ => trivial, ?_, (fun h => by cases h), ?_⟩
    · rw [hw1, hwa, hR]; exact run_enterLoop_outer fn0 a.tmps ps assign body
    · have : a.eval (.const (.func (.yield (w.heap.size + 1)) #[] #[])) = .func (.yield (w.heap.size + 1)) #[] #[] := rfl
      simp only [resolve, hgvv, Deferred.ofValue, Sem.run_pure, Array.empty_append, List.map_toArray, List.map_cons, List.map_nil, this]
    · simp only [invoke]
      unfold callFunc
      simp only [Sem.run_bind, run_program, Result.andThen_ok, hfn, hname, Bool.false_eq_true, if_false, hcb, Option.isNone_some]
      rfl
    · refine callsIn_of_wp_marks hfn hcb trivial ?_ rfl
      obtain ⟨Ei, hEi⟩ : ∃ Ei : Env, Ei = ⟨κi, s.hl, w1, fn.ntmps, w1.heap.size⟩ := ⟨_, rfl⟩
      have hyok := hY κi w1 a (w.heap.size + 1) w.heap.size fn0 (fun t => hkv ((hs t).ext hx1)) hn
      rw [← hEi, ← hR] at hyok
      obtain ⟨vs, hvs⟩ : ∃ vs : Array Value, vs = #[.func (.yield (w.heap.size + 1)) #[] #[]] ++ lb := ⟨_, rfl⟩
      have hvl : (AV.yld :: caps).length = vs.size := by rw [hvs]; simp [hlc]; omega
      have hrel : ∀ (i : Nat) (x : AV) (v : Value), (AV.yld :: caps)[i]? = some x → vs[i]? = some v → VRel κi w1 x v := by
        intro i x v hxi hvi
        rw [hvs] at hvi
        cases i with
        | zero =>
          simp only [List.getElem?_cons_zero, Option.some.injEq] at hxi; subst hxi
          have : v = .func (.yield (w.heap.size + 1)) #[] #[] := by simpa [Array.getElem?_append] using hvi.symm
          subst this; exact .yld (by rw [hκi])
        | succ i =>
          simp only [List.getElem?_cons_succ] at hxi
          have : lb[i]? = some v := by simpa [Array.getElem?_append] using hvi
          exact hkv ((hrc i x v hxi this).ext hx1)
      rw [← hvs]
      have hslots : SRel κi w1 (get (argsAl 0 (.yld :: caps))) { tmps := vs ++ Array.replicate (fn.ntmps - vs.size) undef, defers := [] } := fun t => by
        rw [get_argsAl]
        simp only [Nat.zero_le, if_true, Nat.sub_zero]
        cases ha : (AV.yld :: caps)[t]? with
        | none => exact .und _
        | some x =>
          have hlt : t < vs.size := by rw [← hvl]; exact (List.getElem?_eq_some_iff.1 ha).1
          have := hrel t x vs[t] ha (by simp [hlt])
          simpa [Array.getD_eq_getD_getElem?, Array.getElem?_append, hlt] using this
      have hrel0 : RelS Ei (w.heap.size + 1) R ⟨argsAl 0 (.yld :: caps), s.hl⟩ none { tmps := vs ++ Array.replicate (fn.ntmps - vs.size) undef, defers := [] } w1 := by
        rw [hEi]
        refine ⟨w1, ⟨κi, .refl _ _, .refl _ _ _, hii, hslots, ?_, ⟨[], by simp, rfl, by simp⟩, hii⟩, hl1, (putObj_self hl1).symm⟩
        have : vs.size ≤ fn.ntmps := by rw [← hvl]; simp; omega
        simp; omega
      have hwalk := YWp.sound hm (by rw [hEi, hκi]) hyok (m0 := s.hl.length) (by rw [hEi]; exact Nat.le_refl _) c cc (by rw [hEi]; exact hcc) _ _ _ h
      refine wpIn_mono (hwalk _ _ hrel0) ?_
      rintro e a' w' ⟨s', st', ⟨w0, ⟨κ1, hxa, hca, hia, hsa, -, hmka, -⟩, hla', rfl⟩, hex, hres, hst, m, hm1, hm2, hK⟩
      rw [hEi] at hxa hca hmka
      have fin := leaves_marks (P := P) hrvs (E := Ei) (l := w.heap.size + 1) (R := R) (s := s') (st := st') (a := a') (Rp := rangePost (wideR none) 0 P (w.heap.size + 1) (fun e a' w' => ∃ s', Rel E s' a' w' ∧ K e s') { a with defers := [{ target := .collected w.heap.size, args := #[] }] ++ a.defers }) hres
        (fun v κ2 w2 hx2 hc2 hi2 hl2 => by
          rw [hEi] at hx2 hc2
          have hlt2 := (Array.getElem?_eq_some_iff.1 hl2).1
          have hl3 : (w2.putObj (w.heap.size + 1) (.loop (recAt R st'))).heap[w.heap.size + 1]? = some (.loop (recAt R st')) := World.putObj_heap_same hlt2
          have hnb : (recAt R st').state ≠ .busy := by
            cases st' with
            | none => simp [recAt, hR]
            | some e => simp [recAt]
          refine ⟨_, _, run_endLoop hl3 hnb, ?_⟩
          rw [putObj_put]
          obtain ⟨o, ho⟩ : ∃ o, o = Obj.loop { recAt R st' with state := .exhausted } := ⟨_, rfl⟩
          rw [← ho]
          obtain ⟨hi3, hlies3⟩ := hi2.leave m hm2
          obtain ⟨κ3, hκ3⟩ : ∃ κ3 : Am.K, κ3 = { κ2 with yl := none, rho := fun b g => if b < m then κ2.rho b g else none } := ⟨_, rfl⟩
          rw [← hκ3] at hi3 hlies3
          have hx2 : Ext κ w1 κ3 w2 := by
            rw [hκ3]
            refine ⟨by show κ2.B = κ.B; rw [hx2.B, hκi], fun b g y hb => ?_, fun c => by have := hx2.prot c; rw [hκi] at this; exact this, fun c off v hp hv => hx2.cell c off v (by rw [hκi]; exact hp) hv, hx2.blk, hky.symm⟩
            have hbl : b < s.hl.length := Nat.lt_of_not_le fun hle => by
              have := hi1.ok b
              rw [hget_dead _ _ hle] at this
              rw [this g] at hb; cases hb
            show (if _ then _ else _) = _
            rw [if_pos (by omega)]
            exact hx2.rho b g y (by rw [hκi]; exact hb)
          have hc2 : Chg κ (hget s.hl) w1 κ3 (hget (s'.hl.take m)) w2 := by
            have hc2' := hc2
            rw [hκi] at hc2'
            refine ⟨hc2'.os, hc2'.tape, hc2'.output, hc2'.size, hc2'.blk, fun b loc hL => hc2'.lies b loc (hlies3 b loc hL), fun c h1 h2 => ?_⟩
            have := hc2'.prot c h1 h2
            rw [hκ3]; exact this
          have hfin : Rel E ⟨s.al, s'.hl.take m⟩ { a with defers := [{ target := .collected w.heap.size, args := #[] }] ++ a.defers } (w2.putObj (w.heap.size + 1) o) := by
            refine RelF.more hx hc hE ((hx1.trans hx2).put (w.heap.size + 1) _ o hl2 (loop_ncells R)) ((hc1.trans hc2).put (w.heap.size + 1) o (by omega)) (hi3.put _ _ o hl2 (loop_ncells R)) (fun t => (hs t).ext ((hx1.trans hx2).put _ _ o hl2 (loop_ncells R))) hn ?_
            have hm1 : Marks E.mb a.defers w2 := hmk.keep hi (hc1.trans hc2)
            obtain ⟨Ds, hnd, hds, hDs⟩ := hm1
            obtain ⟨Ds0, -, hds0, hDs0⟩ := hmk
            have hDD : Ds = Ds0 := by
              rw [hds] at hds0
              exact List.map_inj_right (fun x y hxy => by simpa using hxy) |>.1 hds0
            subst hDD
            have hDw : w2.heap[w.heap.size]? = some (.deferred (some [])) := hc2.keepDef hi1 _ _ hD1
            refine ⟨w.heap.size :: Ds, List.nodup_cons.2 ⟨fun hmem => ?_, hnd⟩, by simp [hds], fun D hD => ?_⟩
            · have := (Array.getElem?_eq_some_iff.1 (hDs0 _ hmem).2).1
              omega
            · rcases List.mem_cons.1 hD with rfl | hD
              · refine ⟨?_, ?_⟩
                · have := hc.size; omega
                · rw [World.putObj_heap_other (by omega)]; exact hDw
              · refine ⟨(hDs D hD).1, ?_⟩
                rw [World.putObj_heap_other]
                · exact (hDs D hD).2
                · rintro rfl
                  have := (Array.getElem?_eq_some_iff.1 (hDs0 _ hD).2).1
                  omega
          rcases hst with rfl | rfl | ⟨id, rfl⟩
          · have : (recAt R none).pending = none := by simp [recAt, hR]
            rw [this]
            exact ⟨_, hfin, hK⟩
          · exact wpIn_ret ⟨_, hfin, hK⟩
          · exact wpIn_exit ⟨_, hfin, hK⟩) a'.defers w0 κ1 (by rw [hEi]; exact hxa) (by rw [hEi]; exact hca) hia hsa hla' (by rw [hEi]; exact hmka)
      rcases hex with rfl | rfl
      · exact fin
      · exact fin
end Go.Am
end
