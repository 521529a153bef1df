/- A region in any order does what it does in its own.
   Conditions: none. -/
import Derived.Test.YtkbpkbjfphdgeaaAm6
section
set_option linter.unusedSimpArgs false
set_option linter.unusedVariables false
namespace Go.Am
open Go Go.RowKit

/-- The edges say what 'bef' says. -/
def befOk1 (befs : List Nat) (j : Nat) (o : Oper) (b : Nat) : Bool :=
  decide (b < 2 ^ j) && (List.range j).all (fun k => !b.testBit k || o.after.toList.any fun e => Region.binds .any e && (e.on == k || (befs.getD e.on 0).testBit k)) &&
    o.after.toList.all fun e => !Region.binds .any e || decide (e.on < j)

def befOk (befs : List Nat) : Nat → List Oper → List COp → Bool
  | _, [], [] => true
  | j, o :: os, c :: cs => befOk1 befs j o c.bef && befOk befs (j + 1) os cs
  | _, _, _ => false

def touches (x y : COp) : Bool := match x.dst with
  | some d => y.rd.contains d || y.dst == some d
  | none => false

/-- Two operations that touch one slot are bound. -/
def slots1 (i : Nat) (x : COp) : Nat → List COp → Bool
  | _, [] => true
  | j, y :: cs => ((!touches x y && !touches y x) || y.bef.testBit i) && slots1 i x (j + 1) cs
def slotsOk : Nat → List COp → Bool
  | _, [] => true
  | i, x :: cs => slots1 i x (i + 1) cs && slotsOk (i + 1) cs

theorem slots1_spec {i : Nat} {x : COp} : ∀ (cs : List COp) (j : Nat), slots1 i x j cs = true → ∀ (k : Nat) (y : COp), cs[k]? = some y → touches x y = true ∨ touches y x = true → y.bef.testBit i = true := by
  intro cs
  induction cs with
  | nil => intro j _ k y h; simp at h
  | cons z cs ih =>
    intro j h k y hk ht
    simp only [slots1, Bool.and_eq_true] at h
    cases k with
    | zero =>
      simp only [List.getElem?_cons_zero, Option.some.injEq] at hk; subst hk
      have := h.1
      rcases ht with ht | ht <;> simpa [ht] using this
    | succ k => exact ih (j + 1) h.2 k y (by simpa using hk) ht

theorem slotsOk_spec : ∀ (cs : List COp) (i : Nat), slotsOk i cs = true → ∀ (k k' : Nat) (x y : COp), k < k' → cs[k]? = some x → cs[k']? = some y → touches x y = true ∨ touches y x = true → y.bef.testBit (i + k) = true := by
  intro cs
  induction cs with
  | nil => intro i _ k k' x y _ h; simp at h
  | cons z cs ih =>
    intro i h k k' x y hlt hx hy ht
    simp only [slotsOk, Bool.and_eq_true] at h
    cases k' with
    | zero => omega
    | succ k' =>
      cases k with
      | zero =>
        simp only [List.getElem?_cons_zero, Option.some.injEq] at hx; subst hx
        exact slots1_spec cs _ h.1 k' y (by simpa using hy) ht
      | succ k =>
        have := ih (i + 1) h.2 k k' x y (by omega) (by simpa using hx) (by simpa using hy) ht
        rwa [show i + 1 + k = i + (k + 1) by omega] at this

theorem befOk_spec {befs : List Nat} : ∀ (os : List Oper) (cs : List COp) (j : Nat), befOk befs j os cs = true → os.length = cs.length ∧ ∀ (k : Nat) (o : Oper) (c : COp), os[k]? = some o → cs[k]? = some c → befOk1 befs (j + k) o c.bef = true := by
  intro os
  induction os with
  | nil => intro cs j h; cases cs with
    | nil => exact ⟨rfl, fun k o c h => by simp at h⟩
    | cons => simp [befOk] at h
  | cons o os ih =>
    intro cs j h
    cases cs with
    | nil => simp [befOk] at h
    | cons c cs =>
      simp only [befOk, Bool.and_eq_true] at h
      obtain ⟨h1, h2⟩ := ih cs (j + 1) h.2
      refine ⟨by simp [h1], fun k o' c' hk hk' => ?_⟩
      cases k with
      | zero =>
        simp only [List.getElem?_cons_zero, Option.some.injEq] at hk hk'; subst hk hk'
        exact h.1
      | succ k =>
        have := h2 k o' c' (by simpa using hk) (by simpa using hk')
        rwa [show j + 1 + k = j + (k + 1) by omega] at this

def cnt (S : Nat → Bool) : Nat → Nat
  | 0 => 0
  | n + 1 => cnt S n + if S n then 0 else 1

theorem cnt_zero {S : Nat → Bool} : ∀ (n : Nat), cnt S n = 0 → ∀ k, k < n → S k = true := by
  intro n
  induction n with
  | zero => intro _ k h; omega
  | succ n ih =>
    intro h k hk
    simp only [cnt] at h
    by_cases hkn : k = n
    · subst hkn
      cases hS : S k with
      | true => rfl
      | false => simp [hS] at h
    · exact ih (by omega) k (by omega)

theorem cnt_add {S S' : Nat → Bool} {j : Nat} (h1 : S j = false) (h2 : S' j = true) (h3 : ∀ k, k ≠ j → S' k = S k) : ∀ (n : Nat), (j < n → cnt S' n + 1 = cnt S n) ∧ (n ≤ j → cnt S' n = cnt S n) := by
  intro n
  induction n with
  | zero => exact ⟨fun h => by omega, fun _ => rfl⟩
  | succ n ih =>
    refine ⟨fun h => ?_, fun h => ?_⟩
    · simp only [cnt]
      by_cases hjn : j = n
      · subst hjn
        rw [ih.2 (Nat.le_refl _), h1, h2]; simp
      · have := ih.1 (by omega)
        rw [h3 n (Ne.symm hjn)]; omega
    · simp only [cnt]
      rw [ih.2 (by omega), h3 n (by omega)]

/-- Blocks: two steps of which one changes what the other touches are bound. -/
def confl (x y : List Nat × List Nat × Nat) : Bool := x.2.1.any (y.1.contains ·) || y.2.1.any (x.1.contains ·)
def blk1 (i : Nat) (x : List Nat × List Nat × Nat) : List (List Nat × List Nat × Nat) → Bool
  | [] => true
  | y :: cs => (!confl x y || y.2.2.testBit i) && blk1 i x cs
def blkOk : Nat → List (List Nat × List Nat × Nat) → Bool
  | _, [] => true
  | i, x :: cs => blk1 i x cs && blkOk (i + 1) cs

theorem blk1_spec {i : Nat} {x : List Nat × List Nat × Nat} : ∀ (cs : List (List Nat × List Nat × Nat)), blk1 i x cs = true → ∀ (k : Nat) (y : List Nat × List Nat × Nat), cs[k]? = some y → confl x y = true → y.2.2.testBit i = true := by
  intro cs
  induction cs with
  | nil => intro _ k y h; simp at h
  | cons z cs ih =>
    intro h k y hk ht
    simp only [blk1, Bool.and_eq_true] at h
    cases k with
    | zero =>
      simp only [List.getElem?_cons_zero, Option.some.injEq] at hk; subst hk
      simpa [ht] using h.1
    | succ k => exact ih h.2 k y (by simpa using hk) ht

theorem blkOk_spec : ∀ (cs : List (List Nat × List Nat × Nat)) (i : Nat), blkOk i cs = true → ∀ (k k' : Nat) (x y : List Nat × List Nat × Nat), k < k' → cs[k]? = some x → cs[k']? = some y → confl x y = true → y.2.2.testBit (i + k) = true := by
  intro cs
  induction cs with
  | nil => intro i _ k k' x y _ h; simp at h
  | cons z cs ih =>
    intro i h k k' x y hlt hx hy ht
    simp only [blkOk, Bool.and_eq_true] at h
    cases k' with
    | zero => omega
    | succ k' =>
      cases k with
      | zero =>
        simp only [List.getElem?_cons_zero, Option.some.injEq] at hx; subst hx
        exact blk1_spec cs h.1 k' y (by simpa using hy) ht
      | succ k =>
        have := ih (i + 1) h.2 k k' x y (by omega) (by simpa using hx) (by simpa using hy) ht
        rwa [show i + 1 + k = i + (k + 1) by omega] at this

def Step.tr (x : Step) : List Nat × List Nat × Nat := (x.T, x.W.map Prod.fst, x.c.bef)

/-- The slots and rows before step j in the region's own order. -/
def sAt (L : List Step) (s : Nat → AV) (j : Nat) : Nat → AV := gF sEff (fun k => decide (k < j)) 0 L s
def hAt (L : List Step) (h : Nat → Blk) (j : Nat) : Nat → Blk := gF hEff (fun k => decide (k < j)) 0 L h

theorem draw_any {P : Program} {E : Env} {ops : Array Oper} {L : List Step} {s : Nat → AV} {h : Nat → Blk} (hlen : L.length = ops.size) (hbef : befOk (L.map (·.c.bef)) 0 ops.toList (L.map (·.c)) = true) (hslots : slotsOk 0 (L.map (·.c)) = true) (hblk : blkOk 0 (L.map Step.tr) = true)
    (hW : ∀ x ∈ L, ∀ p ∈ x.W, p.1 ∈ x.T) (hfree : ∃ b, h b = .dead ∧ ∀ x ∈ L, ∀ p ∈ x.W, p.1 ≠ b) (hop : ∀ (j : Nat) (x : Step), L[j]? = some x → OpL P E.n ops j x.c.dst x.c.rd x.T (sAt L s j) (hAt L h j) x.v x.W ∧ compDst E.n x.c.dst = true)
    {r : Option Nat} {Q : Exit → Act → World → Prop} (hQ : ∀ a w, RelF E (sAt L s ops.size) (hAt L h ops.size) a w → Q .normal a w) :
    ∀ (fuel : Nat) (listed : Array Bool) (a : Act) (w : World), listed.size = ops.size → cnt (fun k => listed.getD k false) ops.size ≤ fuel →
      (∀ (j : Nat) (x : Step), L[j]? = some x → listed.getD j false = true → ∀ k, x.c.bef.testBit k = true → listed.getD k false = true) →
      RelF E (gF sEff (fun k => listed.getD k false) 0 L s) (gF hEff (fun k => listed.getD k false) 0 L h) a w → wpAnyIn (wideR r) 0 P .any ops Q fuel listed a w := by
  obtain ⟨hbl, hbs⟩ := befOk_spec _ _ _ hbef
  have hb : ∀ (j : Nat) (o : Oper) (x : Step), ops[j]? = some o → L[j]? = some x → befOk1 (L.map (·.c.bef)) j o x.c.bef = true := fun j o x ho hx => by
    have := hbs j o x.c (by simpa using ho) (by simp [hx])
    simpa using this
  have hall : ∀ (listed : Array Bool), (∀ k, k < ops.size → listed.getD k false = true) → Region.ready .any ops listed = [] := fun listed h => by
    rw [List.eq_nil_iff_forall_not_mem]
    intro j hj
    obtain ⟨h1, o, h2, _⟩ := mem_ready.1 hj
    have := h j (Array.getElem?_eq_some_iff.1 h2).1
    cases hq : listed[j]? with
    | none => simp [hq] at this
    | some b => simp [hq] at this h1; simp_all
  have hdone : ∀ (listed : Array Bool) (a : Act) (w : World), (∀ k, k < ops.size → listed.getD k false = true) → RelF E (gF sEff (fun k => listed.getD k false) 0 L s) (gF hEff (fun k => listed.getD k false) 0 L h) a w → Q .normal a w := fun listed a w hl hr => by
    refine hQ a w ?_
    unfold sAt hAt
    rw [gF_all (S := fun k => decide (k < ops.size)) (S' := fun k => listed.getD k false) L 0 s (fun k hk => by simp only [Nat.zero_add]; rw [hl k (by omega)]; simp; omega),
      gF_all (S := fun k => decide (k < ops.size)) (S' := fun k => listed.getD k false) L 0 h (fun k hk => by simp only [Nat.zero_add]; rw [hl k (by omega)]; simp; omega)]
    exact hr
  intro fuel
  induction fuel with
  | zero =>
    intro listed a w hsz hc _ hr
    have hl := cnt_zero _ (Nat.le_zero.1 hc)
    exact ⟨hall listed hl, hdone listed a w hl hr⟩
  | succ fuel ih =>
    intro listed a w hsz hc hcl hr
    refine ⟨fun hnil => hdone listed a w (fun k hk => ?_) hr, fun j hj => ?_⟩
    · -- the least one that is left could come up
      refine Classical.byContradiction fun hk0 => ?_
      have hex : ∃ m, m < ops.size ∧ listed.getD m false = false ∧ ∀ k, k < m → listed.getD k false = true := by
        have : ∀ n, n < ops.size → listed.getD n false = false → ∃ m, m < ops.size ∧ listed.getD m false = false ∧ ∀ k, k < m → listed.getD k false = true := by
          intro n
          induction n using Nat.strongRecOn with
          | _ n ih =>
            intro hn hf
            by_cases h : ∃ k, k < n ∧ listed.getD k false = false
            · obtain ⟨k, h1, h2⟩ := h
              exact ih k h1 (by omega) h2
            · refine ⟨n, hn, hf, fun k hk => ?_⟩
              cases hq : listed.getD k false with
              | true => rfl
              | false => exact absurd ⟨k, hk, hq⟩ h
        exact this k hk (by simpa using hk0)
      obtain ⟨m, hm, hmf, hbelow⟩ := hex
      have hmem : m ∈ Region.ready .any ops listed := by
        refine mem_ready.2 ⟨?_, ops[m], by simp [hm], fun e he hbind => ?_⟩
        · have : m < listed.size := by omega
          simpa [this] using hmf
        · have hx : m < L.length := by omega
          have := hb m ops[m] L[m] (by simp [hm]) (by simp [hx])
          simp only [befOk1, Bool.and_eq_true] at this
          have := List.all_eq_true.1 this.2 e (Array.mem_toList_iff.2 he)
          simp only [hbind, Bool.not_true, Bool.false_or, decide_eq_true_eq] at this
          exact hbelow _ this
      rw [hnil] at hmem
      cases hmem
    · obtain ⟨hjt, o, ho, hafter⟩ := mem_ready.1 hj
      have hjn : j < ops.size := (Array.getElem?_eq_some_iff.1 ho).1
      have hjl : j < listed.size := by omega
      have hjf : listed.getD j false = false := by simpa [hjl] using hjt
      have hjL : j < L.length := by omega
      have hx : L[j]? = some L[j] := by simp [hjL]
      obtain ⟨hOpL, hdst⟩ := hop j L[j] hx
      have hpre : ∀ k, L[j].c.bef.testBit k = true → listed.getD k false = true := fun k hk => by
        have h3 := hb j o L[j] ho hx
        simp only [befOk1, Bool.and_eq_true, decide_eq_true_eq] at h3
        have hkj : k < j := by
          refine Nat.lt_of_not_le fun hle => ?_
          have : L[j].c.bef.testBit k = false := Nat.testBit_lt_two_pow (Nat.lt_of_lt_of_le h3.1.1 (Nat.pow_le_pow_right (by omega) hle))
          rw [this] at hk; cases hk
        have h4 := List.all_eq_true.1 h3.1.2 k (List.mem_range.2 hkj)
        rw [hk] at h4
        simp only [Bool.not_true, Bool.false_or, List.any_eq_true, Bool.and_eq_true, Bool.or_eq_true, beq_iff_eq] at h4
        obtain ⟨e, he, hbind, h5⟩ := h4
        have hel := hafter e (Array.mem_toList_iff.1 he) hbind
        rcases h5 with rfl | h5
        · exact hel
        · by_cases hlt : e.on < L.length
          · refine hcl e.on L[e.on] (by simp [hlt]) hel k ?_
            simpa [hlt] using h5
          · have : (List.map (fun x => x.c.bef) L)[e.on]? = none := by simp; omega
            rw [List.getD_eq_getElem?_getD, this] at h5
            simp at h5
      -- what j looks at is as it would be
      have hsl : ∀ k y, L[k]? = some y → touches y.c L[j].c = true ∨ touches L[j].c y.c = true → k ≠ j → listed.getD k false = decide (k < j) := fun k y hk ht hkj => by
        rcases Nat.lt_or_gt_of_ne hkj with hlt | hgt
        · have := slotsOk_spec _ 0 hslots k j y.c L[j].c hlt (by simp [hk]) (by simp [hx]) ht
          rw [Nat.zero_add] at this
          rw [hpre k this]; simp [hlt]
        · have := slotsOk_spec _ 0 hslots j k L[j].c y.c hgt (by simp [hx]) (by simp [hk]) ht.symm
          rw [Nat.zero_add] at this
          cases hq : listed.getD k false with
          | true => have := hcl k y hk hq j this; rw [hjf] at this; cases this
          | false => simp; omega
      have hbk : ∀ k y, L[k]? = some y → confl y.tr L[j].tr = true ∨ confl L[j].tr y.tr = true → k ≠ j → listed.getD k false = decide (k < j) := fun k y hk ht hkj => by
        have hcomm : ∀ p q, confl p q = confl q p := fun p q => by simp only [confl]; rw [Bool.or_comm]
        rcases Nat.lt_or_gt_of_ne hkj with hlt | hgt
        · have := blkOk_spec _ 0 hblk k j y.tr L[j].tr hlt (by simp [hk]) (by simp [hx]) (ht.elim id fun h => by rw [hcomm]; exact h)
          rw [Nat.zero_add] at this
          rw [hpre k this]; simp [hlt]
        · have := blkOk_spec _ 0 hblk j k L[j].tr y.tr hgt (by simp [hx]) (by simp [hk]) (ht.elim (fun h => by rw [hcomm]; exact h) id)
          rw [Nat.zero_add] at this
          cases hq : listed.getD k false with
          | true => have := hcl k y hk hq j this; rw [hjf] at this; cases this
          | false => simp; omega
      have hself : listed.getD j false = decide (j < j) := by rw [hjf]; simp
      refine RelF.step hr hOpL hdst (fun t ht => ?_) (fun b hbT => ?_) ?_ fun a' w' hr' => ?_
      · refine gF_agree s1 s2 L 0 s s (fun k y hk hy => ?_) rfl
        rw [Nat.zero_add]
        by_cases hkj : k = j
        · subst hkj; exact hself
        · exact hsl k y hk (.inl (by simp only [sWr] at hy; simp [touches, hy, ht])) hkj
      · refine gF_agree h1 h2 L 0 h h (fun k y hk hy => ?_) rfl
        rw [Nat.zero_add]
        by_cases hkj : k = j
        · subst hkj; exact hself
        · obtain ⟨p, hp, rfl⟩ := hy
          refine hbk k y hk (.inl ?_) hkj
          simp only [confl, Step.tr, Bool.or_eq_true, List.any_eq_true, List.contains_iff_mem]
          exact .inl ⟨p.1, List.mem_map_of_mem hp, hbT⟩
      · obtain ⟨b, hb1, hb2⟩ := hfree
        refine ⟨b, ?_⟩
        rw [gF_none h1 L 0 h (fun k y hk hy => ?_)]
        · exact hb1
        · obtain ⟨p, hp, e⟩ := hy
          exact absurd e (hb2 y (List.mem_of_getElem? hk) p hp)
      · have hset : ∀ k, k ≠ j → (listed.setIfInBounds j true).getD k false = listed.getD k false := fun k hk => getD_set_ne false (Ne.symm hk)
        have hsetj : (listed.setIfInBounds j true).getD j false = true := by simp [hjl]
        refine ih _ a' w' (by simpa using hsz) ?_ (fun k y hk hkl b hbit => ?_) ?_
        · have := (cnt_add (S := fun k => listed.getD k false) (S' := fun k => (listed.setIfInBounds j true).getD k false) (j := j) hjf hsetj hset ops.size).1 hjn
          omega
        · by_cases hkj : k = j
          · subst hkj
            rw [hx] at hk; cases hk
            exact getD_set_true (hpre b hbit)
          · rw [hset k hkj] at hkl
            exact getD_set_true (hcl k y hk hkl b hbit)
        · have e1 : gF sEff (fun k => (listed.setIfInBounds j true).getD k false) 0 L s = updO (gF sEff (fun k => listed.getD k false) 0 L s) L[j].c.dst L[j].v := by
            funext t
            refine gF_add s1 s2 L 0 j s hx (by simpa using hjf) (by simpa using hsetj) (fun k hk => hset k (by simpa using hk)) fun k y hjk hk hw1 hw2 => ?_
            rw [Nat.zero_add]
            rw [hsl k y hk (.inl (by simp only [sWr] at hw1 hw2; simp [touches, hw1, hw2])) (by omega)]; simp; omega
          have e2 : gF hEff (fun k => (listed.setIfInBounds j true).getD k false) 0 L h = updL (gF hEff (fun k => listed.getD k false) 0 L h) L[j].W := by
            funext t
            refine gF_add h1 h2 L 0 j h hx (by simpa using hjf) (by simpa using hsetj) (fun k hk => hset k (by simpa using hk)) fun k y hjk hk hw1 hw2 => ?_
            rw [Nat.zero_add]
            obtain ⟨p, hp, rfl⟩ := hw1
            obtain ⟨q, hq, hqe⟩ := hw2
            rw [hbk k y hk (.inl ?_) (by omega)]
            · simp; omega
            · simp only [confl, Step.tr, Bool.or_eq_true, List.any_eq_true, List.contains_iff_mem]
              exact .inl ⟨p.1, List.mem_map_of_mem hp, hqe ▸ hW _ (List.getElem_mem hjL) q hq⟩
          rw [e1, e2]; exact hr'

end Go.Am
end

section
set_option linter.unusedSimpArgs false
set_option linter.unusedVariables false
namespace Go.Am
open Go Go.RowKit

/-- From q on each operation waits for all before it. -/
def fullFrom (q : Nat) (cs : List COp) : Bool := (List.range cs.length).all fun j => decide (j < q) || (cs.map (·.bef)).getD j 0 == 2 ^ j - 1

theorem draw_pre {P : Program} {E : Env} {ops : Array Oper} {cs : List COp} {q : Nat} {L : List Step} {s : Nat → AV} {h : Nat → Blk} (hcl : cs.length = ops.size) (hlen : L.length = q) (hq : q ≤ ops.size) (hLc : L.map (·.c) = cs.take q) (hbef : befOk (cs.map (·.bef)) 0 ops.toList cs = true) (hfull : fullFrom q cs = true) (hslots : slotsOk 0 cs = true) (hblk : blkOk 0 (L.map Step.tr) = true)
    (hW : ∀ x ∈ L, ∀ p ∈ x.W, p.1 ∈ x.T) (hfree : ∃ b, h b = .dead ∧ ∀ x ∈ L, ∀ p ∈ x.W, p.1 ≠ b) (hop : ∀ (j : Nat) (x : Step), L[j]? = some x → OpL P E.n ops j x.c.dst x.c.rd x.T (sAt L s j) (hAt L h j) x.v x.W ∧ compDst E.n x.c.dst = true)
    {r : Option Nat} {Q : Exit → Act → World → Prop} (hQ : ∀ (fuel : Nat) (listed : Array Bool) (a : Act) (w : World), listed.size = ops.size → cnt (fun k => listed.getD k false) ops.size ≤ fuel → (∀ k, k < q → listed.getD k false = true) → (∀ k, q ≤ k → listed.getD k false = false) → RelF E (sAt L s q) (hAt L h q) a w → wpAnyIn (wideR r) 0 P .any ops Q fuel listed a w) :
    ∀ (fuel : Nat) (listed : Array Bool) (a : Act) (w : World), listed.size = ops.size → cnt (fun k => listed.getD k false) ops.size ≤ fuel →
      (∀ (j : Nat) (x : Step), L[j]? = some x → listed.getD j false = true → ∀ k, x.c.bef.testBit k = true → listed.getD k false = true) → (∀ k, q ≤ k → listed.getD k false = false) →
      RelF E (gF sEff (fun k => listed.getD k false) 0 L s) (gF hEff (fun k => listed.getD k false) 0 L h) a w → wpAnyIn (wideR r) 0 P .any ops Q fuel listed a w := by
  obtain ⟨hbl, hbs⟩ := befOk_spec _ _ _ hbef
  have hcsL : ∀ (j : Nat) (x : Step), L[j]? = some x → cs[j]? = some x.c := fun j x hx => by
    have h1 : (L.map (·.c))[j]? = some x.c := by simp [hx]
    rw [hLc, List.getElem?_take] at h1
    split at h1
    · exact h1
    · cases h1
  have hb0 : ∀ (j : Nat) (o : Oper) (c : COp), ops[j]? = some o → cs[j]? = some c → befOk1 (cs.map (·.bef)) j o c.bef = true := fun j o c ho hx => by
    have := hbs j o c (by simpa using ho) hx
    simpa using this
  have hb : ∀ (j : Nat) (o : Oper) (x : Step), ops[j]? = some o → L[j]? = some x → befOk1 (cs.map (·.bef)) j o x.c.bef = true := fun j o x ho hx => hb0 j o x.c ho (hcsL j x hx)
  have hdone : ∀ (fuel : Nat) (listed : Array Bool) (a : Act) (w : World), listed.size = ops.size → cnt (fun k => listed.getD k false) ops.size ≤ fuel → (∀ k, q ≤ k → listed.getD k false = false) → (∀ k, k < q → listed.getD k false = true) → RelF E (gF sEff (fun k => listed.getD k false) 0 L s) (gF hEff (fun k => listed.getD k false) 0 L h) a w → wpAnyIn (wideR r) 0 P .any ops Q fuel listed a w := fun fuel listed a w hsz hc hlate hl hr => by
    refine hQ fuel listed a w hsz hc hl hlate ?_
    unfold sAt hAt
    rw [gF_all (S := fun k => decide (k < q)) (S' := fun k => listed.getD k false) L 0 s (fun k hk => by simp only [Nat.zero_add]; rw [hl k (by omega)]; simp; omega),
      gF_all (S := fun k => decide (k < q)) (S' := fun k => listed.getD k false) L 0 h (fun k hk => by simp only [Nat.zero_add]; rw [hl k (by omega)]; simp; omega)]
    exact hr
  intro fuel
  induction fuel with
  | zero =>
    intro listed a w hsz hc _ hlate hr
    have hl := cnt_zero _ (Nat.le_zero.1 hc)
    exact hdone 0 listed a w hsz hc hlate (fun k hk => hl k (by omega)) hr
  | succ fuel ih =>
    intro listed a w hsz hc hcl hlate hr
    by_cases hall : ∀ k, k < q → listed.getD k false = true
    · exact hdone _ listed a w hsz hc hlate hall hr
    have hex0 : ∃ k, k < q ∧ listed.getD k false = false := by
      refine Classical.byContradiction fun hno => hall fun k hk => ?_
      cases hq : listed.getD k false with
      | true => rfl
      | false => exact absurd ⟨k, hk, hq⟩ hno
    refine ⟨fun hnil => ?_, fun j hj => ?_⟩
    · -- the least one that is left could come up
      exfalso
      have hex : ∃ m, m < q ∧ listed.getD m false = false ∧ ∀ k, k < m → listed.getD k false = true := by
        have : ∀ n, n < q → listed.getD n false = false → ∃ m, m < q ∧ listed.getD m false = false ∧ ∀ k, k < m → listed.getD k false = true := by
          intro n
          induction n using Nat.strongRecOn with
          | _ n ih =>
            intro hn hf
            by_cases h : ∃ k, k < n ∧ listed.getD k false = false
            · obtain ⟨k, h1, h2⟩ := h
              exact ih k h1 (by omega) h2
            · refine ⟨n, hn, hf, fun k hk => ?_⟩
              cases hq : listed.getD k false with
              | true => rfl
              | false => exact absurd ⟨k, hk, hq⟩ h
        obtain ⟨k, hk, hf⟩ := hex0
        exact this k hk hf
      obtain ⟨m, hm, hmf, hbelow⟩ := hex
      have hmem : m ∈ Region.ready .any ops listed := by
        have hmo : m < ops.size := by omega
        refine mem_ready.2 ⟨?_, ops[m], by simp [hmo], fun e he hbind => ?_⟩
        · have : m < listed.size := by omega
          simpa [this] using hmf
        · have hx : m < L.length := by omega
          have := hb m ops[m] L[m] (by simp [hmo]) (by simp [hx])
          simp only [befOk1, Bool.and_eq_true] at this
          have := List.all_eq_true.1 this.2 e (Array.mem_toList_iff.2 he)
          simp only [hbind, Bool.not_true, Bool.false_or, decide_eq_true_eq] at this
          exact hbelow _ this
      rw [hnil] at hmem
      cases hmem
    · obtain ⟨hjt, o, ho, hafter⟩ := mem_ready.1 hj
      have hjn : j < ops.size := (Array.getElem?_eq_some_iff.1 ho).1
      have hjl : j < listed.size := by omega
      have hjf : listed.getD j false = false := by simpa [hjl] using hjt
      have hpre0 : ∀ c, cs[j]? = some c → ∀ k, c.bef.testBit k = true → listed.getD k false = true := fun c hcj k hk => by
        have h3 := hb0 j o c ho hcj
        simp only [befOk1, Bool.and_eq_true, decide_eq_true_eq] at h3
        have hkj : k < j := by
          refine Nat.lt_of_not_le fun hle => ?_
          have : c.bef.testBit k = false := Nat.testBit_lt_two_pow (Nat.lt_of_lt_of_le h3.1.1 (Nat.pow_le_pow_right (by omega) hle))
          rw [this] at hk; cases hk
        have h4 := List.all_eq_true.1 h3.1.2 k (List.mem_range.2 hkj)
        rw [hk] at h4
        simp only [Bool.not_true, Bool.false_or, List.any_eq_true, Bool.and_eq_true, Bool.or_eq_true, beq_iff_eq] at h4
        obtain ⟨e, he, hbind, h5⟩ := h4
        have hel := hafter e (Array.mem_toList_iff.1 he) hbind
        rcases h5 with rfl | h5
        · exact hel
        · by_cases hlt : e.on < L.length
          · refine hcl e.on L[e.on] (by simp [hlt]) hel k ?_
            have h6 := hcsL e.on L[e.on] (by simp [hlt])
            simpa [List.getD_eq_getElem?_getD, h6] using h5
          · rw [hlate _ (by omega)] at hel; cases hel
      have hjq : j < q := by
        refine Nat.lt_of_not_le fun hle => ?_
        obtain ⟨k, hk, hf⟩ := hex0
        have hcj : j < cs.length := by omega
        have h3 := List.all_eq_true.1 hfull j (List.mem_range.2 hcj)
        simp only [Bool.or_eq_true, decide_eq_true_eq, beq_iff_eq] at h3
        have h4 : cs[j].bef = 2 ^ j - 1 := by
          rcases h3 with h3 | h3
          · omega
          · simpa [List.getD_eq_getElem?_getD, hcj] using h3
        have h5 := hpre0 cs[j] (by simp [hcj]) k (by rw [h4, Nat.testBit_two_pow_sub_one]; simp; omega)
        rw [hf] at h5; cases h5
      have hjL : j < L.length := by omega
      have hx : L[j]? = some L[j] := by simp [hjL]
      obtain ⟨hOpL, hdst⟩ := hop j L[j] hx
      have hpre : ∀ k, L[j].c.bef.testBit k = true → listed.getD k false = true := hpre0 L[j].c (hcsL j _ hx)
      -- what j looks at is as it would be
      have hsl : ∀ k y, L[k]? = some y → touches y.c L[j].c = true ∨ touches L[j].c y.c = true → k ≠ j → listed.getD k false = decide (k < j) := fun k y hk ht hkj => by
        rcases Nat.lt_or_gt_of_ne hkj with hlt | hgt
        · have := slotsOk_spec _ 0 hslots k j y.c L[j].c hlt (hcsL k y hk) (hcsL j _ hx) ht
          rw [Nat.zero_add] at this
          rw [hpre k this]; simp [hlt]
        · have := slotsOk_spec _ 0 hslots j k L[j].c y.c hgt (hcsL j _ hx) (hcsL k y hk) ht.symm
          rw [Nat.zero_add] at this
          cases hq : listed.getD k false with
          | true => have := hcl k y hk hq j this; rw [hjf] at this; cases this
          | false => simp; omega
      have hbk : ∀ k y, L[k]? = some y → confl y.tr L[j].tr = true ∨ confl L[j].tr y.tr = true → k ≠ j → listed.getD k false = decide (k < j) := fun k y hk ht hkj => by
        have hcomm : ∀ p q, confl p q = confl q p := fun p q => by simp only [confl]; rw [Bool.or_comm]
        rcases Nat.lt_or_gt_of_ne hkj with hlt | hgt
        · have := blkOk_spec _ 0 hblk k j y.tr L[j].tr hlt (by simp [hk]) (by simp [hx]) (ht.elim id fun h => by rw [hcomm]; exact h)
          rw [Nat.zero_add] at this
          rw [hpre k this]; simp [hlt]
        · have := blkOk_spec _ 0 hblk j k L[j].tr y.tr hgt (by simp [hx]) (by simp [hk]) (ht.elim (fun h => by rw [hcomm]; exact h) id)
          rw [Nat.zero_add] at this
          cases hq : listed.getD k false with
          | true => have := hcl k y hk hq j this; rw [hjf] at this; cases this
          | false => simp; omega
      have hself : listed.getD j false = decide (j < j) := by rw [hjf]; simp
      refine RelF.step hr hOpL hdst (fun t ht => ?_) (fun b hbT => ?_) ?_ fun a' w' hr' => ?_
      · refine gF_agree s1 s2 L 0 s s (fun k y hk hy => ?_) rfl
        rw [Nat.zero_add]
        by_cases hkj : k = j
        · subst hkj; exact hself
        · exact hsl k y hk (.inl (by simp only [sWr] at hy; simp [touches, hy, ht])) hkj
      · refine gF_agree h1 h2 L 0 h h (fun k y hk hy => ?_) rfl
        rw [Nat.zero_add]
        by_cases hkj : k = j
        · subst hkj; exact hself
        · obtain ⟨p, hp, rfl⟩ := hy
          refine hbk k y hk (.inl ?_) hkj
          simp only [confl, Step.tr, Bool.or_eq_true, List.any_eq_true, List.contains_iff_mem]
          exact .inl ⟨p.1, List.mem_map_of_mem hp, hbT⟩
      · obtain ⟨b, hb1, hb2⟩ := hfree
        refine ⟨b, ?_⟩
        rw [gF_none h1 L 0 h (fun k y hk hy => ?_)]
        · exact hb1
        · obtain ⟨p, hp, e⟩ := hy
          exact absurd e (hb2 y (List.mem_of_getElem? hk) p hp)
      · have hset : ∀ k, k ≠ j → (listed.setIfInBounds j true).getD k false = listed.getD k false := fun k hk => getD_set_ne false (Ne.symm hk)
        have hsetj : (listed.setIfInBounds j true).getD j false = true := by simp [hjl]
        refine ih _ a' w' (by simpa using hsz) ?_ (fun k y hk hkl b hbit => ?_) (fun k hk => by rw [hset k (by omega)]; exact hlate k hk) ?_
        · have := (cnt_add (S := fun k => listed.getD k false) (S' := fun k => (listed.setIfInBounds j true).getD k false) (j := j) hjf hsetj hset ops.size).1 hjn
          omega
        · by_cases hkj : k = j
          · subst hkj
            rw [hx] at hk; cases hk
            exact getD_set_true (hpre b hbit)
          · rw [hset k hkj] at hkl
            exact getD_set_true (hcl k y hk hkl b hbit)
        · have e1 : gF sEff (fun k => (listed.setIfInBounds j true).getD k false) 0 L s = updO (gF sEff (fun k => listed.getD k false) 0 L s) L[j].c.dst L[j].v := by
            funext t
            refine gF_add s1 s2 L 0 j s hx (by simpa using hjf) (by simpa using hsetj) (fun k hk => hset k (by simpa using hk)) fun k y hjk hk hw1 hw2 => ?_
            rw [Nat.zero_add]
            rw [hsl k y hk (.inl (by simp only [sWr] at hw1 hw2; simp [touches, hw1, hw2])) (by omega)]; simp; omega
          have e2 : gF hEff (fun k => (listed.setIfInBounds j true).getD k false) 0 L h = updL (gF hEff (fun k => listed.getD k false) 0 L h) L[j].W := by
            funext t
            refine gF_add h1 h2 L 0 j h hx (by simpa using hjf) (by simpa using hsetj) (fun k hk => hset k (by simpa using hk)) fun k y hjk hk hw1 hw2 => ?_
            rw [Nat.zero_add]
            obtain ⟨p, hp, rfl⟩ := hw1
            obtain ⟨q, hq, hqe⟩ := hw2
            rw [hbk k y hk (.inl ?_) (by omega)]
            · simp; omega
            · simp only [confl, Step.tr, Bool.or_eq_true, List.any_eq_true, List.contains_iff_mem]
              exact .inl ⟨p.1, List.mem_map_of_mem hp, hqe ▸ hW _ (List.getElem_mem hjL) q hq⟩
          rw [e1, e2]; exact hr'

end Go.Am
end
