/- Each operation of the machine does what its abstract one says: the theorem.
   Conditions: the operation is none that calls a function. -/
import Derived.IntWalk
import Derived.Test.YtkbpkbjfphdgeaaAm2
set_option linter.unusedSimpArgs false
set_option linter.unusedVariables false
namespace Go.Am
open Go Go.RowKit

variable {P : Program} {κ : K} {w : World} {h : Nat → Blk} {sl : Nat → AV} {a : Act} {fr : Nat}

def AOp.isCall : AOp → Bool
  | .call _ _ => true
  | _ => false

theorem opt_rel (hs : SRel κ w sl a) (o : Option Operand) {l : Option Int} (hl : optInt sl (o.map copd) = some l) : ∃ q : Option (IntKind × Int), o.map a.eval = q.map (fun p => .int p.1 p.2) ∧ l = q.map Prod.snd := by
  cases o with
  | none => simp only [Option.map_none, optInt, Option.some.injEq] at hl; subst hl; exact ⟨none, rfl, rfl⟩
  | some x =>
    simp only [Option.map_some, optInt] at hl
    cases hn : intAV ((copd x).ev sl) with
    | none => simp [hn] at hl
    | some n =>
      simp only [hn, Option.map_some, Option.some.injEq] at hl; subst hl
      obtain ⟨k, hk⟩ := run_asIntOf (ev_rel hs x) hn
      exact ⟨some (k, n), by simp [hk], rfl⟩

theorem rel_replicate {x : AV} {v : Value} {n : Nat} (hv : VRel κ w x v) : ∀ (i : Nat) (y : AV) (u : Value), (List.replicate n x)[i]? = some y → (List.replicate n v)[i]? = some u → VRel κ w y u := by
  intro i y u hy hu
  rw [List.getElem?_replicate] at hy hu
  split at hy <;> first | (cases hy; done) | skip
  rename_i hi
  rw [if_pos hi] at hu
  cases hy; cases hu; exact hv

theorem range_mod {z : Value} {n q : Nat} (hz : 0 < z.cells.size) (hq : q < n * z.cells.size) : ((Array.range (n * z.cells.size)).map (z.cells[· % z.cells.size]!))[q]? = ((List.replicate n z).flatMap fun v => v.cells.toList)[q]? := by
  have h1 : q / z.cells.size < n := (Nat.div_lt_iff_lt_mul hz).2 hq
  have h2 : q % z.cells.size < z.cells.size := Nat.mod_lt _ hz
  have := Nat.div_add_mod q z.cells.size
  rw [Nat.mul_comm] at this
  have e1 := flat_get (fun v : Value => v.cells.toList) z.cells.size (List.replicate n z) (q / z.cells.size) (q % z.cells.size) (fun e he => by rw [List.eq_of_mem_replicate he]; simp) h2
  rw [this] at e1
  rw [e1]
  simp [List.getElem?_replicate, h1, hq, h2]

theorem equalIn_loop {e : TypeId} {k : SK} (hk : scalK P e = some k) {vs us : Array Value} (n0 : Nat) (d : Nat) : ∀ (n o : Nat) (xs ys : List AV) (q : Bool), eqCells (List.replicate n k) xs ys = some q →
    (∀ (i : Nat) (x : AV), xs[i]? = some x → ∃ v, vs[o + i]? = some v ∧ VRel κ w x v) → (∀ (i : Nat) (x : AV), ys[i]? = some x → ∃ v, us[o + i]? = some v ∧ VRel κ w x v) →
    (forIn (List.range' o n) ((none, ()) : Option Bool × Unit) (fun i _ => do
      if (!(← Op.equalIn (d + 1) e (← part e vs (i * 1)) (← part e us (i * 1)))) = true then Pure.pure (ForInStep.done (some false, ())) else Pure.pure (ForInStep.yield (none, ())) : Nat → Option Bool × Unit → Sem (ForInStep (Option Bool × Unit)))).run P w = .ok (if q then (none, ()) else (some false, ())) w := by
  intro n
  induction n with
  | zero =>
    intro o xs ys q hq _ _
    cases xs <;> cases ys <;> simp [eqCells] at hq
    subst hq; rfl
  | succ n ih =>
    intro o xs ys q hq hx hy
    simp only [List.replicate_succ] at hq
    obtain ⟨x, xs, rfl⟩ : ∃ x xs', xs = x :: xs' := by cases xs with | nil => cases ys <;> simp [eqCells] at hq | cons x xs => exact ⟨x, xs, rfl⟩
    obtain ⟨y, ys, rfl⟩ : ∃ y ys', ys = y :: ys' := by cases ys with | nil => simp [eqCells] at hq | cons y ys => exact ⟨y, ys, rfl⟩
    simp only [eqCells] at hq
    split at hq <;> first | (cases hq; done) | skip
    rename_i p q' hp hq'
    cases hq
    obtain ⟨v, hv, hvr⟩ := hx 0 x rfl
    obtain ⟨u, hu, hur⟩ := hy 0 y rfl
    simp only [Nat.add_zero] at hv hu
    have hrest := ih (o + 1) xs ys q' hq' (fun i z hz => by have := hx (i + 1) z hz; rwa [show o + 1 + i = o + (i + 1) by omega]) (fun i z hz => by have := hy (i + 1) z hz; rwa [show o + 1 + i = o + (i + 1) by omega])
    rw [show List.range' o (n + 1) = o :: List.range' (o + 1) n from rfl, List.forIn_cons]
    simp only [Sem.run_bind, Nat.mul_one, run_part_scal hk hv, run_part_scal hk hu, Result.andThen_ok, eqCell_sound hk hvr hur hp]
    cases p
    · simp [Sem.run_pure]
    · simp only [Bool.not_true, Bool.false_eq_true, if_false, Sem.run_pure, Result.andThen_ok, Bool.true_and]
      simpa only [Nat.mul_one] using hrest

theorem equalIn_array {t e : TypeId} {k : SK} {inf : TypeInfo} {vs us : Array Value} {n : Nat} (he : P.underlying t = some (.array n e)) (hk : scalK P e = some k) (hinf : P.info? e = some inf) (hone : inf.size = 1) (d : Nat) (xs ys : List AV) (q : Bool)
    (hq : eqCells (List.replicate n k) xs ys = some q) (hx : ∀ (i : Nat) (x : AV), xs[i]? = some x → ∃ v, vs[0 + i]? = some v ∧ VRel κ w x v) (hy : ∀ (i : Nat) (x : AV), ys[i]? = some x → ∃ v, us[0 + i]? = some v ∧ VRel κ w x v) :
    (Op.equalIn (d + 1 + 1) t (.agg vs) (.agg us)).run P w = .ok q w := by
  have hloop := equalIn_loop (P := P) (κ := κ) (w := w) hk (vs := vs) (us := us) n d n 0 xs ys q hq hx hy
  rw [Op.equalIn]
  simp only [Sem.run_bind, run_underlying he, Result.andThen_ok, run_size hinf, hone]
  rw [Std.Legacy.Range.forIn_eq_forIn_range']
  simp only [Std.Legacy.Range.size, Nat.sub_zero, Nat.add_sub_cancel, Nat.div_one]
  rw [hloop]
  cases q <;> rfl

theorem aop_sound {o : Oper} {c : AOp} (hc : compOp P o.op o.type = some c) (hnc : c.isCall = false) (hi : Inv κ h w) (hs : SRel κ w sl a) (hf : h fr = .dead) {r : Res} (hr : aop c sl h fr = some r) :
    Runs P (execOp a.eval o) κ h w r.v (updL h r.ups) := by
  obtain ⟨dst, op, ty, pos, after, guard⟩ := o
  simp only at hc
  cases op with
  | move x =>
    simp only [compOp, Option.some.injEq] at hc; subst hc
    exact snd_move x hi hs hr _ rfl
  | assign x =>
    simp only [compOp] at hc
    split at hc
    · rename_i hnil
      split at hc
      · rename_i e he
        obtain ⟨n, hn, rfl⟩ := Option.map_eq_some_iff.1 hc
        simp only [aop, Option.some.injEq] at hr; subst hr
        obtain ⟨κ', hx, hinv, hρ, hchg⟩ := hi.newNil hf n
        have hval : a.eval x = .slice none 0 0 := by
          unfold isConstNil at hnil
          split at hnil
          · rfl
          · cases hnil
        exact ⟨.slice none 0 0, κ', w, .inl (by rw [← hval]; rfl), hx, hinv, .slnil hρ, hchg⟩
      · simp only [Option.some.injEq] at hc; subst hc
        exact snd_move x hi hs hr _ rfl
    · simp only [Option.some.injEq] at hc; subst hc
      exact snd_move x hi hs hr _ rfl
  | pick c x y =>
    simp only [compOp, Option.some.injEq] at hc; subst hc
    have hcv := ev_rel hs c
    simp only [aop] at hr
    split at hr <;> first | (cases hr; done) | skip
    rename_i t ht
    cases hr
    rw [ht] at hcv
    have hx := ev_rel hs x
    have hy := ev_rel hs y
    refine Runs.pure (v := if t then a.eval x else a.eval y) ?_ hi ?_
    · cases hcv' : a.eval c <;> rw [hcv'] at hcv <;> cases hcv
      simp only [execOp, hcv', asBool, pure_bind]
      rfl
    · show VRel κ w (pickAV t _ _) _
      unfold pickAV
      split
      · rename_i p q hp hq
        rw [hp] at hx; rw [hq] at hy
        cases t
        · simpa using (by generalize a.eval y = v at *; cases hy; exact .bool _ : VRel κ w (.bool q) (a.eval y))
        · simpa using (by generalize a.eval x = v at *; cases hx; exact .bool _ : VRel κ w (.bool p) (a.eval x))
      · cases t
        · simpa using hy
        · simpa using hx
  | alloc e =>
    simp only [compOp] at hc
    obtain ⟨q, hq, rfl⟩ := Option.map_eq_some_iff.1 hc
    obtain ⟨i, h1, h2, h3, h4⟩ := oneOf_spec hq
    simp only [aop] at hr
    split at hr <;> first | (cases hr; done) | skip
    rename_i hel
    cases hr
    obtain ⟨κ', w', hrun, hx, hinv, hv, hb⟩ := box_runs (P := P) hi hf (ofConst_rel κ w q.2.2) hel e
    refine ⟨_, κ', w', .inl ?_, hx, hinv, hv, hb⟩
    simp only [execOp, Instr.alloc, Sem.run_bind, run_zero h1 h4, Result.andThen_ok, hrun]
    rfl
  | box e x =>
    simp only [compOp, Option.some.injEq] at hc; subst hc
    simp only [aop] at hr
    split at hr <;> first | (cases hr; done) | skip
    rename_i hel
    cases hr
    obtain ⟨κ', w', hrun, hx, hinv, hv, hb⟩ := box_runs (P := P) hi hf (ev_rel hs x) hel e
    refine ⟨_, κ', w', .inl ?_, hx, hinv, hv, hb⟩
    simp only [execOp, Instr.box, Sem.run_bind, Result.andThen_ok, hrun]
    rfl
  | build t parts =>
    have go : ∀ (place : Nat → Option (Nat × Nat)) (z : Value) (zs : List AV) (ps : List (Nat × Nat × Opd)), partsOf P place parts.toList = some ps → c = .build zs ps →
        (∀ vs' : Array Value, Instr.fill place z.cells ((parts.map fun p => (p.1, a.eval p.2)).toList) = some vs' → (Instr.build t (parts.map fun p => (p.1, a.eval p.2))).run P w = .ok (.agg vs') w) → ofConst z = .agg zs →
        Runs P (execOp a.eval { dst := dst, op := .build t parts, type := ty, pos := pos, after := after, guard := guard }) κ h w r.v (updL h r.ups) := by
      rintro place z zs ps hps rfl hrun hz
      simp only [aop] at hr
      split at hr <;> first | (cases hr; done) | skip
      rename_i hel
      obtain ⟨cs, hcs, rfl⟩ := Option.map_eq_some_iff.1 hr
      have hzr : CRel κ w zs z.cells := by have := CRel.cells (ofConst_rel κ w z) (by rw [hz]; simp); rw [hz] at this; exact this
      have hpl : ∀ (l : List (Nat × Operand)) (qs : List (Nat × Nat × Opd)), partsOf P place l = some qs → qs = l.map (fun p => (((place p.1).getD (0, 0)).1, ((place p.1).getD (0, 0)).2, copd p.2)) ∧ ∀ p ∈ l, (place p.1).isSome = true := by
        intro l
        induction l with
        | nil => intro qs hq; simp [partsOf] at hq; subst hq; exact ⟨rfl, by simp⟩
        | cons p l ih =>
          intro qs hq
          simp only [partsOf, List.mapM_cons] at hq
          cases hp : place p.1 with
          | none => simp [hp] at hq
          | some q =>
            simp only [hp, Option.map_some] at hq
            cases hrest : l.mapM (fun p => (place p.1).map fun q => (q.1, q.2, copd p.2)) with
            | none => simp [hrest] at hq
            | some rest =>
              simp [hrest] at hq
              obtain ⟨h1, h2⟩ := ih rest hrest
              subst hq
              refine ⟨by simp [hp, h1], fun p' hp' => ?_⟩
              rcases List.mem_cons.1 hp' with e | e
              · subst e; simp [hp]
              · exact h2 p' e
      obtain ⟨hq1, hq2⟩ := hpl _ _ hps
      have hfill := fill_rel (κ := κ) (w := w) place (parts.toList.map fun p => (p.1, (copd p.2).ev sl)) ((parts.map fun p => (p.1, a.eval p.2)).toList) _ _ cs hzr (by simp)
        (fun j p q hp hq => by
          simp only [List.getElem?_map, Array.toList_map] at hp hq
          cases ho : parts.toList[j]? with
          | none => simp [ho] at hp
          | some o =>
            simp only [ho, Option.map_some, Option.some.injEq] at hp hq
            subst hp hq
            refine ⟨rfl, ev_rel hs _, fun hu => ?_⟩
            have := List.all_eq_true.1 hel (((place o.1).getD (0, 0)).1, ((place o.1).getD (0, 0)).2, copd o.2) (by rw [hq1]; exact List.mem_map.2 ⟨o, List.mem_of_getElem? ho, rfl⟩)
            simp only at this
            simp only at hu
            rw [hu] at this
            simp [AV.elem, AV.cells, AV.one] at this)
        (fun p hp => by
          obtain ⟨o, ho, rfl⟩ := List.mem_map.1 hp
          exact hq2 o ho)
        (by
          rw [hq1] at hcs
          simpa [List.map_map, Function.comp_def] using hcs)
      obtain ⟨vs', hvs, hl, hrr⟩ := hfill
      exact Runs.val (hrun vs' hvs) hi (.agg hl hrr)
    simp only [compOp] at hc
    split at hc <;> first | (cases hc; done) | skip
    · rename_i fs q hfs hq
      split at hc <;> first | (cases hc; done) | skip
      rename_i pl hpl
      split at hc <;> first | (cases hc; done) | skip
      rename_i zs hzs
      obtain ⟨ps, hps, rfl⟩ := Option.map_eq_some_iff.1 hc
      obtain ⟨i, h1, h2, h3, h4⟩ := oneOf_spec hq
      have hplaces : ∀ (l : List Field) (pl : List (Nat × Nat)) (w0 : World), l.mapM (fun f => (sizeT P f.type).map fun s => (f.offset, s)) = some pl → (l.mapM (fun f => do Pure.pure (f.offset, ← sizeOf f.type) : Field → Sem (Nat × Nat))).run P w0 = .ok pl w0 := by
        intro l
        induction l with
        | nil => intro pl w0 hm; simp at hm; subst hm; rfl
        | cons f l ih =>
          intro pl w0 hm
          simp only [List.mapM_cons] at hm
          cases hf' : sizeT P f.type with
          | none => simp [hf'] at hm
          | some n =>
            obtain ⟨inf, hinf, rfl⟩ := sizeT_spec hf'
            simp only [hf', Option.map_some] at hm
            cases hrest : l.mapM (fun f => (sizeT P f.type).map fun s => (f.offset, s)) with
            | none => simp [hrest] at hm
            | some rest =>
              simp [hrest] at hm
              subst hm
              simp only [List.mapM_cons, Sem.run_bind, run_size hinf, Result.andThen_ok, Sem.run_pure, ih rest w0 hrest]
      refine go _ q.2.2 zs ps hps rfl (fun vs' hvs => ?_) hzs
      · have hm : (fs.mapM (fun f => do Pure.pure (f.offset, ← sizeOf f.type) : Field → Sem (Nat × Nat))).run P w = .ok pl.toArray w := by
          have := hplaces fs.toList pl w hpl
          rw [← Array.toArray_toList (xs := fs), List.mapM_toArray]
          simp only [Sem.run_map, this, Result.andThen_ok]
        simp only [Instr.build, Sem.run_bind, run_zero h1 h4, run_underlying hfs, Result.andThen_ok, hm]
        rw [show (fun x => pl.toArray[x]?) = (fun x => pl[x]?) from by funext x; simp, hvs]
        rfl
    · rename_i n e q he hq
      split at hc <;> first | (cases hc; done) | skip
      rename_i s hsz
      split at hc <;> first | (cases hc; done) | skip
      rename_i zs hzs
      obtain ⟨ps, hps, rfl⟩ := Option.map_eq_some_iff.1 hc
      obtain ⟨i, h1, h2, h3, h4⟩ := oneOf_spec hq
      obtain ⟨inf, hinf, rfl⟩ := sizeT_spec hsz
      refine go _ q.2.2 zs ps hps rfl (fun vs' hvs => ?_) hzs
      simp only [Instr.build, Sem.run_bind, run_zero h1 h4, run_underlying he, Result.andThen_ok, run_size hinf]
      rw [hvs]
      rfl
  | buildSlice t len parts =>
    simp only [compOp] at hc
    split at hc <;> first | (cases hc; done) | skip
    rename_i e he
    split at hc <;> first | (cases hc; done) | skip
    rename_i s b z hq
    split at hc <;> first | (cases hc; done) | skip
    rename_i hcond
    obtain ⟨hbig, hord, hlen, hzs⟩ := hcond
    simp only [Option.some.injEq] at hc; subst hc
    obtain ⟨i, h1, rfl, h3, h4⟩ := oneOf_spec hq
    change i.zero = some z at h4
    change z.cells.size = i.size at hzs
    change len * i.size ≤ 2 ^ 24 at hbig
    simp only [aop] at hr
    split at hr <;> first | (cases hr; done) | skip
    rename_i hel
    simp only [Option.some.injEq] at hr; subst hr
    have hpl : parts.toList.length = len := by simpa using hlen
    have hcs : ∀ p ∈ parts.toList, ((copd p.2).ev sl).elem = true ∧ ((copd p.2).ev sl).cells.length = i.size := fun p hp => by
      have := List.all_eq_true.1 hel (copd p.2) (List.mem_map.2 ⟨p, hp, rfl⟩)
      rw [Bool.and_eq_true, beq_iff_eq] at this
      exact this
    obtain ⟨vs, hvs⟩ : ∃ vs, vs = parts.toList.map fun p => a.eval p.2 := ⟨_, rfl⟩
    have hvsz : ∀ v ∈ vs, v.cells.size = i.size := fun v hv => by
      rw [hvs] at hv
      obtain ⟨p, hp, rfl⟩ := List.mem_map.1 hv
      rw [← (hcs p hp).2]
      exact (cells_rel (ev_rel hs p.2) (hcs p hp).1).1
    have hvl : vs.length = len := by rw [hvs]; simpa using hpl
    obtain ⟨C0, hC0⟩ : ∃ C0 : Array Value, C0 = (Array.range (len * i.size)).map ((if len * i.size = 0 then #[] else z.cells)[· % (if len * i.size = 0 then #[] else z.cells).size]!) := ⟨_, rfl⟩
    have hC0s : C0.size = len * i.size := by rw [hC0]; simp
    obtain ⟨C, hfill, hCs, hCq⟩ := fill_row i.size vs 0 C0 hvsz (by rw [hvl, hC0s]; simp)
    have hzip : (parts.map fun p => (p.1, a.eval p.2)).toList = (vs.zipIdx 0).map fun p => (p.2, p.1) := by
      rw [Array.toList_map, inOrder_zip _ 0 hord, ← hvs]
    obtain ⟨κ', hx, hinv, hρ, hchg⟩ := new_row (fr := fr) (sz := i.size) (xs := (parts.toList.map fun p => copd p.2).map (·.ev sl)) (vs := vs) hi hf C e (by rw [hvs]; simp)
      (fun j x v hx hv => by
        rw [hvs] at hv
        simp only [List.getElem?_map] at hx hv
        cases ho : parts.toList[j]? with
        | none => simp [ho] at hx
        | some o =>
          simp only [ho, Option.map_some, Option.some.injEq] at hx hv
          subst hx hv
          exact ev_rel hs _)
      (fun x hx => by
        obtain ⟨q, hq, rfl⟩ := List.mem_map.1 hx
        obtain ⟨p, hp, rfl⟩ := List.mem_map.1 hq
        exact (hcs p hp).2)
      (fun x hx => by
        obtain ⟨q, hq, rfl⟩ := List.mem_map.1 hx
        obtain ⟨p, hp, rfl⟩ := List.mem_map.1 hq
        exact (hcs p hp).1)
      (by rw [hCs, hC0s]; simp [hpl])
      (fun q hq' => by
        have hq'' : q < len * i.size := by simpa [hpl] using hq'
        rw [hCq, if_pos (by rw [hvl]; simpa using hq'')]
        simp)
    refine ⟨.slice (some ⟨w.heap.size, 0, none⟩) len len, κ', _, .inl ?_, hx, ?_, ?_, by simpa [updL] using hchg⟩
    · simp only [execOp, Instr.buildSlice, Sem.run_bind, run_underlying he, Result.andThen_ok, run_size h1]
      rw [if_neg (by omega)]
      by_cases hz0 : len * i.size = 0
      · simp only [if_pos hz0, pure_bind] at hC0 ⊢
        rw [hzip, ← hC0, hfill]
        simp only [newRow, Sem.run_bind, run_newObj_alloc, Result.andThen_ok, Sem.run_pure]
      · simp only [if_neg hz0] at hC0 ⊢
        simp only [Sem.run_bind, run_zero h1 h4, Result.andThen_ok, Sem.run_pure]
        rw [hzip, ← hC0, hfill]
        simp only [newRow, Sem.run_bind, run_newObj_alloc, Result.andThen_ok, Sem.run_pure]
    · simpa [updL] using hinv
    · have hl2 : ((parts.toList.map fun p => copd p.2)).length = len := by simpa using hpl
      show VRel κ' _ (.sl fr 0 0 (parts.toList.map fun p => copd p.2).length) _
      rw [hl2]
      refine .sl _ _ _ hρ (Nat.le_refl _) (fun _ => by simp) ⟨C, e, World.alloc_heap_new w _, ?_⟩
      simp [hCs, hC0s]
  | load t x =>
    simp only [compOp] at hc
    split at hc <;> first | (cases hc; done) | skip
    rename_i b n hb hn
    simp only [Option.some.injEq] at hc; subst hc
    obtain ⟨d, hd, hbd⟩ := isAggT_spec hb
    obtain ⟨i, hinf, rfl⟩ := sizeT_spec hn
    obtain ⟨v, hv, rfl⟩ := map_val hr
    obtain ⟨u, hrun, hur⟩ := snd_load hd hinf hi (ev_rel hs x) hbd hv
    exact Runs.val hrun hi hur
  | store t x v =>
    simp only [compOp] at hc
    split at hc <;> first | (cases hc; done) | skip
    rename_i n hn
    split at hc <;> first | (cases hc; done) | skip
    rename_i hpos
    simp only [Option.some.injEq] at hc; subst hc
    obtain ⟨i, hinf, rfl⟩ := sizeT_spec hn
    simp only [aop] at hr
    obtain ⟨⟨b, blk⟩, hst, rfl⟩ := Option.map_eq_some_iff.1 hr
    obtain ⟨w', hrun, hx, hinv, hbel⟩ := snd_store (P := P) (t := t) hinf hi (ev_rel hs x) (ev_rel hs v) hpos hst
    refine ⟨undef, κ, w', .inr ⟨?_, rfl⟩, hx, hinv, .und _, hbel⟩
    simp only [execOp, Sem.run_bind, hrun, Result.andThen_ok]
    rfl
  | nilCheck x =>
    simp only [compOp, Option.some.injEq] at hc; subst hc
    have hx := ev_rel hs x
    simp only [aop] at hr
    split at hr <;> first | (cases hr; done) | skip
    all_goals
      rename_i hev
      cases hr
      rw [hev] at hx
      refine Runs.pure (v := a.eval x) ?_ hi hx
      generalize hv : a.eval x = v at *
      cases hx <;> simp only [execOp, hv] <;> rfl
  | binOp op t x y yt =>
    have hx := ev_rel hs x
    have hy := ev_rel hs y
    have hbin : ∀ op', (execOp a.eval { dst := dst, op := .binOp op' t x y yt, type := ty, pos := pos, after := after, guard := guard } : Sem Next) = ((do eqGuard op' t x y (a.eval x) (a.eval y); binOp op' t (a.eval x) (a.eval y) : Sem Value) >>= fun v => Pure.pure (Next.value v)) := fun _ => rfl
    have plain : ∀ op', c = .bin op' (copd x) (copd y) → Runs P (execOp a.eval { dst := dst, op := .binOp op' t x y yt, type := ty, pos := pos, after := after, guard := guard }) κ h w r.v (updL h r.ups) := by
      rintro op' rfl
      obtain ⟨v, hv, rfl⟩ := map_val hr
      obtain ⟨q, hq, hqr⟩ := bin_sound (P := P) (t := t) hx hy hv x y
      rw [hbin]
      exact Runs.val hq hi hqr
    have eqs : ∀ neg b ks, eqKs P t = some (b, ks) → c = .eqv neg b ks (copd x) (copd y) → Runs P (execOp a.eval { dst := dst, op := .binOp (if neg then .neq else .eql) t x y yt, type := ty, pos := pos, after := after, guard := guard }) κ h w r.v (updL h r.ups) := by
      rintro neg b ks hks rfl
      have hbin2 : ∀ neg : Bool, (execOp a.eval { dst := dst, op := .binOp (if neg then .neq else .eql) t x y yt, type := ty, pos := pos, after := after, guard := guard } : Sem Next) = ((do eqGuard (if neg then .neq else .eql) t x y (a.eval x) (a.eval y); binOp (if neg then .neq else .eql) t (a.eval x) (a.eval y) : Sem Value) >>= fun v => Pure.pure (Next.value v)) := fun _ => rfl
      rw [hbin2]
      simp only [aop] at hr
      split at hr <;> first | (cases hr; done) | skip
      · -- structs and arrays
        rename_i xs ys hex hey
        obtain ⟨q, hq, rfl⟩ := Option.map_eq_some_iff.1 hr
        rw [hex] at hx; rw [hey] at hy
        obtain ⟨vs, hvs, hvl, hvr⟩ := vrel_agg_ne hx
        obtain ⟨us, hus, hul, hur⟩ := vrel_agg_ne hy
        rw [hvs, hus]
        have get : ∀ (cs : List AV) (vs : Array Value), CRel κ w cs vs → ∀ (i : Nat) (x : AV), cs[i]? = some x → ∃ v, vs[0 + i]? = some v ∧ VRel κ w x v := by
          intro cs vs hc i x hi
          have hlt : i < vs.size := by have := (List.getElem?_eq_some_iff.1 hi).1; rw [hc.1] at this; exact this
          exact ⟨vs[i], by rw [Nat.zero_add]; exact getElem?_pos _ i hlt, hc.2 i x _ hi (getElem?_pos _ i hlt)⟩
        have key : P.eqGuardType P.depth t = false ∧ (Op.equalIn 10000 t (.agg vs) (.agg us)).run P w = .ok q w := by
          unfold eqKs at hks
          split at hks <;> first | (cases hks; done) | skip
          · rename_i fs hfs
            split at hks <;> first | (cases hks; done) | skip
            rename_i hcond
            obtain ⟨ks', hk, he⟩ := Option.map_eq_some_iff.1 hks
            cases he
            have hfo : P.fieldsOf t = fs := by simp [Program.fieldsOf, hfs]
            refine ⟨hcond.2, ?_⟩
            rw [run_equalIn_struct w 9999 t vs us (by rw [hfo]; exact hfs) hcond.1, hfo]
            exact eqFields_sound 9998 fs.toList 0 ks xs ys q hk hq (get _ _ ⟨hvl, hvr⟩) (get _ _ ⟨hul, hur⟩)
          · rename_i n e he
            split at hks <;> first | (cases hks; done) | skip
            rename_i hcond
            obtain ⟨k, hk, hke⟩ := Option.map_eq_some_iff.1 hks
            cases hke
            obtain ⟨inf, hinf, hone⟩ := sizeT_spec hcond.2
            refine ⟨hcond.1, ?_⟩
            exact equalIn_array he hk hinf hone 9998 xs ys q hq (get _ _ ⟨hvl, hvr⟩) (get _ _ ⟨hul, hur⟩)
        have hg : ∀ o, (eqGuard o t x y (.agg vs) (.agg us)).run P w = .ok () w := fun o => run_eqGuard_agg w o t x y vs us key.1
        refine Runs.val (v := .bool (if neg then !q else q)) ?_ hi (.bool _)
        rw [Sem.run_bind, hg]
        simp only [Result.andThen_ok]
        cases neg
        · simp only [Bool.false_eq_true, if_false, run_eql_struct, key.2, Result.andThen_ok]
        · simp only [if_true, run_neq_struct, key.2, Result.andThen_ok]
      · -- bools
        rename_i p q hex hey
        split at hr <;> first | (cases hr; done) | skip
        rename_i hb
        cases hr
        subst hb
        rw [hex] at hx; rw [hey] at hy
        generalize hv : a.eval x = v at *
        generalize hu : a.eval y = u at *
        cases hx; cases hy
        have hut : P.underlying t = some .bool := by
          unfold eqKs at hks
          split at hks <;> first | (cases hks; done) | skip
          · assumption
          · split at hks
            · obtain ⟨_, _, he⟩ := Option.map_eq_some_iff.1 hks; cases he
            · cases hks
          · split at hks
            · obtain ⟨_, _, he⟩ := Option.map_eq_some_iff.1 hks; cases he
            · cases hks
        have hg : ∀ o, (eqGuard o t x y (.bool p) (.bool q)).run P w = .ok () w := fun o => by cases o <;> rfl
        refine Runs.val (v := .bool (if neg then !(p == q) else p == q)) ?_ hi (.bool _)
        rw [Sem.run_bind, hg]
        simp only [Result.andThen_ok]
        have he := run_equalIn_bool' w 9999 t p q hut
        cases neg
        · simp only [Bool.false_eq_true, if_false, binOp, Op.equal, Op.maxDepth, Sem.run_bind, he, Result.andThen_ok, Sem.run_pure]
        · simp only [if_true, binOp, Op.equal, Op.maxDepth, Sem.run_bind, he, Result.andThen_ok, Sem.run_pure]
    cases op with
    | eql =>
      simp only [compOp] at hc
      split at hc
      · simp only [Option.some.injEq] at hc; exact plain _ hc.symm
      · simp only [Option.some.injEq] at hc; exact plain _ hc.symm
      · rename_i b ks _ _ hks
        simp only [Option.some.injEq] at hc
        exact eqs false _ _ hks hc.symm
      · cases hc
    | neq =>
      simp only [compOp] at hc
      split at hc
      · simp only [Option.some.injEq] at hc; exact plain _ hc.symm
      · simp only [Option.some.injEq] at hc; exact plain _ hc.symm
      · rename_i b ks _ _ hks
        simp only [Option.some.injEq] at hc
        exact eqs true _ _ hks hc.symm
      · cases hc
    | _ =>
      simp only [compOp, Option.some.injEq] at hc
      exact plain _ hc.symm
  | unOp op t x =>
    have hx := ev_rel hs x
    cases op <;> simp only [compOp, Option.some.injEq] at hc <;> first | (cases hc; done) | skip
    · subst hc
      simp only [aop] at hr
      split at hr <;> first | (cases hr; done) | skip
      rename_i k n hev
      cases hr
      rw [hev] at hx
      generalize hv : a.eval x = v at *
      cases hx
      refine Runs.pure (v := .int k (k.wrap (0 - n))) ?_ hi (.int _ _)
      simp only [execOp, hv]
      rfl
    · subst hc
      simp only [aop] at hr
      split at hr <;> first | (cases hr; done) | skip
      rename_i b hev
      cases hr
      rw [hev] at hx
      generalize hv : a.eval x = v at *
      cases hx
      refine Runs.pure (v := .bool !b) ?_ hi (.bool _)
      simp only [execOp, hv]
      rfl
  | convert s d x =>
    have hx := ev_rel hs x
    simp only [compOp] at hc
    split at hc <;> first | (cases hc; done) | skip
    · rename_i k0 k hs' hd
      simp only [Option.some.injEq] at hc; subst hc
      simp only [aop] at hr
      split at hr <;> first | (cases hr; done) | skip
      rename_i k' n hev
      cases hr
      rw [hev] at hx
      generalize hv : a.eval x = v at *
      cases hx
      refine Runs.pure (v := .int k (k.wrap n)) ?_ hi (.int _ _)
      simp only [execOp, hv, convert, Sem.run_bind, run_underlying hs', run_underlying hd, Result.andThen_ok]
      rfl
    · rename_i hs' hd
      simp only [Option.some.injEq] at hc; subst hc
      simp only [aop] at hr
      split at hr <;> first | (cases hr; done) | skip
      rename_i s hev
      cases hr
      rw [hev] at hx
      generalize hv : a.eval x = v at *
      cases hx
      refine Runs.pure (v := .string s) ?_ hi (.str _)
      simp only [execOp, hv, convert, Sem.run_bind, run_underlying hs', run_underlying hd, Result.andThen_ok]
      rfl
  | extract x j =>
    simp only [compOp, Option.some.injEq] at hc; subst hc
    have hx := ev_rel hs x
    obtain ⟨v, hv, rfl⟩ := map_val hr
    cases hev : (copd x).ev sl <;> rw [hev] at hv <;> simp only [extAV] at hv <;> first | (cases hv; done) | skip
    rw [hev] at hx
    generalize hvx : a.eval x = u at *
    cases hx with
    | tup hl hr' =>
      rename_i vs us
      have hlt : j < us.size := by rw [← hl]; exact (List.getElem?_eq_some_iff.1 hv).1
      refine Runs.pure (v := us[j]) ?_ hi (hr' j v _ hv (by simp [hlt]))
      simp only [execOp, hvx, Instr.extract, getElem?_pos us j hlt, pure_bind]
      rfl
  | fieldAddr s x f =>
    simp only [compOp] at hc
    split at hc <;> first | (cases hc; done) | skip
    rename_i fs hfs
    split at hc <;> first | (cases hc; done) | skip
    rename_i fl hfl
    split at hc <;> first | (cases hc; done) | skip
    rename_i n hn
    split at hc <;> first | (cases hc; done) | skip
    rename_i hpos
    simp only [Option.some.injEq] at hc; subst hc
    obtain ⟨i, hinf, rfl⟩ := sizeT_spec hn
    obtain ⟨v, hv, rfl⟩ := map_val hr
    obtain ⟨u, hrun, hur⟩ := snd_faddr hfs hfl hinf hpos (ev_rel hs x) hv
    exact Runs.val hrun hi hur
  | field t x f =>
    simp only [compOp] at hc
    split at hc <;> first | (cases hc; done) | skip
    rename_i fs hfs
    split at hc <;> first | (cases hc; done) | skip
    rename_i fl hfl
    split at hc <;> first | (cases hc; done) | skip
    rename_i b n hb hn
    simp only [Option.some.injEq] at hc; subst hc
    obtain ⟨v, hv, rfl⟩ := map_val hr
    obtain ⟨u, hrun, hur⟩ := snd_fld hfs hfl hb hn (ev_rel hs x) hv
    exact Runs.val hrun hi hur
  | indexAddr t x i =>
    simp only [compOp] at hc
    split at hc <;> first | (cases hc; done) | skip
    · rename_i e he
      obtain ⟨n, hn, rfl⟩ := Option.map_eq_some_iff.1 hc
      obtain ⟨inf, hinf, rfl⟩ := sizeT_spec hn
      simp only [aop] at hr
      split at hr <;> first | (cases hr; done) | skip
      rename_i m hm
      obtain ⟨v, hv, rfl⟩ := map_val hr
      obtain ⟨u, hrun, hur⟩ := snd_iaddr he hinf hi (ev_rel hs x) (ev_rel hs i) hm hv
      exact Runs.val hrun hi hur
    · rename_i n e he
      obtain ⟨s, hn, rfl⟩ := Option.map_eq_some_iff.1 hc
      obtain ⟨inf, hinf, rfl⟩ := sizeT_spec hn
      simp only [aop] at hr
      split at hr <;> first | (cases hr; done) | skip
      rename_i m hm
      split at hr <;> first | (cases hr; done) | skip
      rename_i hcond
      obtain ⟨v, hv, rfl⟩ := map_val hr
      obtain ⟨k, hk⟩ := run_asIntOf (ev_rel hs i) hm
      have hx := ev_rel hs x
      have hpre : ∀ ad : Addr, (Instr.indexAt t (.pointer (some ad)) (.int k m)).run P w = .ok (.pointer (some (ad.add (m.toNat * inf.size)))) w := fun ad => by
        simp only [Instr.indexAt, asIntOf, pure_bind, Sem.run_bind, run_underlying he, Result.andThen_ok, Instr.sureAddr]
        rw [if_pos hcond]
        simp only [Sem.run_bind, run_size hinf, Result.andThen_ok]
        rfl
      cases hev : (copd x).ev sl <;> rw [hev] at hv <;> simp only [faddrAV, Option.some.injEq] at hv <;> first | (cases hv; done) | skip
      · rw [hev] at hx
        generalize hvx : a.eval x = q at *
        cases hx with
        | ptr loc hρ =>
          subst hv
          refine Runs.val (hs := ?_) hi (.ptr loc hρ)
          rw [hk, hvx, hpre, addr_add, Nat.add_assoc]
      · rw [hev] at hx
        generalize hvx : a.eval x = q at *
        subst hv
        obtain ⟨p, rfl⟩ : ∃ p, q = .pointer (some p) := by cases hx; exact ⟨_, rfl⟩
        refine Runs.val (hs := ?_) hi (rp_drop hx _)
        rw [hk, hvx, hpre]
  | index t x i =>
    simp only [compOp] at hc
    split at hc <;> first | (cases hc; done) | skip
    · rename_i n e he
      split at hc <;> first | (cases hc; done) | skip
      rename_i b s hb hsz
      simp only [Option.some.injEq] at hc; subst hc
      simp only [aop] at hr
      split at hr <;> first | (cases hr; done) | skip
      rename_i m hm
      split at hr <;> first | (cases hr; done) | skip
      rename_i hcond
      obtain ⟨v, hv, rfl⟩ := map_val hr
      obtain ⟨k, hk⟩ := run_asIntOf (ev_rel hs i) hm
      obtain ⟨u, hrun, hur⟩ := snd_idxA he hb hsz (ev_rel hs x) (k := k) hcond.1 hcond.2 hv
      exact Runs.val (by rw [hk]; exact hrun) hi hur
    · rename_i he
      simp only [Option.some.injEq] at hc; subst hc
      simp only [aop] at hr
      split at hr <;> first | (cases hr; done) | skip
      rename_i s m hev hm
      split at hr <;> first | (cases hr; done) | skip
      rename_i h0
      split at hr <;> first | (cases hr; done) | skip
      rename_i by' hby
      simp only [Option.some.injEq] at hr; subst hr
      obtain ⟨k, hk⟩ := run_asIntOf (ev_rel hs i) hm
      have hx := ev_rel hs x
      rw [hev] at hx
      generalize hxv : a.eval x = xv at hx
      cases hx
      refine Runs.val (hs := ?_) hi (.int _ _)
      rw [hk, hxv]
      simp only [Instr.index, asIntOf, pure_bind, Sem.run_bind, run_underlying he, Result.andThen_ok]
      rw [if_pos h0, hby]
      rfl
  | slice t x lo hi' mx =>
    cases mx with
    | some m =>
      cases lo <;> cases hi' <;> first | (simp [compOp] at hc; done) | skip
      rename_i hi'
      simp only [compOp] at hc
      split at hc <;> first | (cases hc; done) | skip
      rename_i e he
      obtain ⟨n, hn, rfl⟩ := Option.map_eq_some_iff.1 hc
      obtain ⟨inf, hinf, rfl⟩ := sizeT_spec hn
      simp only [aop] at hr
      split at hr <;> first | (cases hr; done) | skip
      rename_i u q hu hq
      split at hr <;> first | (cases hr; done) | skip
      rename_i huq
      subst huq
      obtain ⟨k, hk⟩ := run_asIntOf (ev_rel hs hi') hu
      obtain ⟨k', hk'⟩ := run_asIntOf (ev_rel hs m) hq
      obtain ⟨y, κ', hrun, hx, hinv, hv, hb⟩ := snd_slcM (P := P) he hinf hi (ev_rel hs x) (k := k) (k' := k') hr
      refine ⟨y, κ', w, .inl ?_, hx, hinv, hv, hb⟩
      simp only [execOp, Option.map_none, Option.map_some, hk, hk']
      rw [Sem.run_bind, hrun]; rfl
    | none =>
      simp only [compOp] at hc
      split at hc <;> first | (cases hc; done) | skip
      rename_i e he
      obtain ⟨n, hn, rfl⟩ := Option.map_eq_some_iff.1 hc
      obtain ⟨inf, hinf, rfl⟩ := sizeT_spec hn
      simp only [aop] at hr
      split at hr <;> first | (cases hr; done) | skip
      rename_i l u hl hu
      obtain ⟨ql, hql, rfl⟩ := opt_rel hs lo hl
      obtain ⟨qh, hqh, rfl⟩ := opt_rel hs hi' hu
      have hx := ev_rel hs x
      split at hr <;> first | (cases hr; done) | skip
      · rename_i b g i n hev
        split at hr <;> first | (cases hr; done) | skip
        rename_i nil g' frz rsz xs hrow
        split at hr <;> first | (cases hr; done) | skip
        rename_i hcond
        obtain ⟨rfl, rfl⟩ := hcond
        obtain ⟨v, hv, rfl⟩ := map_val hr
        rw [hev] at hx
        obtain ⟨q, hrun, hqr⟩ := snd_slc (P := P) he hinf hi hx ql qh (fun b' g'' i' n' e => by cases e; exact ⟨nil, frz, xs, hrow⟩) (fun _ _ _ e => by cases e) hv
        refine Runs.val (hs := ?_) hi hqr
        rw [hql, hqh]; exact hrun
      · rename_i vol rsz xs hev
        split at hr <;> first | (cases hr; done) | skip
        rename_i hcond
        subst hcond
        obtain ⟨v, hv, rfl⟩ := map_val hr
        rw [hev] at hx
        obtain ⟨q, hrun, hqr⟩ := snd_slc (P := P) he hinf hi hx ql qh (fun _ _ _ _ e => by cases e) (fun _ _ _ e => by cases e; rfl) hv
        refine Runs.val (hs := ?_) hi hqr
        rw [hql, hqh]; exact hrun
  | makeSlice t l c =>
    simp only [compOp] at hc
    split at hc <;> first | (cases hc; done) | skip
    rename_i e he
    split at hc <;> first | (cases hc; done) | skip
    rename_i s b z i j hq
    split at hc <;> first | (cases hc; done) | skip
    rename_i hcond
    obtain ⟨rfl, hzs, hs0, hb0, hb1⟩ := hcond
    simp only [Option.some.injEq] at hc; subst hc
    obtain ⟨inf, h1, rfl, rfl, h4⟩ := oneOf_spec hq
    simp only at h4 hzs hs0 hb0 hb1
    have hx := ev_rel hs (.tmp i)
    simp only [aop] at hr
    split at hr <;> first | (cases hr; done) | skip
    rename_i n hev
    split at hr <;> first | (cases hr; done) | skip
    rename_i hcond
    obtain ⟨hn0, hbound, hzel⟩ := hcond
    simp only [Option.some.injEq] at hr; subst hr
    rw [hev] at hx
    obtain ⟨hzc, hzr, hzone⟩ := cells_rel (ofConst_rel κ w z) hzel
    obtain ⟨m, hm⟩ : ∃ m, m = n.toNat := ⟨_, rfl⟩
    have hnm : n = (m : Int) := by omega
    rw [← hm] at hbound
    have hmb : m ≤ appBound := by
      have := Nat.mul_le_mul_left m hb0
      rw [Nat.mul_one] at this
      omega
    have hwrap : IntKind.i64.wrap n = n := IntWalk.i64_in _ (by unfold appBound at hmb; omega)
    have htl : (decide (n < 0) || decide ((inf.bytes : Int) * n > 2 ^ 48)) = false := by
      rw [hnm]
      have : (inf.bytes : Int) * (m : Int) = ((m * inf.bytes : Nat) : Int) := by rw [Nat.mul_comm]; simp
      rw [this]
      unfold appBound at hbound
      simp; omega
    obtain ⟨κ', hx', hinv, hρ, hchg⟩ := new_row (fr := fr) (sz := inf.size) (xs := List.replicate m (ofConst z)) (vs := List.replicate m z) hi hf ((Array.range (m * inf.size)).map ((if m * inf.size = 0 then #[] else z.cells)[· % (if m * inf.size = 0 then #[] else z.cells).size]!)) e (by simp)
      (rel_replicate (ofConst_rel κ w z)) (fun x hx => by rw [List.eq_of_mem_replicate hx]; rw [← hzc]; exact hzs) (fun x hx => by rw [List.eq_of_mem_replicate hx]; exact hzel) (by simp)
      (fun q hq' => by
        have hq'' : q < m * inf.size := by simpa using hq'
        rw [if_neg (by omega)]
        rw [← hzs] at hq'' ⊢
        exact range_mod (by omega) hq'')
    refine ⟨.slice (some ⟨w.heap.size, 0, none⟩) m m, κ', _, .inl ?_, hx', ?_, ?_, by simpa [updL, ← hm] using hchg⟩
    · obtain ⟨k, hk⟩ := run_asIntOf hx rfl
      have hinfo : (typeInfo e).run P w = .ok inf w := by
        simp only [typeInfo, Sem.run_bind, run_program, Result.andThen_ok, h1]
        rfl
      simp only [execOp, hk, Instr.makeSlice, Sem.run_bind, run_underlying he, Result.andThen_ok, asInt, asIntOf, pure_bind, Sem.run_pure, hinfo, hwrap, htl]
      rw [if_neg (by simp; omega)]
      simp only [Sem.run_bind, run_askRoom, Result.andThen_ok, run_size h1, ← hm]
      by_cases hz0 : m * inf.size = 0
      · simp only [if_pos hz0, Sem.run_bind, newRow, run_newObj_alloc, Result.andThen_ok, Sem.run_pure]
      · simp only [if_neg hz0, Sem.run_bind, run_zero h1 h4, newRow, run_newObj_alloc, Result.andThen_ok, Sem.run_pure]
    · simpa [updL, ← hm] using hinv
    · show VRel κ' _ (.sl fr 0 0 n.toNat) _
      rw [← hm]
      refine .sl _ _ _ hρ (Nat.le_refl _) (fun _ => by simp) ⟨_, e, World.alloc_heap_new w _, ?_⟩
      simp
  | makeFunc fn first caps =>
    cases fn <;> first | (simp [compOp] at hc; done) | skip
    rename_i f
    obtain ⟨first⟩ := first
    cases first <;> first | (simp [compOp] at hc; done) | skip
    simp only [compOp, Option.some.injEq] at hc; subst hc
    simp only [aop, Option.some.injEq] at hr; subst hr
    refine Runs.pure (v := .func (.func f) #[] (caps.map a.eval)) (by simp [execOp, Instr.makeFunc, Sem.run, Pure.pure]) hi (.clo (by simp) (fun i x v hx hv => ?_))
    exact args_rel hs caps.toList i x v hx (by simpa using hv)
  | call c' =>
    obtain ⟨callee, args, argTypes⟩ := c'
    cases callee with
    | value f => simp only [compOp, Option.some.injEq] at hc; subst hc; simp [AOp.isCall] at hnc
    | invoke => simp [compOp] at hc
    | builtin b =>
      cases b with
      | len =>
        obtain ⟨args⟩ := args
        obtain ⟨argTypes⟩ := argTypes
        rcases args with _ | ⟨x, _ | ⟨y, rest⟩⟩ <;> first | (simp [compOp] at hc; done) | skip
        rcases argTypes with _ | ⟨t, _ | ⟨y, rest⟩⟩ <;> first | (simp [compOp] at hc; done) | skip
        simp only [compOp] at hc
        have hx := ev_rel hs x
        split at hc <;> first | (cases hc; done) | skip
        · rename_i ht
          simp only [Option.some.injEq] at hc; subst hc
          simp only [aop] at hr
          split at hr <;> first | (cases hr; done) | skip
          rename_i s hev
          cases hr
          rw [hev] at hx
          generalize hxv : a.eval x = xv at *
          cases hx
          refine Runs.pure (v := goInt s.size) ?_ hi (.int _ _)
          simp only [execOp, resolve, Sem.run_bind, Sem.run_pure, Result.andThen_ok, invoke, builtin, Builtin.len_, List.getElem?_toArray, List.getElem?_cons_zero, List.map_toArray, List.map_cons, List.map_nil, hxv, run_underlying ht]
        · rename_i e ht
          simp only [Option.some.injEq] at hc; subst hc
          obtain ⟨v, hv, rfl⟩ := map_val hr
          have key : ∃ n : Nat, (∃ b c, a.eval x = .slice b n c) ∧ v = .int .i64 n := by
            generalize (copd x).ev sl = xa at *
            generalize hxv : a.eval x = xv at *
            cases hx <;> simp only [lenAV, Option.some.injEq] at hv <;> first | (cases hv; done) | skip
            all_goals exact ⟨_, ⟨_, _, rfl⟩, hv.symm⟩
          obtain ⟨n, ⟨b, c, hxv⟩, rfl⟩ := key
          refine Runs.pure (v := goInt n) ?_ hi (.int _ _)
          simp only [execOp, resolve, Sem.run_bind, Sem.run_pure, Result.andThen_ok, invoke, builtin, Builtin.len_, List.getElem?_toArray, List.getElem?_cons_zero, List.map_toArray, List.map_cons, List.map_nil, hxv, run_underlying ht]
        · rename_i n e ht
          simp only [Option.some.injEq] at hc; subst hc
          simp only [aop, Option.some.injEq] at hr; subst hr
          refine Runs.pure (v := goInt n) ?_ hi (.int _ _)
          simp only [execOp, resolve, Sem.run_bind, Sem.run_pure, Result.andThen_ok, invoke, builtin, Builtin.len_, List.getElem?_toArray, List.getElem?_cons_zero, List.map_toArray, List.map_cons, List.map_nil, run_underlying ht]
      | append =>
        obtain ⟨args⟩ := args
        obtain ⟨argTypes⟩ := argTypes
        rcases args with _ | ⟨x, _ | ⟨y, _ | ⟨z, rest⟩⟩⟩ <;> first | (simp [compOp] at hc; done) | skip
        rcases argTypes with _ | ⟨s, _ | ⟨t, _ | ⟨z, rest⟩⟩⟩ <;> first | (simp [compOp] at hc; done) | skip
        simp only [compOp] at hc
        split at hc <;> first | (cases hc; done) | skip
        rename_i e e' hse hte
        split at hc <;> first | (cases hc; done) | skip
        rename_i n b z hq
        split at hc <;> first | (cases hc; done) | skip
        rename_i hcond
        simp only [Option.some.injEq] at hc; subst hc
        obtain ⟨i, h1, rfl, rfl, h4⟩ := oneOf_spec hq
        simp only [aop] at hr
        split at hr <;> first | (cases hr; done) | skip
        rename_i ys hys
        obtain ⟨q, κ', w', hrun, hx, hinv, hv, hb⟩ := snd_append (P := P) hse h1 h4 hcond.1 hcond.2.1 hcond.2.2 hte (by simp) hi hf (ev_rel hs x) (ev_rel hs y) hys hr ty
        refine ⟨q, κ', w', .inl ?_, hx, hinv, hv, hb⟩
        simp only [execOp, resolve, Sem.run_bind, Sem.run_pure, Result.andThen_ok, invoke, builtin]
        have : (({ toList := [x, y] } : Array Operand).map a.eval) = #[a.eval x, a.eval y] := by simp
        rw [this]
        have h2 : ({ toList := [s, t] } : Array TypeId) = #[s, t] := rfl
        rw [h2, hrun]
        rfl
      | clear =>
        obtain ⟨args⟩ := args
        obtain ⟨argTypes⟩ := argTypes
        rcases args with _ | ⟨x, _ | ⟨y, rest⟩⟩ <;> first | (simp [compOp] at hc; done) | skip
        rcases argTypes with _ | ⟨t, _ | ⟨y, rest⟩⟩ <;> first | (simp [compOp] at hc; done) | skip
        simp only [compOp] at hc
        split at hc <;> first | (cases hc; done) | skip
        rename_i e hte
        split at hc <;> first | (cases hc; done) | skip
        rename_i n b z hq
        split at hc <;> first | (cases hc; done) | skip
        rename_i hcond
        simp only [Option.some.injEq] at hc; subst hc
        obtain ⟨i, h1, rfl, rfl, h4⟩ := oneOf_spec hq
        simp only [aop] at hr
        obtain ⟨w', hrun, hx, hinv, hv, hb⟩ := snd_clear (P := P) hte h1 h4 hcond hi (ev_rel hs x) hr ty
        refine ⟨.tuple #[], κ, w', .inl ?_, hx, hinv, by rw [hv]; exact .tup rfl (fun i x v hx hv => by simp at hx), hb⟩
        simp only [execOp, resolve, Sem.run_bind, Sem.run_pure, Result.andThen_ok, invoke, builtin]
        have : (({ toList := [x] } : Array Operand).map a.eval) = #[a.eval x] := by simp
        rw [this]
        have h2 : ({ toList := [t] } : Array TypeId) = #[t] := rfl
        rw [h2, hrun]
        rfl
      | max =>
        simp only [compOp, Option.some.injEq] at hc; subst hc
        simp only [aop] at hr
        split at hr <;> first | (cases hr; done) | skip
        rename_i x rest hmap
        obtain ⟨v, hv, rfl⟩ := map_val hr
        obtain ⟨o, os, hos⟩ : ∃ o os, args.toList = o :: os := by cases h' : args.toList with | nil => rw [h'] at hmap; simp at hmap | cons o os => exact ⟨o, os, rfl⟩
        rw [hos] at hmap
        simp only [List.map_cons, List.cons.injEq] at hmap
        obtain ⟨rfl, rfl⟩ := hmap
        have hx := ev_rel hs o
        cases hev : (copd o).ev sl <;> rw [hev] at hv <;> first | (cases os <;> simp [foldAV] at hv; done) | skip
        rename_i k n
        rw [hev] at hx
        generalize hov : a.eval o = ov at *
        cases hx
        obtain ⟨q, hq, hqr⟩ := fold_run (P := P) (w := w) (κ := κ) maxI Builtin.max2 (fun k x k' y => rfl) _ (os.map a.eval) k n v (by simp) (args_rel hs os) hv
        refine Runs.pure (v := q) ?_ hi hqr
        simp only [execOp, resolve, Sem.run_bind, Sem.run_pure, Result.andThen_ok, invoke, builtin, Builtin.max_, Array.toList_map, hos, List.map_cons, hov, hq]
      | min =>
        simp only [compOp, Option.some.injEq] at hc; subst hc
        simp only [aop] at hr
        split at hr <;> first | (cases hr; done) | skip
        rename_i x rest hmap
        obtain ⟨v, hv, rfl⟩ := map_val hr
        obtain ⟨o, os, hos⟩ : ∃ o os, args.toList = o :: os := by cases h' : args.toList with | nil => rw [h'] at hmap; simp at hmap | cons o os => exact ⟨o, os, rfl⟩
        rw [hos] at hmap
        simp only [List.map_cons, List.cons.injEq] at hmap
        obtain ⟨rfl, rfl⟩ := hmap
        have hx := ev_rel hs o
        cases hev : (copd o).ev sl <;> rw [hev] at hv <;> first | (cases os <;> simp [foldAV] at hv; done) | skip
        rename_i k n
        rw [hev] at hx
        generalize hov : a.eval o = ov at *
        cases hx
        obtain ⟨q, hq, hqr⟩ := fold_run (P := P) (w := w) (κ := κ) minI Builtin.min2 (fun k x k' y => rfl) _ (os.map a.eval) k n v (by simp) (args_rel hs os) hv
        refine Runs.pure (v := q) ?_ hi hqr
        simp only [execOp, resolve, Sem.run_bind, Sem.run_pure, Result.andThen_ok, invoke, builtin, Builtin.min_, Array.toList_map, hos, List.map_cons, hov, hq]
      | _ => simp [compOp] at hc
  | _ => simp [compOp] at hc

end Go.Am
