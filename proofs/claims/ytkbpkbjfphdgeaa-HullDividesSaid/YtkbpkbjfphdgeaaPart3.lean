/- Each operation of the machine does what its abstract one says: the theorem.
   Conditions: the operation is none that calls a function. -/
import Derived.IntWalk
import Derived.Test.YtkbpkbjfphdgeaaPart2
section
set_option linter.unusedSimpArgs false
set_option linter.unusedVariables false
namespace Go.Am
open Go Go.RowKit

variable {P : Program} {κ : K} {w : World} {h : Nat → Blk} {sl : Nat → AV} {a : Act} {fr : Nat}

def AOp.isCall : AOp → Bool
  | .call _ _ => true
  | _ => false
theorem opt_rel (hs : SRel κ w sl a) (o : Option Operand) {l : Option Int} (hl : optInt sl (o.map copd) = some l) : ∃ q : Option (IntKind × Int), o.map a.eval = q.map (fun p => .int p.1 p.2) ∧ l = q.map Prod.snd := by
  cases o with
  | none => simp only [Option.map_none, optInt, Option.some.injEq] at hl; subst hl; exact ⟨none, rfl, rfl⟩
  | some x =>
    simp only [Option.map_some, optInt] at hl
    cases hn : intAV ((copd x).ev sl) with
    | none => simp [hn] at hl
    | some n =>
      simp only [hn, Option.map_some, Option.some.injEq] at hl; subst hl
      obtain ⟨k, hk⟩ := run_asIntOf (ev_rel hs x) hn
      exact ⟨some (k, n), by simp [hk], rfl⟩
theorem rel_replicate {x : AV} {v : Value} {n : Nat} (hv : VRel κ w x v) : ∀ (i : Nat) (y : AV) (u : Value), (List.replicate n x)[i]? = some y → (List.replicate n v)[i]? = some u → VRel κ w y u := by
  intro i y u hy hu
  rw [List.getElem?_replicate] at hy hu
  split at hy <;> first | (cases hy; done) | skip
  rename_i hi
  rw [if_pos hi] at hu
  cases hy; cases hu; exact hv
theorem range_mod {z : Value} {n q : Nat} (hz : 0 < z.cells.size) (hq : q < n * z.cells.size) : ((Array.range (n * z.cells.size)).map (z.cells[· % z.cells.size]!))[q]? = ((List.replicate n z).flatMap fun v => v.cells.toList)[q]? := by
  have h1 : q / z.cells.size < n := (Nat.div_lt_iff_lt_mul hz).2 hq
  have h2 : q % z.cells.size < z.cells.size := Nat.mod_lt _ hz
  have := Nat.div_add_mod q z.cells.size
  rw [Nat.mul_comm] at this
  have e1 := flat_get (fun v : Value => v.cells.toList) z.cells.size (List.replicate n z) (q / z.cells.size) (q % z.cells.size) (fun e he => by rw [List.eq_of_mem_replicate he]; simp) h2
  rw [this] at e1
  rw [e1]
  simp [List.getElem?_replicate, h1, hq, h2]
theorem equalIn_loop {e : TypeId} {k : SK} (hk : scalK P e = some k) {vs us : Array Value} (n0 : Nat) (d : Nat) : ∀ (n o : Nat) (xs ys : List AV) (q : Bool), eqCells (List.replicate n k) xs ys = some q →
    (∀ (i : Nat) (x : AV), xs[i]? = some x → ∃ v, vs[o + i]? = some v ∧ VRel κ w x v) → (∀ (i : Nat) (x : AV), ys[i]? = some x → ∃ v, us[o + i]? = some v ∧ VRel κ w x v) →
    (forIn (List.range' o n) ((none, ()) : Option Bool × Unit) (fun i _ => do
      if (!(← Op.equalIn (d + 1) e (← part e vs (i * 1)) (← part e us (i * 1)))) = true then Pure.pure (ForInStep.done (some false, ())) else Pure.pure (ForInStep.yield (none, ())) : Nat → Option Bool × Unit → Sem (ForInStep (Option Bool × Unit)))).run P w = .ok (if q then (none, ()) else (some false, ())) w := by
  intro n
  induction n with
  | zero =>
    intro o xs ys q hq _ _
    cases xs <;> cases ys <;> simp [eqCells] at hq
    subst hq; rfl
  | succ n ih =>
    intro o xs ys q hq hx hy
    simp only [List.replicate_succ] at hq
    obtain ⟨x, xs, rfl⟩ : ∃ x xs', xs = x :: xs' := by cases xs with | nil => cases ys <;> simp [eqCells] at hq | cons x xs => exact ⟨x, xs, rfl⟩
    obtain ⟨y, ys, rfl⟩ : ∃ y ys', ys = y :: ys' := by cases ys with | nil => simp [eqCells] at hq | cons y ys => exact ⟨y, ys, rfl⟩
    simp only [eqCells] at hq
    split at hq <;> first | (cases hq; done) | skip
    rename_i p q' hp hq'
    cases hq
    obtain ⟨v, hv, hvr⟩ := hx 0 x rfl
    obtain ⟨u, hu, hur⟩ := hy 0 y rfl
    simp only [Nat.add_zero] at hv hu
    have hrest := ih (o + 1) xs ys q' hq' (fun i z hz => by have := hx (i + 1) z hz; rwa [show o + 1 + i = o + (i + 1) by omega]) (fun i z hz => by have := hy (i + 1) z hz; rwa [show o + 1 + i = o + (i + 1) by omega])
    rw [show List.range' o (n + 1) = o :: List.range' (o + 1) n from rfl, List.forIn_cons]
    simp only [Sem.run_bind, Nat.mul_one, run_part_scal hk hv, run_part_scal hk hu, Result.andThen_ok, eqCell_sound hk hvr hur hp]
    cases p
    · simp [Sem.run_pure]
    · simp only [Bool.not_true, Bool.false_eq_true, if_false, Sem.run_pure, Result.andThen_ok, Bool.true_and]
      simpa only [Nat.mul_one] using hrest
theorem equalIn_array {t e : TypeId} {k : SK} {inf : TypeInfo} {vs us : Array Value} {n : Nat} (he : P.underlying t = some (.array n e)) (hk : scalK P e = some k) (hinf : P.info? e = some inf) (hone : inf.size = 1) (d : Nat) (xs ys : List AV) (q : Bool)
    (hq : eqCells (List.replicate n k) xs ys = some q) (hx : ∀ (i : Nat) (x : AV), xs[i]? = some x → ∃ v, vs[0 + i]? = some v ∧ VRel κ w x v) (hy : ∀ (i : Nat) (x : AV), ys[i]? = some x → ∃ v, us[0 + i]? = some v ∧ VRel κ w x v) :
    (Op.equalIn (d + 1 + 1) t (.agg vs) (.agg us)).run P w = .ok q w := by
  have hloop := equalIn_loop (P := P) (κ := κ) (w := w) hk (vs := vs) (us := us) n d n 0 xs ys q hq hx hy
  rw [Op.equalIn]
  simp only [Sem.run_bind, run_underlying he, Result.andThen_ok, run_size hinf, hone]
  rw [Std.Legacy.Range.forIn_eq_forIn_range']
  simp only [Std.Legacy.Range.size, Nat.sub_zero, Nat.add_sub_cancel, Nat.div_one]
  rw [hloop]
  cases q <;> rfl
theorem aop_sound {o : Oper} {c : AOp} (hc : compOp P o.op o.type = some c) (hnc : c.isCall = false) (hi : Inv κ h w) (hs : SRel κ w sl a) (hf : h fr = .dead) {r : Res} (hr : aop c sl h fr = some r) :
    Runs P (execOp a.eval o) κ h w r.v (updL h r.ups) := by
  obtain ⟨dst, op, ty, pos, after, guard⟩ := o
  simp only at hc
  cases op with
  | move x =>
    simp only [compOp, Option.some.injEq] at hc; subst hc
    exact snd_move x hi hs hr _ rfl
  | assign x =>
    simp only [compOp] at hc
    split at hc
    · rename_i hnil
      split at hc
      · rename_i e he
        obtain ⟨n, hn, rfl⟩ := Option.map_eq_some_iff.1 hc
        simp only [aop, Option.some.injEq] at hr; subst hr
        obtain ⟨κ', hx, hinv, hρ, hchg⟩ := hi.newNil hf n
        have hval : a.eval x = .slice none 0 0 := by
          unfold isConstNil at hnil
          split at hnil
          · rfl
          · cases hnil
        exact ⟨.slice none 0 0, κ', w, .inl (by rw [← hval]; rfl), hx, hinv, .slnil hρ, hchg⟩
      · simp only [Option.some.injEq] at hc; subst hc
        exact snd_move x hi hs hr _ rfl
    · simp only [Option.some.injEq] at hc; subst hc
      exact snd_move x hi hs hr _ rfl
  | pick c x y =>
    simp only [compOp, Option.some.injEq] at hc; subst hc
    have hcv := ev_rel hs c
    simp only [aop] at hr
    split at hr <;> first | (cases hr; done) | skip
    rename_i t ht
    cases hr
    rw [ht] at hcv
    have hx := ev_rel hs x
    have hy := ev_rel hs y
    refine Runs.pure (v := if t then a.eval x else a.eval y) ?_ hi ?_
    · cases hcv' : a.eval c <;> rw [hcv'] at hcv <;> cases hcv
      simp only [execOp, hcv', asBool, pure_bind]
      rfl
    · show VRel κ w (pickAV t _ _) _
      unfold pickAV
      split
      · rename_i p q hp hq
        rw [hp] at hx; rw [hq] at hy
        cases t
        · simpa using (by generalize a.eval y = v at *; cases hy; exact .bool _ : VRel κ w (.bool q) (a.eval y))
        · simpa using (by generalize a.eval x = v at *; cases hx; exact .bool _ : VRel κ w (.bool p) (a.eval x))
      · cases t
        · simpa using hy
        · simpa using hx
  | alloc e =>
    simp only [compOp] at hc
    obtain ⟨q, hq, rfl⟩ := Option.map_eq_some_iff.1 hc
    obtain ⟨i, h1, h2, h3, h4⟩ := oneOf_spec hq
    simp only [aop] at hr
    split at hr <;> first | (cases hr; done) | skip
    rename_i hel
    cases hr
    obtain ⟨κ', w', hrun, hx, hinv, hv, hb⟩ := box_runs (P := P) hi hf (ofConst_rel κ w q.2.2) hel e
    refine ⟨_, κ', w', .inl ?_, hx, hinv, hv, hb⟩
    simp only [execOp, Instr.alloc, Sem.run_bind, run_zero h1 h4, Result.andThen_ok, hrun]
    rfl
  | box e x =>
    simp only [compOp, Option.some.injEq] at hc; subst hc
    simp only [aop] at hr
    split at hr <;> first | (cases hr; done) | skip
    rename_i hel
    cases hr
    obtain ⟨κ', w', hrun, hx, hinv, hv, hb⟩ := box_runs (P := P) hi hf (ev_rel hs x) hel e
    refine ⟨_, κ', w', .inl ?_, hx, hinv, hv, hb⟩
    simp only [execOp, Instr.box, Sem.run_bind, Result.andThen_ok, hrun]
    rfl
  | build t parts =>
    have go : ∀ (place : Nat → Option (Nat × Nat)) (z : Value) (zs : List AV) (ps : List (Nat × Nat × Opd)), partsOf P place parts.toList = some ps → c = .build zs ps →
        (∀ vs' : Array Value, Instr.fill place z.cells ((parts.map fun p => (p.1, a.eval p.2)).toList) = some vs' → (Instr.build t (parts.map fun p => (p.1, a.eval p.2))).run P w = .ok (.agg vs') w) → ofConst z = .agg zs →
        Runs P (execOp a.eval { dst := dst, op := .build t parts, type := ty, pos := pos, after := after, guard := guard }) κ h w r.v (updL h r.ups) := by
      rintro place z zs ps hps rfl hrun hz
      simp only [aop] at hr
      split at hr <;> first | (cases hr; done) | skip
      rename_i hel
      obtain ⟨cs, hcs, rfl⟩ := Option.map_eq_some_iff.1 hr
      have hzr : CRel κ w zs z.cells := by have := CRel.cells (ofConst_rel κ w z) (by rw [hz]; simp); rw [hz] at this; exact this
      have hpl : ∀ (l : List (Nat × Operand)) (qs : List (Nat × Nat × Opd)), partsOf P place l = some qs → qs = l.map (fun p => (((place p.1).getD (0, 0)).1, ((place p.1).getD (0, 0)).2, copd p.2)) ∧ ∀ p ∈ l, (place p.1).isSome = true := by
        intro l
        induction l with
        | nil => intro qs hq; simp [partsOf] at hq; subst hq; exact ⟨rfl, by simp⟩
        | cons p l ih =>
          intro qs hq
          simp only [partsOf, List.mapM_cons] at hq
          cases hp : place p.1 with
          | none => simp [hp] at hq
          | some q =>
            simp only [hp, Option.map_some] at hq
            cases hrest : l.mapM (fun p => (place p.1).map fun q => (q.1, q.2, copd p.2)) with
            | none => simp [hrest] at hq
            | some rest =>
              simp [hrest] at hq
              obtain ⟨h1, h2⟩ := ih rest hrest
              subst hq
              refine ⟨by simp [hp, h1], fun p' hp' => ?_⟩
              rcases List.mem_cons.1 hp' with e | e
              · subst e; simp [hp]
              · exact h2 p' e
      obtain ⟨hq1, hq2⟩ := hpl _ _ hps
      have hfill := fill_rel (κ := κ) (w := w) place (parts.toList.map fun p => (p.1, (copd p.2).ev sl)) ((parts.map fun p => (p.1, a.eval p.2)).toList) _ _ cs hzr (by simp)
        (fun j p q hp hq => by
          simp only [List.getElem?_map, Array.toList_map] at hp hq
          cases ho : parts.toList[j]? with
          | none => simp [ho] at hp
          | some o =>
            simp only [ho, Option.map_some, Option.some.injEq] at hp hq
            subst hp hq
            refine ⟨rfl, ev_rel hs _, fun hu => ?_⟩
            have := List.all_eq_true.1 hel (((place o.1).getD (0, 0)).1, ((place o.1).getD (0, 0)).2, copd o.2) (by rw [hq1]; exact List.mem_map.2 ⟨o, List.mem_of_getElem? ho, rfl⟩)
            simp only at this
            simp only at hu
            rw [hu] at this
            simp [AV.elem, AV.cells, AV.one] at this)
        (fun p hp => by
          obtain ⟨o, ho, rfl⟩ := List.mem_map.1 hp
          exact hq2 o ho)
        (by
          rw [hq1] at hcs
          simpa [List.map_map, Function.comp_def] using hcs)
      obtain ⟨vs', hvs, hl, hrr⟩ := hfill
      exact Runs.val (hrun vs' hvs) hi (.agg hl hrr)
    simp only [compOp] at hc
    split at hc <;> first | (cases hc; done) | skip
    · rename_i fs q hfs hq
      split at hc <;> first | (cases hc; done) | skip
      rename_i pl hpl
      split at hc <;> first | (cases hc; done) | skip
      rename_i zs hzs
      obtain ⟨ps, hps, rfl⟩ := Option.map_eq_some_iff.1 hc
      obtain ⟨i, h1, h2, h3, h4⟩ := oneOf_spec hq
      have hplaces : ∀ (l : List Field) (pl : List (Nat × Nat)) (w0 : World), l.mapM (fun f => (sizeT P f.type).map fun s => (f.offset, s)) = some pl → (l.mapM (fun f => do Pure.pure (f.offset, ← sizeOf f.type) : Field → Sem (Nat × Nat))).run P w0 = .ok pl w0 := by
        intro l
        induction l with
        | nil => intro pl w0 hm; simp at hm; subst hm; rfl
        | cons f l ih =>
          intro pl w0 hm
          simp only [List.mapM_cons] at hm
          cases hf' : sizeT P f.type with
          | none => simp [hf'] at hm
          | some n =>
            obtain ⟨inf, hinf, rfl⟩ := sizeT_spec hf'
            simp only [hf', Option.map_some] at hm
            cases hrest : l.mapM (fun f => (sizeT P f.type).map fun s => (f.offset, s)) with
            | none => simp [hrest] at hm
            | some rest =>
              simp [hrest] at hm
              subst hm
              simp only [List.mapM_cons, Sem.run_bind, run_size hinf, Result.andThen_ok, Sem.run_pure, ih rest w0 hrest]
      refine go _ q.2.2 zs ps hps rfl (fun vs' hvs => ?_) hzs
      · have hm : (fs.mapM (fun f => do Pure.pure (f.offset, ← sizeOf f.type) : Field → Sem (Nat × Nat))).run P w = .ok pl.toArray w := by
          have := hplaces fs.toList pl w hpl
          rw [← Array.toArray_toList (xs := fs), List.mapM_toArray]
          simp only [Sem.run_map, this, Result.andThen_ok]
        simp only [Instr.build, Sem.run_bind, run_zero h1 h4, run_underlying hfs, Result.andThen_ok, hm]
        rw [show (fun x => pl.toArray[x]?) = (fun x => pl[x]?) from by funext x; simp, hvs]
        rfl
    · rename_i n e q he hq
      split at hc <;> first | (cases hc; done) | skip
      rename_i s hsz
      split at hc <;> first | (cases hc; done) | skip
      rename_i zs hzs
      obtain ⟨ps, hps, rfl⟩ := Option.map_eq_some_iff.1 hc
      obtain ⟨i, h1, h2, h3, h4⟩ := oneOf_spec hq
      obtain ⟨inf, hinf, rfl⟩ := sizeT_spec hsz
      refine go _ q.2.2 zs ps hps rfl (fun vs' hvs => ?_) hzs
      simp only [Instr.build, Sem.run_bind, run_zero h1 h4, run_underlying he, Result.andThen_ok, run_size hinf]
      rw [hvs]
      rfl
  | buildSlice t len parts =>
    simp only [compOp] at hc
    split at hc <;> first | (cases hc; done) | skip
    rename_i e he
    split at hc <;> first | (cases hc; done) | skip
    rename_i s b z hq
    split at hc <;> first | (cases hc; done) | skip
    rename_i hcond
    obtain ⟨hbig, hord, hlen, hzs⟩ := hcond
    simp only [Option.some.injEq] at hc; subst hc
    obtain ⟨i, h1, rfl, h3, h4⟩ := oneOf_spec hq
    change i.zero = some z at h4
    change z.cells.size = i.size at hzs
    change len * i.size ≤ 2 ^ 24 at hbig
    simp only [aop] at hr
    split at hr <;> first | (cases hr; done) | skip
    rename_i hel
    simp only [Option.some.injEq] at hr; subst hr
    have hpl : parts.toList.length = len := by simpa using hlen
    have hcs : ∀ p ∈ parts.toList, ((copd p.2).ev sl).elem = true ∧ ((copd p.2).ev sl).cells.length = i.size := fun p hp => by
      have := List.all_eq_true.1 hel (copd p.2) (List.mem_map.2 ⟨p, hp, rfl⟩)
      rw [Bool.and_eq_true, beq_iff_eq] at this
      exact this
    obtain ⟨vs, hvs⟩ : ∃ vs, vs = parts.toList.map fun p => a.eval p.2 := ⟨_, rfl⟩
    have hvsz : ∀ v ∈ vs, v.cells.size = i.size := fun v hv => by
      rw [hvs] at hv
      obtain ⟨p, hp, rfl⟩ := List.mem_map.1 hv
      rw [← (hcs p hp).2]
      exact (cells_rel (ev_rel hs p.2) (hcs p hp).1).1
    have hvl : vs.length = len := by rw [hvs]; simpa using hpl
    obtain ⟨C0, hC0⟩ : ∃ C0 : Array Value, C0 = (Array.range (len * i.size)).map ((if len * i.size = 0 then #[] else z.cells)[· % (if len * i.size = 0 then #[] else z.cells).size]!) := ⟨_, rfl⟩
    have hC0s : C0.size = len * i.size := by rw [hC0]; simp
    obtain ⟨C, hfill, hCs, hCq⟩ := fill_row i.size vs 0 C0 hvsz (by rw [hvl, hC0s]; simp)
    have hzip : (parts.map fun p => (p.1, a.eval p.2)).toList = (vs.zipIdx 0).map fun p => (p.2, p.1) := by
      rw [Array.toList_map, inOrder_zip _ 0 hord, ← hvs]
    obtain ⟨κ', hx, hinv, hρ, hchg⟩ := new_row (fr := fr) (sz := i.size) (xs := (parts.toList.map fun p => copd p.2).map (·.ev sl)) (vs := vs) hi hf C e (by rw [hvs]; simp)
      (fun j x v hx hv => by
        rw [hvs] at hv
        simp only [List.getElem?_map] at hx hv
        cases ho : parts.toList[j]? with
        | none => simp [ho] at hx
        | some o =>
          simp only [ho, Option.map_some, Option.some.injEq] at hx hv
          subst hx hv
          exact ev_rel hs _)
      (fun x hx => by
        obtain ⟨q, hq, rfl⟩ := List.mem_map.1 hx
        obtain ⟨p, hp, rfl⟩ := List.mem_map.1 hq
        exact (hcs p hp).2)
      (fun x hx => by
        obtain ⟨q, hq, rfl⟩ := List.mem_map.1 hx
        obtain ⟨p, hp, rfl⟩ := List.mem_map.1 hq
        exact (hcs p hp).1)
      (by rw [hCs, hC0s]; simp [hpl])
      (fun q hq' => by
        have hq'' : q < len * i.size := by simpa [hpl] using hq'
        rw [hCq, if_pos (by rw [hvl]; simpa using hq'')]
        simp)
    refine ⟨.slice (some ⟨w.heap.size, 0, none⟩) len len, κ', _, .inl ?_, hx, ?_, ?_, by simpa [updL] using hchg⟩
    · simp only [execOp, Instr.buildSlice, Sem.run_bind, run_underlying he, Result.andThen_ok, run_size h1]
      rw [if_neg (by omega)]
      by_cases hz0 : len * i.size = 0
      · simp only [if_pos hz0, pure_bind] at hC0 ⊢
        rw [hzip, ← hC0, hfill]
        simp only [newRow, Sem.run_bind, run_newObj_alloc, Result.andThen_ok, Sem.run_pure]
      · simp only [if_neg hz0] at hC0 ⊢
        simp only [Sem.run_bind, run_zero h1 h4, Result.andThen_ok, Sem.run_pure]
        rw [hzip, ← hC0, hfill]
        simp only [newRow, Sem.run_bind, run_newObj_alloc, Result.andThen_ok, Sem.run_pure]
    · simpa [updL] using hinv
    · have hl2 : ((parts.toList.map fun p => copd p.2)).length = len := by simpa using hpl
      show VRel κ' _ (.sl fr 0 0 (parts.toList.map fun p => copd p.2).length) _
      rw [hl2]
      refine .sl _ _ _ hρ (Nat.le_refl _) (fun _ => by simp) ⟨C, e, World.alloc_heap_new w _, ?_⟩
      simp [hCs, hC0s]
  | load t x =>
    simp only [compOp] at hc
    split at hc <;> first | (cases hc; done) | skip
    rename_i b n hb hn
    simp only [Option.some.injEq] at hc; subst hc
    obtain ⟨d, hd, hbd⟩ := isAggT_spec hb
    obtain ⟨i, hinf, rfl⟩ := sizeT_spec hn
    obtain ⟨v, hv, rfl⟩ := map_val hr
    obtain ⟨u, hrun, hur⟩ := snd_load hd hinf hi (ev_rel hs x) hbd hv
    exact Runs.val hrun hi hur
  | store t x v =>
    simp only [compOp] at hc
    split at hc <;> first | (cases hc; done) | skip
    rename_i n hn
    split at hc <;> first | (cases hc; done) | skip
    rename_i hpos
    simp only [Option.some.injEq] at hc; subst hc
    obtain ⟨i, hinf, rfl⟩ := sizeT_spec hn
    simp only [aop] at hr
    obtain ⟨⟨b, blk⟩, hst, rfl⟩ := Option.map_eq_some_iff.1 hr
    obtain ⟨w', hrun, hx, hinv, hbel⟩ := snd_store (P := P) (t := t) hinf hi (ev_rel hs x) (ev_rel hs v) hpos hst
    refine ⟨undef, κ, w', .inr ⟨?_, rfl⟩, hx, hinv, .und _, hbel⟩
    simp only [execOp, Sem.run_bind, hrun, Result.andThen_ok]
    rfl
  | nilCheck x =>
    simp only [compOp, Option.some.injEq] at hc; subst hc
    have hx := ev_rel hs x
    simp only [aop] at hr
    split at hr <;> first | (cases hr; done) | skip
    all_goals
      rename_i hev
      cases hr
      rw [hev] at hx
      refine Runs.pure (v := a.eval x) ?_ hi hx
      generalize hv : a.eval x = v at *
      cases hx <;> simp only [execOp, hv] <;> rfl
  | binOp op t x y yt =>
    have hx := ev_rel hs x
    have hy := ev_rel hs y
    have hbin : ∀ op', (execOp a.eval { dst := dst, op := .binOp op' t x y yt, type := ty, pos := pos, after := after, guard := guard } : Sem Next) = ((do eqGuard op' t x y (a.eval x) (a.eval y); binOp op' t (a.eval x) (a.eval y) : Sem Value) >>= fun v => Pure.pure (Next.value v)) := fun _ => rfl
    have plain : ∀ op', c = .bin op' (copd x) (copd y) → Runs P (execOp a.eval { dst := dst, op := .binOp op' t x y yt, type := ty, pos := pos, after := after, guard := guard }) κ h w r.v (updL h r.ups) := by
      rintro op' rfl
      obtain ⟨v, hv, rfl⟩ := map_val hr
      obtain ⟨q, hq, hqr⟩ := bin_sound (P := P) (t := t) hx hy hv x y
      rw [hbin]
      exact Runs.val hq hi hqr
    have eqs : ∀ neg b ks, eqKs P t = some (b, ks) → c = .eqv neg b ks (copd x) (copd y) → Runs P (execOp a.eval { dst := dst, op := .binOp (if neg then .neq else .eql) t x y yt, type := ty, pos := pos, after := after, guard := guard }) κ h w r.v (updL h r.ups) := by
      rintro neg b ks hks rfl
      have hbin2 : ∀ neg : Bool, (execOp a.eval { dst := dst, op := .binOp (if neg then .neq else .eql) t x y yt, type := ty, pos := pos, after := after, guard := guard } : Sem Next) = ((do eqGuard (if neg then .neq else .eql) t x y (a.eval x) (a.eval y); binOp (if neg then .neq else .eql) t (a.eval x) (a.eval y) : Sem Value) >>= fun v => Pure.pure (Next.value v)) := fun _ => rfl
      rw [hbin2]
      simp only [aop] at hr
      split at hr <;> first | (cases hr; done) | skip
      · -- structs and arrays
        rename_i xs ys hex hey
        obtain ⟨q, hq, rfl⟩ := Option.map_eq_some_iff.1 hr
        rw [hex] at hx; rw [hey] at hy
        obtain ⟨vs, hvs, hvl, hvr⟩ := vrel_agg_ne hx
        obtain ⟨us, hus, hul, hur⟩ := vrel_agg_ne hy
        rw [hvs, hus]
        have get : ∀ (cs : List AV) (vs : Array Value), CRel κ w cs vs → ∀ (i : Nat) (x : AV), cs[i]? = some x → ∃ v, vs[0 + i]? = some v ∧ VRel κ w x v := by
          intro cs vs hc i x hi
          have hlt : i < vs.size := by have := (List.getElem?_eq_some_iff.1 hi).1; rw [hc.1] at this; exact this
          exact ⟨vs[i], by rw [Nat.zero_add]; exact getElem?_pos _ i hlt, hc.2 i x _ hi (getElem?_pos _ i hlt)⟩
        have key : P.eqGuardType P.depth t = false ∧ (Op.equalIn 10000 t (.agg vs) (.agg us)).run P w = .ok q w := by
          unfold eqKs at hks
          split at hks <;> first | (cases hks; done) | skip
          · rename_i fs hfs
            split at hks <;> first | (cases hks; done) | skip
            rename_i hcond
            obtain ⟨ks', hk, he⟩ := Option.map_eq_some_iff.1 hks
            cases he
            have hfo : P.fieldsOf t = fs := by simp [Program.fieldsOf, hfs]
            refine ⟨hcond.2, ?_⟩
            rw [run_equalIn_struct w 9999 t vs us (by rw [hfo]; exact hfs) hcond.1, hfo]
            exact eqFields_sound 9998 fs.toList 0 ks xs ys q hk hq (get _ _ ⟨hvl, hvr⟩) (get _ _ ⟨hul, hur⟩)
          · rename_i n e he
            split at hks <;> first | (cases hks; done) | skip
            rename_i hcond
            obtain ⟨k, hk, hke⟩ := Option.map_eq_some_iff.1 hks
            cases hke
            obtain ⟨inf, hinf, hone⟩ := sizeT_spec hcond.2
            refine ⟨hcond.1, ?_⟩
            exact equalIn_array he hk hinf hone 9998 xs ys q hq (get _ _ ⟨hvl, hvr⟩) (get _ _ ⟨hul, hur⟩)
        have hg : ∀ o, (eqGuard o t x y (.agg vs) (.agg us)).run P w = .ok () w := fun o => run_eqGuard_agg w o t x y vs us key.1
        refine Runs.val (v := .bool (if neg then !q else q)) ?_ hi (.bool _)
        rw [Sem.run_bind, hg]
        simp only [Result.andThen_ok]
        cases neg
        · simp only [Bool.false_eq_true, if_false, run_eql_struct, key.2, Result.andThen_ok]
        · simp only [if_true, run_neq_struct, key.2, Result.andThen_ok]
      · -- bools
        rename_i p q hex hey
        split at hr <;> first | (cases hr; done) | skip
        rename_i hb
        cases hr
        subst hb
        rw [hex] at hx; rw [hey] at hy
        generalize hv : a.eval x = v at *
        generalize hu : a.eval y = u at *
        cases hx; cases hy
        have hut : P.underlying t = some .bool := by
          unfold eqKs at hks
          split at hks <;> first | (cases hks; done) | skip
          · assumption
          · split at hks
            · obtain ⟨_, _, he⟩ := Option.map_eq_some_iff.1 hks; cases he
            · cases hks
          · split at hks
            · obtain ⟨_, _, he⟩ := Option.map_eq_some_iff.1 hks; cases he
            · cases hks
        have hg : ∀ o, (eqGuard o t x y (.bool p) (.bool q)).run P w = .ok () w := fun o => by cases o <;> rfl
        refine Runs.val (v := .bool (if neg then !(p == q) else p == q)) ?_ hi (.bool _)
        rw [Sem.run_bind, hg]
        simp only [Result.andThen_ok]
        have he := run_equalIn_bool' w 9999 t p q hut
        cases neg
        · simp only [Bool.false_eq_true, if_false, binOp, Op.equal, Op.maxDepth, Sem.run_bind, he, Result.andThen_ok, Sem.run_pure]
        · simp only [if_true, binOp, Op.equal, Op.maxDepth, Sem.run_bind, he, Result.andThen_ok, Sem.run_pure]
    cases op with
    | eql =>
      simp only [compOp] at hc
      split at hc
      · simp only [Option.some.injEq] at hc; exact plain _ hc.symm
      · simp only [Option.some.injEq] at hc; exact plain _ hc.symm
      · rename_i b ks _ _ hks
        simp only [Option.some.injEq] at hc
        exact eqs false _ _ hks hc.symm
      · cases hc
    | neq =>
      simp only [compOp] at hc
      split at hc
      · simp only [Option.some.injEq] at hc; exact plain _ hc.symm
      · simp only [Option.some.injEq] at hc; exact plain _ hc.symm
      · rename_i b ks _ _ hks
        simp only [Option.some.injEq] at hc
        exact eqs true _ _ hks hc.symm
      · cases hc
    | _ =>
      simp only [compOp, Option.some.injEq] at hc
      exact plain _ hc.symm
  | unOp op t x =>
    have hx := ev_rel hs x
    cases op <;> simp only [compOp, Option.some.injEq] at hc <;> first | (cases hc; done) | skip
    · subst hc
      simp only [aop] at hr
      split at hr <;> first | (cases hr; done) | skip
      rename_i k n hev
      cases hr
      rw [hev] at hx
      generalize hv : a.eval x = v at *
      cases hx
      refine Runs.pure (v := .int k (k.wrap (0 - n))) ?_ hi (.int _ _)
      simp only [execOp, hv]
      rfl
    · subst hc
      simp only [aop] at hr
      split at hr <;> first | (cases hr; done) | skip
      rename_i b hev
      cases hr
      rw [hev] at hx
      generalize hv : a.eval x = v at *
      cases hx
      refine Runs.pure (v := .bool !b) ?_ hi (.bool _)
      simp only [execOp, hv]
      rfl
  | convert s d x =>
    have hx := ev_rel hs x
    simp only [compOp] at hc
    split at hc <;> first | (cases hc; done) | skip
    · rename_i k0 k hs' hd
      simp only [Option.some.injEq] at hc; subst hc
      simp only [aop] at hr
      split at hr <;> first | (cases hr; done) | skip
      rename_i k' n hev
      cases hr
      rw [hev] at hx
      generalize hv : a.eval x = v at *
      cases hx
      refine Runs.pure (v := .int k (k.wrap n)) ?_ hi (.int _ _)
      simp only [execOp, hv, convert, Sem.run_bind, run_underlying hs', run_underlying hd, Result.andThen_ok]
      rfl
    · rename_i hs' hd
      simp only [Option.some.injEq] at hc; subst hc
      simp only [aop] at hr
      split at hr <;> first | (cases hr; done) | skip
      rename_i s hev
      cases hr
      rw [hev] at hx
      generalize hv : a.eval x = v at *
      cases hx
      refine Runs.pure (v := .string s) ?_ hi (.str _)
      simp only [execOp, hv, convert, Sem.run_bind, run_underlying hs', run_underlying hd, Result.andThen_ok]
      rfl
  | extract x j =>
    simp only [compOp, Option.some.injEq] at hc; subst hc
    have hx := ev_rel hs x
    obtain ⟨v, hv, rfl⟩ := map_val hr
    cases hev : (copd x).ev sl <;> rw [hev] at hv <;> simp only [extAV] at hv <;> first | (cases hv; done) | skip
    rw [hev] at hx
    generalize hvx : a.eval x = u at *
    cases hx with
    | tup hl hr' =>
      rename_i vs us
      have hlt : j < us.size := by rw [← hl]; exact (List.getElem?_eq_some_iff.1 hv).1
      refine Runs.pure (v := us[j]) ?_ hi (hr' j v _ hv (by simp [hlt]))
      simp only [execOp, hvx, Instr.extract, getElem?_pos us j hlt, pure_bind]
      rfl
  | fieldAddr s x f =>
    simp only [compOp] at hc
    split at hc <;> first | (cases hc; done) | skip
    rename_i fs hfs
    split at hc <;> first | (cases hc; done) | skip
    rename_i fl hfl
    split at hc <;> first | (cases hc; done) | skip
    rename_i n hn
    split at hc <;> first | (cases hc; done) | skip
    rename_i hpos
    simp only [Option.some.injEq] at hc; subst hc
    obtain ⟨i, hinf, rfl⟩ := sizeT_spec hn
    obtain ⟨v, hv, rfl⟩ := map_val hr
    obtain ⟨u, hrun, hur⟩ := snd_faddr hfs hfl hinf hpos (ev_rel hs x) hv
    exact Runs.val hrun hi hur
  | field t x f =>
    simp only [compOp] at hc
    split at hc <;> first | (cases hc; done) | skip
    rename_i fs hfs
    split at hc <;> first | (cases hc; done) | skip
    rename_i fl hfl
    split at hc <;> first | (cases hc; done) | skip
    rename_i b n hb hn
    simp only [Option.some.injEq] at hc; subst hc
    obtain ⟨v, hv, rfl⟩ := map_val hr
    obtain ⟨u, hrun, hur⟩ := snd_fld hfs hfl hb hn (ev_rel hs x) hv
    exact Runs.val hrun hi hur
  | indexAddr t x i =>
    simp only [compOp] at hc
    split at hc <;> first | (cases hc; done) | skip
    · rename_i e he
      obtain ⟨n, hn, rfl⟩ := Option.map_eq_some_iff.1 hc
      obtain ⟨inf, hinf, rfl⟩ := sizeT_spec hn
      simp only [aop] at hr
      split at hr <;> first | (cases hr; done) | skip
      rename_i m hm
      obtain ⟨v, hv, rfl⟩ := map_val hr
      obtain ⟨u, hrun, hur⟩ := snd_iaddr he hinf hi (ev_rel hs x) (ev_rel hs i) hm hv
      exact Runs.val hrun hi hur
    · rename_i n e he
      obtain ⟨s, hn, rfl⟩ := Option.map_eq_some_iff.1 hc
      obtain ⟨inf, hinf, rfl⟩ := sizeT_spec hn
      simp only [aop] at hr
      split at hr <;> first | (cases hr; done) | skip
      rename_i m hm
      split at hr <;> first | (cases hr; done) | skip
      rename_i hcond
      obtain ⟨v, hv, rfl⟩ := map_val hr
      obtain ⟨k, hk⟩ := run_asIntOf (ev_rel hs i) hm
      have hx := ev_rel hs x
      have hpre : ∀ ad : Addr, (Instr.indexAt t (.pointer (some ad)) (.int k m)).run P w = .ok (.pointer (some (ad.add (m.toNat * inf.size)))) w := fun ad => by
        simp only [Instr.indexAt, asIntOf, pure_bind, Sem.run_bind, run_underlying he, Result.andThen_ok, Instr.sureAddr]
        rw [if_pos hcond]
        simp only [Sem.run_bind, run_size hinf, Result.andThen_ok]
        rfl
      cases hev : (copd x).ev sl <;> rw [hev] at hv <;> simp only [faddrAV, Option.some.injEq] at hv <;> first | (cases hv; done) | skip
      · rw [hev] at hx
        generalize hvx : a.eval x = q at *
        cases hx with
        | ptr loc hρ =>
          subst hv
          refine Runs.val (hs := ?_) hi (.ptr loc hρ)
          rw [hk, hvx, hpre, addr_add, Nat.add_assoc]
      · rw [hev] at hx
        generalize hvx : a.eval x = q at *
        subst hv
        obtain ⟨p, rfl⟩ : ∃ p, q = .pointer (some p) := by cases hx; exact ⟨_, rfl⟩
        refine Runs.val (hs := ?_) hi (rp_drop hx _)
        rw [hk, hvx, hpre]
  | index t x i =>
    simp only [compOp] at hc
    split at hc <;> first | (cases hc; done) | skip
    · rename_i n e he
      split at hc <;> first | (cases hc; done) | skip
      rename_i b s hb hsz
      simp only [Option.some.injEq] at hc; subst hc
      simp only [aop] at hr
      split at hr <;> first | (cases hr; done) | skip
      rename_i m hm
      split at hr <;> first | (cases hr; done) | skip
      rename_i hcond
      obtain ⟨v, hv, rfl⟩ := map_val hr
      obtain ⟨k, hk⟩ := run_asIntOf (ev_rel hs i) hm
      obtain ⟨u, hrun, hur⟩ := snd_idxA he hb hsz (ev_rel hs x) (k := k) hcond.1 hcond.2 hv
      exact Runs.val (by rw [hk]; exact hrun) hi hur
    · rename_i he
      simp only [Option.some.injEq] at hc; subst hc
      simp only [aop] at hr
      split at hr <;> first | (cases hr; done) | skip
      rename_i s m hev hm
      split at hr <;> first | (cases hr; done) | skip
      rename_i h0
      split at hr <;> first | (cases hr; done) | skip
      rename_i by' hby
      simp only [Option.some.injEq] at hr; subst hr
      obtain ⟨k, hk⟩ := run_asIntOf (ev_rel hs i) hm
      have hx := ev_rel hs x
      rw [hev] at hx
      generalize hxv : a.eval x = xv at hx
      cases hx
      refine Runs.val (hs := ?_) hi (.int _ _)
      rw [hk, hxv]
      simp only [Instr.index, asIntOf, pure_bind, Sem.run_bind, run_underlying he, Result.andThen_ok]
      rw [if_pos h0, hby]
      rfl
  | slice t x lo hi' mx =>
    cases mx with
    | some m =>
      cases lo <;> cases hi' <;> first | (simp [compOp] at hc; done) | skip
      rename_i hi'
      simp only [compOp] at hc
      split at hc <;> first | (cases hc; done) | skip
      rename_i e he
      obtain ⟨n, hn, rfl⟩ := Option.map_eq_some_iff.1 hc
      obtain ⟨inf, hinf, rfl⟩ := sizeT_spec hn
      simp only [aop] at hr
      split at hr <;> first | (cases hr; done) | skip
      rename_i u q hu hq
      split at hr <;> first | (cases hr; done) | skip
      rename_i huq
      subst huq
      obtain ⟨k, hk⟩ := run_asIntOf (ev_rel hs hi') hu
      obtain ⟨k', hk'⟩ := run_asIntOf (ev_rel hs m) hq
      obtain ⟨y, κ', hrun, hx, hinv, hv, hb⟩ := snd_slcM (P := P) he hinf hi (ev_rel hs x) (k := k) (k' := k') hr
      refine ⟨y, κ', w, .inl ?_, hx, hinv, hv, hb⟩
      simp only [execOp, Option.map_none, Option.map_some, hk, hk']
      rw [Sem.run_bind, hrun]; rfl
    | none =>
      simp only [compOp] at hc
      split at hc <;> first | (cases hc; done) | skip
      rename_i e he
      obtain ⟨n, hn, rfl⟩ := Option.map_eq_some_iff.1 hc
      obtain ⟨inf, hinf, rfl⟩ := sizeT_spec hn
      simp only [aop] at hr
      split at hr <;> first | (cases hr; done) | skip
      rename_i l u hl hu
      obtain ⟨ql, hql, rfl⟩ := opt_rel hs lo hl
      obtain ⟨qh, hqh, rfl⟩ := opt_rel hs hi' hu
      have hx := ev_rel hs x
      split at hr <;> first | (cases hr; done) | skip
      · rename_i b g i n hev
        split at hr <;> first | (cases hr; done) | skip
        rename_i nil g' frz rsz xs hrow
        split at hr <;> first | (cases hr; done) | skip
        rename_i hcond
        obtain ⟨rfl, rfl⟩ := hcond
        obtain ⟨v, hv, rfl⟩ := map_val hr
        rw [hev] at hx
        obtain ⟨q, hrun, hqr⟩ := snd_slc (P := P) he hinf hi hx ql qh (fun b' g'' i' n' e => by cases e; exact ⟨nil, frz, xs, hrow⟩) (fun _ _ _ e => by cases e) hv
        refine Runs.val (hs := ?_) hi hqr
        rw [hql, hqh]; exact hrun
      · rename_i vol rsz xs hev
        split at hr <;> first | (cases hr; done) | skip
        rename_i hcond
        subst hcond
        obtain ⟨v, hv, rfl⟩ := map_val hr
        rw [hev] at hx
        obtain ⟨q, hrun, hqr⟩ := snd_slc (P := P) he hinf hi hx ql qh (fun _ _ _ _ e => by cases e) (fun _ _ _ e => by cases e; rfl) hv
        refine Runs.val (hs := ?_) hi hqr
        rw [hql, hqh]; exact hrun
  | makeSlice t l c =>
    simp only [compOp] at hc
    split at hc <;> first | (cases hc; done) | skip
    rename_i e he
    split at hc <;> first | (cases hc; done) | skip
    rename_i s b z i j hq
    split at hc <;> first | (cases hc; done) | skip
    rename_i hcond
    obtain ⟨rfl, hzs, hs0, hb0, hb1⟩ := hcond
    simp only [Option.some.injEq] at hc; subst hc
    obtain ⟨inf, h1, rfl, rfl, h4⟩ := oneOf_spec hq
    simp only at h4 hzs hs0 hb0 hb1
    have hx := ev_rel hs (.tmp i)
    simp only [aop] at hr
    split at hr <;> first | (cases hr; done) | skip
    rename_i n hev
    split at hr <;> first | (cases hr; done) | skip
    rename_i hcond
    obtain ⟨hn0, hbound, hzel⟩ := hcond
    simp only [Option.some.injEq] at hr; subst hr
    rw [hev] at hx
    obtain ⟨hzc, hzr, hzone⟩ := cells_rel (ofConst_rel κ w z) hzel
    obtain ⟨m, hm⟩ : ∃ m, m = n.toNat := ⟨_, rfl⟩
    have hnm : n = (m : Int) := by omega
    rw [← hm] at hbound
    have hmb : m ≤ appBound := by
      have := Nat.mul_le_mul_left m hb0
      rw [Nat.mul_one] at this
      omega
    have hwrap : IntKind.i64.wrap n = n := IntWalk.i64_in _ (by unfold appBound at hmb; omega)
    have htl : (decide (n < 0) || decide ((inf.bytes : Int) * n > 2 ^ 48)) = false := by
      rw [hnm]
      have : (inf.bytes : Int) * (m : Int) = ((m * inf.bytes : Nat) : Int) := by rw [Nat.mul_comm]; simp
      rw [this]
      unfold appBound at hbound
      simp; omega
    obtain ⟨κ', hx', hinv, hρ, hchg⟩ := new_row (fr := fr) (sz := inf.size) (xs := List.replicate m (ofConst z)) (vs := List.replicate m z) hi hf ((Array.range (m * inf.size)).map ((if m * inf.size = 0 then #[] else z.cells)[· % (if m * inf.size = 0 then #[] else z.cells).size]!)) e (by simp)
      (rel_replicate (ofConst_rel κ w z)) (fun x hx => by rw [List.eq_of_mem_replicate hx]; rw [← hzc]; exact hzs) (fun x hx => by rw [List.eq_of_mem_replicate hx]; exact hzel) (by simp)
      (fun q hq' => by
        have hq'' : q < m * inf.size := by simpa using hq'
        rw [if_neg (by omega)]
        rw [← hzs] at hq'' ⊢
        exact range_mod (by omega) hq'')
    refine ⟨.slice (some ⟨w.heap.size, 0, none⟩) m m, κ', _, .inl ?_, hx', ?_, ?_, by simpa [updL, ← hm] using hchg⟩
    · obtain ⟨k, hk⟩ := run_asIntOf hx rfl
      have hinfo : (typeInfo e).run P w = .ok inf w := by
        simp only [typeInfo, Sem.run_bind, run_program, Result.andThen_ok, h1]
        rfl
      simp only [execOp, hk, Instr.makeSlice, Sem.run_bind, run_underlying he, Result.andThen_ok, asInt, asIntOf, pure_bind, Sem.run_pure, hinfo, hwrap, htl]
      rw [if_neg (by simp; omega)]
      simp only [Sem.run_bind, run_askRoom, Result.andThen_ok, run_size h1, ← hm]
      by_cases hz0 : m * inf.size = 0
      · simp only [if_pos hz0, Sem.run_bind, newRow, run_newObj_alloc, Result.andThen_ok, Sem.run_pure]
      · simp only [if_neg hz0, Sem.run_bind, run_zero h1 h4, newRow, run_newObj_alloc, Result.andThen_ok, Sem.run_pure]
    · simpa [updL, ← hm] using hinv
    · show VRel κ' _ (.sl fr 0 0 n.toNat) _
      rw [← hm]
      refine .sl _ _ _ hρ (Nat.le_refl _) (fun _ => by simp) ⟨_, e, World.alloc_heap_new w _, ?_⟩
      simp
  | makeFunc fn first caps =>
    cases fn <;> first | (simp [compOp] at hc; done) | skip
    rename_i f
    obtain ⟨first⟩ := first
    cases first <;> first | (simp [compOp] at hc; done) | skip
    simp only [compOp, Option.some.injEq] at hc; subst hc
    simp only [aop, Option.some.injEq] at hr; subst hr
    refine Runs.pure (v := .func (.func f) #[] (caps.map a.eval)) (by simp [execOp, Instr.makeFunc, Sem.run, Pure.pure]) hi (.clo (by simp) (fun i x v hx hv => ?_))
    exact args_rel hs caps.toList i x v hx (by simpa using hv)
  | call c' =>
    obtain ⟨callee, args, argTypes⟩ := c'
    cases callee with
    | value f => simp only [compOp, Option.some.injEq] at hc; subst hc; simp [AOp.isCall] at hnc
    | invoke => simp [compOp] at hc
    | builtin b =>
      cases b with
      | len =>
        obtain ⟨args⟩ := args
        obtain ⟨argTypes⟩ := argTypes
        rcases args with _ | ⟨x, _ | ⟨y, rest⟩⟩ <;> first | (simp [compOp] at hc; done) | skip
        rcases argTypes with _ | ⟨t, _ | ⟨y, rest⟩⟩ <;> first | (simp [compOp] at hc; done) | skip
        simp only [compOp] at hc
        have hx := ev_rel hs x
        split at hc <;> first | (cases hc; done) | skip
        · rename_i ht
          simp only [Option.some.injEq] at hc; subst hc
          simp only [aop] at hr
          split at hr <;> first | (cases hr; done) | skip
          rename_i s hev
          cases hr
          rw [hev] at hx
          generalize hxv : a.eval x = xv at *
          cases hx
          refine Runs.pure (v := goInt s.size) ?_ hi (.int _ _)
          simp only [execOp, resolve, Sem.run_bind, Sem.run_pure, Result.andThen_ok, invoke, builtin, Builtin.len_, List.getElem?_toArray, List.getElem?_cons_zero, List.map_toArray, List.map_cons, List.map_nil, hxv, run_underlying ht]
        · rename_i e ht
          simp only [Option.some.injEq] at hc; subst hc
          obtain ⟨v, hv, rfl⟩ := map_val hr
          have key : ∃ n : Nat, (∃ b c, a.eval x = .slice b n c) ∧ v = .int .i64 n := by
            generalize (copd x).ev sl = xa at *
            generalize hxv : a.eval x = xv at *
            cases hx <;> simp only [lenAV, Option.some.injEq] at hv <;> first | (cases hv; done) | skip
            all_goals exact ⟨_, ⟨_, _, rfl⟩, hv.symm⟩
          obtain ⟨n, ⟨b, c, hxv⟩, rfl⟩ := key
          refine Runs.pure (v := goInt n) ?_ hi (.int _ _)
          simp only [execOp, resolve, Sem.run_bind, Sem.run_pure, Result.andThen_ok, invoke, builtin, Builtin.len_, List.getElem?_toArray, List.getElem?_cons_zero, List.map_toArray, List.map_cons, List.map_nil, hxv, run_underlying ht]
        · rename_i n e ht
          simp only [Option.some.injEq] at hc; subst hc
          simp only [aop, Option.some.injEq] at hr; subst hr
          refine Runs.pure (v := goInt n) ?_ hi (.int _ _)
          simp only [execOp, resolve, Sem.run_bind, Sem.run_pure, Result.andThen_ok, invoke, builtin, Builtin.len_, List.getElem?_toArray, List.getElem?_cons_zero, List.map_toArray, List.map_cons, List.map_nil, run_underlying ht]
      | append =>
        obtain ⟨args⟩ := args
        obtain ⟨argTypes⟩ := argTypes
        rcases args with _ | ⟨x, _ | ⟨y, _ | ⟨z, rest⟩⟩⟩ <;> first | (simp [compOp] at hc; done) | skip
        rcases argTypes with _ | ⟨s, _ | ⟨t, _ | ⟨z, rest⟩⟩⟩ <;> first | (simp [compOp] at hc; done) | skip
        simp only [compOp] at hc
        split at hc <;> first | (cases hc; done) | skip
        rename_i e e' hse hte
        split at hc <;> first | (cases hc; done) | skip
        rename_i n b z hq
        split at hc <;> first | (cases hc; done) | skip
        rename_i hcond
        simp only [Option.some.injEq] at hc; subst hc
        obtain ⟨i, h1, rfl, rfl, h4⟩ := oneOf_spec hq
        simp only [aop] at hr
        split at hr <;> first | (cases hr; done) | skip
        rename_i ys hys
        obtain ⟨q, κ', w', hrun, hx, hinv, hv, hb⟩ := snd_append (P := P) hse h1 h4 hcond.1 hcond.2.1 hcond.2.2 hte (by simp) hi hf (ev_rel hs x) (ev_rel hs y) hys hr ty
        refine ⟨q, κ', w', .inl ?_, hx, hinv, hv, hb⟩
        simp only [execOp, resolve, Sem.run_bind, Sem.run_pure, Result.andThen_ok, invoke, builtin]
        have : (({ toList := [x, y] } : Array Operand).map a.eval) = #[a.eval x, a.eval y] := by simp
        rw [this]
        have h2 : ({ toList := [s, t] } : Array TypeId) = #[s, t] := rfl
        rw [h2, hrun]
        rfl
      | clear =>
        obtain ⟨args⟩ := args
        obtain ⟨argTypes⟩ := argTypes
        rcases args with _ | ⟨x, _ | ⟨y, rest⟩⟩ <;> first | (simp [compOp] at hc; done) | skip
        rcases argTypes with _ | ⟨t, _ | ⟨y, rest⟩⟩ <;> first | (simp [compOp] at hc; done) | skip
        simp only [compOp] at hc
        split at hc <;> first | (cases hc; done) | skip
        rename_i e hte
        split at hc <;> first | (cases hc; done) | skip
        rename_i n b z hq
        split at hc <;> first | (cases hc; done) | skip
        rename_i hcond
        simp only [Option.some.injEq] at hc; subst hc
        obtain ⟨i, h1, rfl, rfl, h4⟩ := oneOf_spec hq
        simp only [aop] at hr
        obtain ⟨w', hrun, hx, hinv, hv, hb⟩ := snd_clear (P := P) hte h1 h4 hcond hi (ev_rel hs x) hr ty
        refine ⟨.tuple #[], κ, w', .inl ?_, hx, hinv, by rw [hv]; exact .tup rfl (fun i x v hx hv => by simp at hx), hb⟩
        simp only [execOp, resolve, Sem.run_bind, Sem.run_pure, Result.andThen_ok, invoke, builtin]
        have : (({ toList := [x] } : Array Operand).map a.eval) = #[a.eval x] := by simp
        rw [this]
        have h2 : ({ toList := [t] } : Array TypeId) = #[t] := rfl
        rw [h2, hrun]
        rfl
      | max =>
        simp only [compOp, Option.some.injEq] at hc; subst hc
        simp only [aop] at hr
        split at hr <;> first | (cases hr; done) | skip
        rename_i x rest hmap
        obtain ⟨v, hv, rfl⟩ := map_val hr
        obtain ⟨o, os, hos⟩ : ∃ o os, args.toList = o :: os := by cases h' : args.toList with | nil => rw [h'] at hmap; simp at hmap | cons o os => exact ⟨o, os, rfl⟩
        rw [hos] at hmap
        simp only [List.map_cons, List.cons.injEq] at hmap
        obtain ⟨rfl, rfl⟩ := hmap
        have hx := ev_rel hs o
        cases hev : (copd o).ev sl <;> rw [hev] at hv <;> first | (cases os <;> simp [foldAV] at hv; done) | skip
        rename_i k n
        rw [hev] at hx
        generalize hov : a.eval o = ov at *
        cases hx
        obtain ⟨q, hq, hqr⟩ := fold_run (P := P) (w := w) (κ := κ) maxI Builtin.max2 (fun k x k' y => rfl) _ (os.map a.eval) k n v (by simp) (args_rel hs os) hv
        refine Runs.pure (v := q) ?_ hi hqr
        simp only [execOp, resolve, Sem.run_bind, Sem.run_pure, Result.andThen_ok, invoke, builtin, Builtin.max_, Array.toList_map, hos, List.map_cons, hov, hq]
      | min =>
        simp only [compOp, Option.some.injEq] at hc; subst hc
        simp only [aop] at hr
        split at hr <;> first | (cases hr; done) | skip
        rename_i x rest hmap
        obtain ⟨v, hv, rfl⟩ := map_val hr
        obtain ⟨o, os, hos⟩ : ∃ o os, args.toList = o :: os := by cases h' : args.toList with | nil => rw [h'] at hmap; simp at hmap | cons o os => exact ⟨o, os, rfl⟩
        rw [hos] at hmap
        simp only [List.map_cons, List.cons.injEq] at hmap
        obtain ⟨rfl, rfl⟩ := hmap
        have hx := ev_rel hs o
        cases hev : (copd o).ev sl <;> rw [hev] at hv <;> first | (cases os <;> simp [foldAV] at hv; done) | skip
        rename_i k n
        rw [hev] at hx
        generalize hov : a.eval o = ov at *
        cases hx
        obtain ⟨q, hq, hqr⟩ := fold_run (P := P) (w := w) (κ := κ) minI Builtin.min2 (fun k x k' y => rfl) _ (os.map a.eval) k n v (by simp) (args_rel hs os) hv
        refine Runs.pure (v := q) ?_ hi hqr
        simp only [execOp, resolve, Sem.run_bind, Sem.run_pure, Result.andThen_ok, invoke, builtin, Builtin.min_, Array.toList_map, hos, List.map_cons, hov, hq]
      | _ => simp [compOp] at hc
  | _ => simp [compOp] at hc
end Go.Am
end
section
set_option linter.unusedSimpArgs false
set_option linter.unusedVariables false
namespace Go.Am
open Go Go.RowKit

/-- The fence that lets everything, in a round or not. -/
def wideR (r : Option Nat) : Fence := { Fence.wide with round := r }
def get : List (Nat × AV) → Nat → AV
  | [], _ => .und
  | (k, v) :: r, t => if k = t then v else get r t
def set : List (Nat × AV) → Nat → AV → List (Nat × AV)
  | [], d, v => [(d, v)]
  | (k, u) :: r, d, v => if k = d then (d, v) :: r else (k, u) :: set r d v
theorem get_set (l : List (Nat × AV)) (d : Nat) (v : AV) : get (set l d v) = upd (get l) d v := by
  funext t
  induction l with
  | nil => simp only [set, get, upd]; by_cases h : d = t <;> simp [h, eq_comm]
  | cons p l ih =>
    obtain ⟨k, u⟩ := p
    simp only [set]
    by_cases h : k = d
    · subst h
      rw [if_pos rfl]
      simp only [get, upd]
      by_cases h2 : k = t
      · subst h2; simp
      · simp [h2, Ne.symm h2]
    · rw [if_neg h]
      simp only [get, ih, upd]
      by_cases h2 : k = t
      · subst h2; simp [h]
      · simp [h2]
def hget (l : List Blk) (b : Nat) : Blk := (l[b]?).getD .dead
theorem hget_dead (l : List Blk) (b : Nat) (h : l.length ≤ b) : hget l b = .dead := by simp [hget, List.getElem?_eq_none h]
/-- An own row anew, or a new one behind all others. -/
def hset (l : List Blk) (p : Nat × Blk) : List Blk := if p.1 < l.length then l.set p.1 p.2 else l ++ [p.2]
theorem hget_hset (l : List Blk) (p : Nat × Blk) (h : p.1 ≤ l.length) : hget (hset l p) = upd (hget l) p.1 p.2 := by
  funext b
  unfold hset
  split
  · rename_i hlt
    simp only [hget, upd, List.getElem?_set]
    by_cases hb : b = p.1
    · subst hb; simp [hlt]
    · simp [hb, Ne.symm hb]
  · rename_i hlt
    have he : p.1 = l.length := by omega
    simp only [hget, upd, List.getElem?_append]
    by_cases hb : b = p.1
    · subst hb; simp [he]
    · by_cases hb2 : b < l.length
      · simp [hb, hb2]
      · rw [if_neg hb2, List.getElem?_eq_none (by simp; omega), if_neg hb, List.getElem?_eq_none (by omega)]
structure St where
  al : List (Nat × AV)
  hl : List Blk
def CallsR (P : Program) (f : FuncId) (args : List AV) (hl : List Blk) (r : AV) (hl' : List Blk) : Prop :=
  ∀ (κ : K) (w : World) (vs : Array Value), κ.yl = none → Inv κ (hget hl) w → args.length = vs.size → (∀ (i : Nat) (x : AV) (v : Value), args[i]? = some x → vs[i]? = some v → VRel κ w x v) →
    CallsIn Fence.wide 0 P f vs w fun e w' => ∃ v κ', e = .returned v ∧ Ext κ w κ' w' ∧ Inv κ' (hget hl') w' ∧ VRel κ' w' r v ∧ Chg κ (hget hl) w κ' (hget hl') w'
/-- Where a call began. -/
structure Env where
  κ : K
  hl : List Blk
  w : World
  n : Nat
  mb : Nat
def Marks (B : Nat) (ds : List Deferred) (w : World) : Prop :=
  ∃ Ds : List Nat, Ds.Nodup ∧ ds = Ds.map (fun D => { target := .collected D, args := #[] }) ∧ ∀ D ∈ Ds, B ≤ D ∧ w.heap[D]? = some (Obj.deferred (some []))
def Rel (E : Env) (s : St) (a : Act) (w : World) : Prop :=
  ∃ κ, Ext E.κ E.w κ w ∧ Chg E.κ (hget E.hl) E.w κ (hget s.hl) w ∧ Inv κ (hget s.hl) w ∧ SRel κ w (get s.al) a ∧ a.tmps.size = E.n ∧ Marks E.mb a.defers w ∧ Inv E.κ (hget E.hl) E.w
def AWp (P : Program) (r : Option Nat) (E : Env) (c : Code) (s : St) (K : Exit → St → Prop) : Prop :=
  ∀ a w, Rel E s a w → c.wpIn (wideR r) 0 P (fun e a' w' => ∃ s', Rel E s' a' w' ∧ K e s') a w
section rules
variable {P : Program} {r : Option Nat} {E : Env} {s : St} {K : Exit → St → Prop}

theorem AWp.mono {c : Code} {K' : Exit → St → Prop} (h : AWp P r E c s K) (hk : ∀ e s, K e s → K' e s) : AWp P r E c s K' :=
  fun a w hr => wpIn_mono (h a w hr) fun e a' w' ⟨s', h1, h2⟩ => ⟨s', h1, hk _ _ h2⟩
theorem AWp.skip (h : K .normal s) : AWp P r E .skip s K := fun a w hr => wpIn_skip ⟨s, hr, h⟩
theorem AWp.exit {id : Nat} (h : K (.exit id) s) : AWp P r E (.exit id) s K := fun a w hr => wpIn_exit ⟨s, hr, h⟩
theorem AWp.ret (h : K .ret s) : AWp P r E .ret s K := fun a w hr => wpIn_ret ⟨s, hr, h⟩
def seqK (P : Program) (r : Option Nat) (E : Env) (y : Code) (K : Exit → St → Prop) : Exit → St → Prop
  | .normal, s => AWp P r E y s K
  | e, s => K e s
theorem AWp.seq {x y : Code} (h : AWp P r E x s (seqK P r E y K)) : AWp P r E (.seq x y) s K := fun a w hr =>
  wpIn_seq (wpIn_mono (h a w hr) fun e a' w' ⟨s', h1, h2⟩ => by
    cases e with
    | normal => exact h2 a' w' h1
    | _ => exact ⟨s', h1, h2⟩)
theorem AWp.cond {c : Operand} {x y : Code} {t : Bool} (hc : (copd c).ev (get s.al) = .bool t) (h : AWp P r E (if t then x else y) s K) : AWp P r E (.cond c x y) s K := fun a w hr => by
  have hr' := hr
  obtain ⟨κ, _, _, _, hs, _⟩ := hr'
  have hv := ev_rel hs c
  rw [hc] at hv
  have : a.eval c = .bool t := by generalize a.eval c = v at *; cases hv; rfl
  exact wpIn_cond this (h a w hr)
def blockK (id : Nat) (K : Exit → St → Prop) : Exit → St → Prop
  | .exit id', s => if id' = id then K .normal s else K (.exit id') s
  | e, s => K e s
theorem AWp.block {id : Nat} {c : Code} (h : AWp P r E c s (blockK id K)) : AWp P r E (.block id c) s K := fun a w hr =>
  wpIn_block (wpIn_mono (h a w hr) fun e a' w' ⟨s', h1, h2⟩ => by
    cases e with
    | exit id' =>
      simp only [Exit.inBlock, blockK] at h2 ⊢
      split at h2
      · rename_i he; rw [if_pos he]; exact ⟨s', h1, h2⟩
      · rename_i he; rw [if_neg he]; exact ⟨s', h1, h2⟩
    | _ => exact ⟨s', h1, h2⟩)
/-- At the head of a loop's round. -/
def ALoop (P : Program) (r : Option Nat) (E : Env) (c : Code) (s : St) (K : Exit → St → Prop) : Prop :=
  ∀ a w, Rel E s a w → ∀ (b : Frame) (k : List Item) (cs : List Frame), b.roundOf = (wideR r).round → (wideR r).fn b.fn → (wideR r).room (cs.length + 1 + 0) →
    ∃ e a' w', (∃ s', Rel E s' a' w' ∧ K e s') ∧ ArrivesIn (Machine.fenced P (wideR r)) P (lone (b.atR a (.code c :: .inLoop c :: k)) cs w) b k cs e a' w'
def roundK (P : Program) (r : Option Nat) (E : Env) (c : Code) (K : Exit → St → Prop) : Exit → St → Prop
  | .normal, s => ALoop P r E c s K
  | e, s => K e s
theorem ALoop.round {c : Code} (h : AWp P r E c s (roundK P r E c K)) : ALoop P r E c s K := by
  intro a w hr b k cs hro hb hroom
  obtain ⟨e, a₁, w₁, ⟨s1, h1, h2⟩, harr⟩ := h a w hr b (.inLoop c :: k) cs hro hb hroom
  cases e with
  | normal =>
    obtain ⟨e₂, a₂, w₂, hq₂, harr₂⟩ := h2 a₁ w₁ h1 b k cs hro hb hroom
    exact ⟨e₂, a₂, w₂, hq₂, .of_steps (StepsIn.trans harr (.one (fenced_calm hb hroom rfl) stepR_inLoop)) harr₂⟩
  | exit id => exact ⟨_, a₁, w₁, ⟨s1, h1, h2⟩, .pass (x := .inLoop c) rfl (fun _ _ => .inl (by simp)) harr⟩
  | goto l => exact ⟨_, a₁, w₁, ⟨s1, h1, h2⟩, .pass (x := .inLoop c) rfl (fun _ _ => .inl (by simp)) harr⟩
  | ret => exact ⟨_, a₁, w₁, ⟨s1, h1, h2⟩, .pass (x := .inLoop c) rfl (fun _ _ => .inl (by simp)) harr⟩
  | panic ch => exact ⟨_, a₁, w₁, ⟨s1, h1, h2⟩, .pass (x := .inLoop c) rfl (fun _ _ => .inl (by simp)) harr⟩
  | outgrown => exact ⟨_, a₁, w₁, ⟨s1, h1, h2⟩, .pass (x := .inLoop c) rfl (fun _ _ => .inl (by simp)) harr⟩
theorem AWp.loop {c : Code} (h : ALoop P r E c s K) : AWp P r E (.loop c) s K := fun a w hr b k cs hro hb hroom => by
  obtain ⟨e, a', w', hq, harr⟩ := h a w hr b k cs hro hb hroom
  exact ⟨e, a', w', hq, .of_steps (.one (fenced_calm hb hroom rfl) stepR_loop) harr⟩
end rules

/-! ### References that a value holds lie below a number. -/
mutual
def AV.lt (m : Nat) : AV → Bool
  | .agg cs => ltL m cs
  | .tup cs => ltL m cs
  | .sv _ _ xs => ltL m xs
  | .rp _ cs => ltL m cs
  | .clo _ cs => ltL m cs
  | .yld => false
  | .sl b _ _ _ => b < m
  | .ptr b _ _ _ => b < m
  | _ => true
def ltL (m : Nat) : List AV → Bool
  | [] => true
  | x :: xs => x.lt m && ltL m xs
end

theorem ltL_mem {m : Nat} : ∀ {l : List AV}, ltL m l = true → ∀ x ∈ l, x.lt m = true := by
  intro l
  induction l with
  | nil => intro _ x hx; cases hx
  | cons a l ih =>
    intro h x hx
    simp only [ltL, Bool.and_eq_true] at h
    rcases List.mem_cons.1 hx with e | e
    · subst e; exact h.1
    · exact ih h.2 x e
theorem mem_cells {m : Nat} {x y : AV} (hx : x.lt m = true) (hy : y ∈ x.cells) : y.lt m = true := by
  cases x <;> simp only [AV.cells, List.mem_singleton] at hy <;> first | (subst hy; exact hx) | skip
  simp only [AV.lt] at hx
  exact ltL_mem hx y hy
theorem mem_cellAt {m : Nat} {xs : List AV} (h : ltL m xs = true) {k j : Nat} {x : AV} (hk : cellAt xs k j = some x) : x.lt m = true := by
  unfold cellAt at hk
  cases he : xs[k]? with
  | none => simp [he] at hk
  | some e =>
    simp only [he, Option.bind_some] at hk
    exact mem_cells (ltL_mem h e (List.mem_of_getElem? he)) (List.mem_of_getElem? hk)
/-- What a value says, if the rows that it leads to lie where they lie and no less is known to stay. -/
theorem VRel.low {κ κ' : K} {w : World} {m : Nat} {x : AV} {v : Value} (h : VRel κ w x v) (hx : x.lt m = true) (hρ : ∀ b g, b < m → κ'.rho b g = κ.rho b g) (hp : ∀ c off, Pr κ c off → Pr κ' c off) : VRel κ' w x v := by
  induction h with
  | int => exact .int _ _
  | bool => exact .bool _
  | str => exact .str _
  | nilp => exact .nilp
  | nilf => exact .nilf
  | nili => exact .nili
  | nils => exact .nils
  | und => exact .und _
  | agg hl _ ih => exact .agg hl fun i x v h1 h2 => ih i x v h1 h2 (ltL_mem hx x (List.mem_of_getElem? h1))
  | tup hl _ ih => exact .tup hl fun i x v h1 h2 => ih i x v h1 h2 (ltL_mem hx x (List.mem_of_getElem? h1))
  | sv a c F hn hv hc hm hs _ ih => exact .sv a c F hn hv hc (fun p k j x ha hk => ⟨(hm p k j x ha hk).1, hp _ _ (hm p k j x ha hk).2⟩) hs fun k j x hk => ih k j x hk (mem_cellAt hx hk)
  | sl loc a c hρ' hn ha hb => exact .sl loc a c ((hρ _ _ (by simpa [AV.lt] using hx)).trans hρ') hn ha hb
  | slnil hρ' => exact .slnil ((hρ _ _ (by simpa [AV.lt] using hx)).trans hρ')
  | ptr loc hρ' => exact .ptr loc ((hρ _ _ (by simpa [AV.lt] using hx)).trans hρ')
  | rp p F hps hm _ ih => exact .rp p F hps (fun j x hj => ⟨(hm j x hj).1, hp _ _ (hm j x hj).2⟩) fun j x hj => ih j x hj (ltL_mem hx x (List.mem_of_getElem? hj))
  | clo hl _ ih => exact .clo hl fun i x v h1 h2 => ih i x v h1 h2 (ltL_mem hx x (List.mem_of_getElem? h1))
  | yld => simp [AV.lt] at hx
end Go.Am
end
section
set_option linter.unusedSimpArgs false
set_option linter.unusedVariables false
namespace Go.Am
open Go Go.RowKit

def AV.isY : AV → Bool
  | .yld => true
  | _ => false
def Blk.lt (m : Nat) : Blk → Bool
  | .dead => true
  | .row _ _ _ _ xs => ltL m xs
theorem hget_take (hl : List Blk) (m b : Nat) : hget (hl.take m) b = if b < m then hget hl b else .dead := by
  unfold hget
  rw [List.getElem?_take]
  split <;> rfl
theorem get_mem : ∀ (al : List (Nat × AV)) (t : Nat), get al t = .und ∨ (t, get al t) ∈ al := by
  intro al
  induction al with
  | nil => intro t; exact .inl rfl
  | cons p al ih =>
    intro t
    obtain ⟨k, v⟩ := p
    simp only [get]
    split
    · rename_i h; subst h; exact .inr (by simp)
    · rcases ih t with h | h
      · exact .inl h
      · exact .inr (by simp [h])
/-- Slots and rows are forgotten. -/
theorem Rel.forget {E : Env} {s : St} {a : Act} {w : World} (hr : Rel E s a w) (m : Nat) (al' : List (Nat × AV)) (hm : E.hl.length ≤ m) (hal : ∀ p ∈ al', get s.al p.1 = p.2 ∧ (p.2.lt m || p.2.isY) = true) (hhl : ∀ b ∈ s.hl.take m, b.lt m = true) :
    Rel E ⟨al', s.hl.take m⟩ a w := by
  obtain ⟨κ, hx, hc, hi, hs, hn, hmk, hE⟩ := hr
  let κ' : K := { κ with rho := fun b g => if b < m then κ.rho b g else none }
  have hρ : ∀ b g, b < m → κ'.rho b g = κ.rho b g := fun b g hb => by show (if _ then _ else _) = _; rw [if_pos hb]
  have hρ0 : ∀ b g, ¬ b < m → κ'.rho b g = none := fun b g hb => by show (if _ then _ else _) = _; rw [if_neg hb]
  have hpr : ∀ c off, Pr κ c off → Pr κ' c off := fun _ _ h => h
  have hh : ∀ b, hget (s.hl.take m) b = if b < m then hget s.hl b else .dead := hget_take s.hl m
  have hlies : ∀ b loc, Lies κ' (hget (s.hl.take m)) b loc → Lies κ (hget s.hl) b loc := by
    rintro b loc ⟨g, frz, sz, xs, h1, h2⟩
    rw [hh] at h1
    split at h1
    · rename_i hb; rw [hρ b g hb] at h2; exact ⟨g, frz, sz, xs, h1, h2⟩
    · cases h1
  refine ⟨κ', ⟨hx.B, fun b g x hb => ?_, hx.prot, hx.cell, hx.blk, hx.yl⟩, ⟨hc.os, hc.tape, hc.output, hc.size, hc.blk, fun b loc hl => hc.lies b loc (hlies b loc hl), hc.prot⟩, ⟨hi.base, fun b => ?_, fun b b' loc loc' h1 h2 => hi.inj b b' loc loc' (hlies _ _ h1) (hlies _ _ h2), hi.prot⟩, fun t => ?_, hn, hmk, hE⟩
  · have hb2 : b < m := by
      refine Nat.lt_of_lt_of_le (Nat.lt_of_not_le fun hle => ?_) hm
      have := hE.ok b
      rw [hget_dead _ _ hle] at this
      rw [this g] at hb; cases hb
    rw [hρ b g hb2]; exact hx.rho b g x hb
  · rw [hh]
    split
    · rename_i hb
      have h0 := hi.ok b
      cases hbl : hget s.hl b with
      | dead => rw [hbl] at h0; intro g; rw [hρ b g hb]; exact h0 g
      | row nil g frz sz xs =>
        rw [hbl] at h0
        have hlt : ltL m xs = true := by
          have hmem : Blk.row nil g frz sz xs ∈ s.hl.take m := by
            unfold hget at hbl
            cases hq : s.hl[b]? with
            | none => simp [hq] at hbl
            | some q =>
              simp only [hq, Option.getD_some] at hbl
              subst hbl
              exact List.mem_of_getElem? (i := b) (by rw [List.getElem?_take, if_pos hb]; exact hq)
          exact hhl _ hmem
        refine ⟨?_, fun g' hg' => by rw [hρ b g' hb]; exact h0.2 g' hg'⟩
        rcases h0.1 with ⟨h1, h2, h3⟩ | ⟨h1, loc, h2, h3⟩
        · exact .inl ⟨h1, by rw [hρ b g hb]; exact h2, h3⟩
        · refine .inr ⟨h1, loc, by rw [hρ b g hb]; exact h2, h3.hsz, h3.own, h3.blk, h3.size, fun k j x hk => ?_, h3.prot⟩
          obtain ⟨v, hv, hvr⟩ := h3.cell k j x hk
          exact ⟨v, hv, hvr.low (mem_cellAt hlt hk) hρ hpr⟩
    · rename_i hb; exact fun g => hρ0 b g hb
  · show VRel κ' w (get al' t) _
    rcases get_mem al' t with h | h
    · rw [h]; exact .und _
    · obtain ⟨h1, h2⟩ := hal _ h
      simp only at h1 h2
      rw [← h1] at h2 ⊢
      rcases Bool.or_eq_true _ _ ▸ h2 with h2 | h2
      · exact (hs t).low h2 hρ hpr
      · have hst := hs t
        generalize get s.al t = q at *
        generalize a.tmps.getD t undef = u at *
        cases q <;> simp only [AV.isY, Bool.false_eq_true] at h2
        cases hst with
        | yld h => exact .yld h
theorem AWp.forget {P : Program} {r : Option Nat} {E : Env} {c : Code} {s : St} {K : Exit → St → Prop} (m : Nat) (al' : List (Nat × AV)) (hm : E.hl.length ≤ m) (hal : ∀ p ∈ al', get s.al p.1 = p.2 ∧ (p.2.lt m || p.2.isY) = true) (hhl : ∀ b ∈ s.hl.take m, b.lt m = true)
    (h : AWp P r E c ⟨al', s.hl.take m⟩ K) : AWp P r E c s K := fun a w hr => h a w (hr.forget m al' hm hal hhl)
theorem ALoop.forget {P : Program} {r : Option Nat} {E : Env} {c : Code} {s : St} {K : Exit → St → Prop} (m : Nat) (al' : List (Nat × AV)) (hm : E.hl.length ≤ m) (hal : ∀ p ∈ al', get s.al p.1 = p.2 ∧ (p.2.lt m || p.2.isY) = true) (hhl : ∀ b ∈ s.hl.take m, b.lt m = true)
    (h : ALoop P r E c ⟨al', s.hl.take m⟩ K) : ALoop P r E c s K := fun a w hr => h a w (hr.forget m al' hm hal hhl)
/-! ### Renaming -/
mutual
/-- Every reference satisfies p; is memory that is only read let in? -/
def AV.allR (p : Nat → Nat → Bool) (q : Bool) : AV → Bool
  | .agg cs => allRL p q cs
  | .tup cs => allRL p q cs
  | .sv _ _ xs => q && allRL p q xs
  | .rp _ cs => q && allRL p q cs
  | .clo _ cs => allRL p q cs
  | .sl b g _ _ => p b g
  | .ptr b g _ _ => p b g
  | .yld => false
  | _ => true
def allRL (p : Nat → Nat → Bool) (q : Bool) : List AV → Bool
  | [] => true
  | x :: xs => x.allR p q && allRL p q xs
end

mutual
def AV.mapR (σ : Nat → Nat → Nat × Nat) : AV → AV
  | .agg cs => .agg (mapRL σ cs)
  | .tup cs => .tup (mapRL σ cs)
  | .sv v sz xs => .sv v sz (mapRL σ xs)
  | .rp v cs => .rp v (mapRL σ cs)
  | .clo f cs => .clo f (mapRL σ cs)
  | .sl b g i n => .sl (σ b g).1 (σ b g).2 i n
  | .ptr b g i o => .ptr (σ b g).1 (σ b g).2 i o
  | x => x
def mapRL (σ : Nat → Nat → Nat × Nat) : List AV → List AV
  | [] => []
  | x :: xs => x.mapR σ :: mapRL σ xs
end

theorem mapRL_eq (σ : Nat → Nat → Nat × Nat) (l : List AV) : mapRL σ l = l.map (AV.mapR σ) := by
  induction l with
  | nil => rfl
  | cons a l ih => simp [mapRL, ih]
theorem allRL_eq (p : Nat → Nat → Bool) (q : Bool) (l : List AV) : allRL p q l = l.all (AV.allR p q) := by
  induction l with
  | nil => rfl
  | cons a l ih => simp [allRL, ih]
theorem mapR_cells (σ : Nat → Nat → Nat × Nat) (x : AV) : (x.mapR σ).cells = x.cells.map (AV.mapR σ) := by
  cases x <;> simp [AV.mapR, AV.cells, mapRL_eq]
theorem cellAt_map (σ : Nat → Nat → Nat × Nat) (xs : List AV) (k j : Nat) : cellAt (mapRL σ xs) k j = (cellAt xs k j).map (AV.mapR σ) := by
  unfold cellAt
  rw [mapRL_eq, List.getElem?_map]
  cases xs[k]? with
  | none => rfl
  | some e => simp [mapR_cells]
theorem allRL_mem {p : Nat → Nat → Bool} {q : Bool} {l : List AV} (h : allRL p q l = true) {x : AV} (hx : x ∈ l) : x.allR p q = true := by
  rw [allRL_eq] at h; exact List.all_eq_true.1 h x hx
theorem allR_cellAt {p : Nat → Nat → Bool} {q : Bool} {xs : List AV} (h : allRL p q xs = true) {k j : Nat} {x : AV} (hk : cellAt xs k j = some x) : x.allR p q = true := by
  unfold cellAt at hk
  cases he : xs[k]? with
  | none => simp [he] at hk
  | some e =>
    simp only [he, Option.bind_some] at hk
    have h1 := allRL_mem h (List.mem_of_getElem? he)
    have h2 := List.mem_of_getElem? hk
    cases e <;> simp only [AV.cells, List.mem_singleton] at h2 <;> first | (subst h2; exact h1) | exact allRL_mem (by simpa [AV.allR] using h1) h2
theorem VRel.mapR {κ κ' : K} {w : World} {p : Nat → Nat → Bool} {q : Bool} {σ : Nat → Nat → Nat × Nat} {x : AV} {v : Value} (h : VRel κ w x v) (hx : x.allR p q = true) (hρ : ∀ b g, p b g = true → κ'.rho (σ b g).1 (σ b g).2 = κ.rho b g)
    (hp : q = true → ∀ c off, Pr κ c off → Pr κ' c off) : VRel κ' w (x.mapR σ) v := by
  have list : ∀ {cs : List AV} {vs : Array Value}, (∀ (i : Nat) (x : AV) (v : Value), cs[i]? = some x → vs[i]? = some v → x.allR p q = true → VRel κ' w (x.mapR σ) v) → allRL p q cs = true →
      ∀ (i : Nat) (y : AV) (v : Value), (mapRL σ cs)[i]? = some y → vs[i]? = some v → VRel κ' w y v := by
    intro cs vs ih hall i y v hy hv
    rw [mapRL_eq, List.getElem?_map] at hy
    cases hc : cs[i]? with
    | none => simp [hc] at hy
    | some x =>
      simp only [hc, Option.map_some, Option.some.injEq] at hy
      subst hy
      exact ih i x v hc hv (allRL_mem hall (List.mem_of_getElem? hc))
  induction h with
  | int => exact .int _ _
  | bool => exact .bool _
  | str => exact .str _
  | nilp => exact .nilp
  | nilf => exact .nilf
  | nili => exact .nili
  | nils => exact .nils
  | und => exact .und _
  | agg hl _ ih => exact .agg (by rw [mapRL_eq]; simpa using hl) (list ih (by simpa [AV.allR] using hx))
  | tup hl _ ih => exact .tup (by rw [mapRL_eq]; simpa using hl) (list ih (by simpa [AV.allR] using hx))
  | sv a c F hn hcap hc hm hs hr' ih =>
    rename_i vol sz xs
    simp only [AV.allR, Bool.and_eq_true] at hx
    have hget : ∀ (k j : Nat) (y : AV), cellAt (mapRL σ xs) k j = some y → ∃ x, cellAt xs k j = some x ∧ y = x.mapR σ := fun k j y hk => by
      rw [cellAt_map] at hk
      cases hq : cellAt xs k j with
      | none => simp [hq] at hk
      | some x => simp only [hq, Option.map_some, Option.some.injEq] at hk; exact ⟨x, rfl, hk.symm⟩
    have := VRel.sv (κ := κ') (w := w) (vol := vol) (sz := sz) (xs := mapRL σ xs) a c F (by rw [mapRL_eq]; simpa using hn) (fun h => by rw [mapRL_eq, List.length_map]; exact hcap h) (fun hne => hc (by rintro rfl; simp [mapRL] at hne))
      (fun p k j y ha hk => by obtain ⟨x, h1, _⟩ := hget k j y hk; exact ⟨(hm p k j x ha h1).1, hp hx.1 _ _ (hm p k j x ha h1).2⟩)
      (fun e he => by rw [mapRL_eq] at he; obtain ⟨e', h1, rfl⟩ := List.mem_map.1 he; rw [mapR_cells]; simpa using hs e' h1)
      (fun k j y hk => by obtain ⟨x, h1, rfl⟩ := hget k j y hk; exact ih k j x h1 (allR_cellAt hx.2 h1))
    rw [show (mapRL σ xs).length = xs.length by rw [mapRL_eq]; simp] at this
    exact this
  | sl loc a c hρ' hn ha hb => exact .sl loc a c ((hρ _ _ (by simpa [AV.allR] using hx)).trans hρ') hn ha hb
  | slnil hρ' => exact .slnil ((hρ _ _ (by simpa [AV.allR] using hx)).trans hρ')
  | ptr loc hρ' => exact .ptr loc ((hρ _ _ (by simpa [AV.allR] using hx)).trans hρ')
  | rp p' F hps hm hr' ih =>
    simp only [AV.allR, Bool.and_eq_true] at hx
    rename_i vol cs
    refine .rp p' F hps (fun j y hj => ?_) (fun j y hj => ?_)
    all_goals
      rw [mapRL_eq, List.getElem?_map] at hj
      cases hq : cs[j]? with
      | none => simp [hq] at hj
      | some x =>
        simp only [hq, Option.map_some, Option.some.injEq] at hj
        subst hj
        first
          | exact ⟨(hm j x hq).1, hp hx.1 _ _ (hm j x hq).2⟩
          | exact ih j x hq (allRL_mem hx.2 (List.mem_of_getElem? hq))
  | clo hl _ ih => exact .clo (by rw [mapRL_eq]; simpa using hl) (list ih (by simpa [AV.allR] using hx))
  | yld => simp [AV.allR] at hx
def Blk.mapR (σ : Nat → Nat → Nat × Nat) : Blk → Blk
  | .dead => .dead
  | .row nil g frz sz xs => .row nil g frz sz (mapRL σ xs)
def Blk.allR (p : Nat → Nat → Bool) (q : Bool) : Blk → Bool
  | .dead => true
  | .row _ _ _ _ xs => allRL p q xs
end Go.Am
end
section
set_option linter.unusedSimpArgs false
set_option linter.unusedVariables false
namespace Go.Am
open Go Go.RowKit

/-- What is handed back: rows below m0 stay, those of sig are told anew behind them. -/
def sigP (m0 : Nat) (sg : List (Nat × Nat)) (b g : Nat) : Bool := b < m0 || sg.contains (b, g)
def sigF (m0 : Nat) (sg : List (Nat × Nat)) (b g : Nat) : Nat × Nat := if b < m0 then (b, g) else (m0 + sg.findIdx (· == (b, g)), 0)
def Blk.zero : Blk → Blk
  | .dead => .dead
  | .row nil _ frz sz xs => .row nil 0 frz sz xs
def exHl (m0 : Nat) (sg : List (Nat × Nat)) (hl : List Blk) : List Blk :=
  (hl.take m0).map (Blk.mapR (sigF m0 sg)) ++ sg.map fun q => ((hget hl q.1).mapR (sigF m0 sg)).zero
def rowGen : Blk → Option Nat
  | .dead => none
  | .row _ g _ _ _ => some g
def Nodups : List Nat → Bool
  | [] => true
  | a :: l => !l.contains a && Nodups l
structure Exports (m0 : Nat) (sg : List (Nat × Nat)) (hl : List Blk) (x : AV) : Prop where
  len : m0 ≤ hl.length
  sig : ∀ q ∈ sg, m0 ≤ q.1 ∧ rowGen (hget hl q.1) = some q.2
  nodup : (sg.map Prod.fst).Nodup
  pre : ∀ b ∈ hl.take m0, b.allR (sigP m0 sg) true = true
  rows : ∀ q ∈ sg, (hget hl q.1).allR (sigP m0 sg) true = true
  val : x.allR (sigP m0 sg) true = true
theorem export_rel {κE κ : K} {hE : Nat → Blk} {wE w : World} {m0 : Nat} {sg : List (Nat × Nat)} {hl : List Blk} {x : AV} {v : Value} (hx : Ext κE wE κ w) (hc : Chg κE hE wE κ (hget hl) w) (hi : Inv κ (hget hl) w)
    (hE0 : ∀ b g y, κE.rho b g = some y → b < m0) (hv : VRel κ w x v) (he : Exports m0 sg hl x) :
    ∃ κ', Ext κE wE κ' w ∧ Chg κE hE wE κ' (hget (exHl m0 sg hl)) w ∧ Inv κ' (hget (exHl m0 sg hl)) w ∧ VRel κ' w (x.mapR (sigF m0 sg)) v := by
  let κ' : K := { κ with rho := fun b g => if b < m0 then κ.rho b g else match sg[b - m0]? with
    | some q => if g = 0 then κ.rho q.1 q.2 else none
    | none => none }
  have r1 : ∀ b g, b < m0 → κ'.rho b g = κ.rho b g := fun b g hb => by show (if _ then _ else _) = _; rw [if_pos hb]
  have r2 : ∀ (j : Nat) (q : Nat × Nat), sg[j]? = some q → κ'.rho (m0 + j) 0 = κ.rho q.1 q.2 := fun j q hq => by
    show (if _ then _ else _) = _
    rw [if_neg (by omega), show m0 + j - m0 = j by omega, hq]; simp
  have r3 : ∀ b g, ¬ b < m0 → κ'.rho b g ≠ none → ∃ q, sg[b - m0]? = some q ∧ g = 0 ∧ κ'.rho b g = κ.rho q.1 q.2 := fun b g hb hne => by
    change (if b < m0 then κ.rho b g else match sg[b - m0]? with | some q => if g = 0 then κ.rho q.1 q.2 else none | none => none) ≠ none at hne
    rw [if_neg hb] at hne
    cases hq : sg[b - m0]? with
    | none => rw [hq] at hne; exact absurd rfl hne
    | some q =>
      rw [hq] at hne
      by_cases hg : g = 0
      · subst hg
        refine ⟨q, rfl, rfl, ?_⟩
        have := r2 (b - m0) q hq
        rwa [show m0 + (b - m0) = b by omega] at this
      · simp only [if_neg hg] at hne; exact absurd rfl hne
  have hσ : ∀ b g, sigP m0 sg b g = true → κ'.rho (sigF m0 sg b g).1 (sigF m0 sg b g).2 = κ.rho b g := by
    intro b g hp
    unfold sigF
    split
    · rename_i hb; exact r1 b g hb
    · rename_i hb
      simp only [sigP, hb, decide_false, Bool.false_or] at hp
      have hmem : (b, g) ∈ sg := by simpa using hp
      have hlt : sg.findIdx (· == (b, g)) < sg.length := List.findIdx_lt_length_of_exists ⟨_, hmem, by simp⟩
      have hat : sg[sg.findIdx (· == (b, g))]? = some (b, g) := by
        rw [List.getElem?_eq_getElem hlt]
        have := List.findIdx_getElem (xs := sg) (p := (· == (b, g))) (w := hlt)
        simpa using this
      exact r2 _ _ hat
  have hpr : true = true → ∀ c off, Pr κ c off → Pr κ' c off := fun _ _ _ h => h
  have hex1 : ∀ b, b < m0 → hget (exHl m0 sg hl) b = (hget hl b).mapR (sigF m0 sg) := fun b hb => by
    unfold exHl hget
    have hlt : b < hl.length := Nat.lt_of_lt_of_le hb he.len
    rw [List.getElem?_append_left (by simp; omega), List.getElem?_map, List.getElem?_take, if_pos hb, List.getElem?_eq_getElem hlt]
    rfl
  have hlen : ((hl.take m0).map (Blk.mapR (sigF m0 sg))).length = m0 := by simp [he.len]
  have hex2 : ∀ (j : Nat) (q : Nat × Nat), sg[j]? = some q → hget (exHl m0 sg hl) (m0 + j) = ((hget hl q.1).mapR (sigF m0 sg)).zero := fun j q hq => by
    show ((exHl m0 sg hl)[m0 + j]?).getD .dead = _
    unfold exHl
    rw [List.getElem?_append_right (by rw [hlen]; omega), hlen, show m0 + j - m0 = j by omega, List.getElem?_map, hq]
    rfl
  have hex3 : ∀ b, ¬ b < m0 → sg[b - m0]? = none → hget (exHl m0 sg hl) b = .dead := fun b hb hq => by
    show ((exHl m0 sg hl)[b]?).getD .dead = _
    unfold exHl
    rw [List.getElem?_append_right (by rw [hlen]; omega), hlen, List.getElem?_map, hq]
    rfl
  -- where a row of the new list came from
  have orig : ∀ b loc, Lies κ' (hget (exHl m0 sg hl)) b loc → ∃ b0, Lies κ (hget hl) b0 loc ∧ ((b < m0 ∧ b0 = b) ∨ (¬ b < m0 ∧ ∃ q, sg[b - m0]? = some q ∧ b0 = q.1)) := by
    rintro b loc ⟨g, frz, sz, xs, h1, h2⟩
    by_cases hb : b < m0
    · rw [hex1 b hb] at h1
      rw [r1 b g hb] at h2
      cases hbl : hget hl b with
      | dead => rw [hbl] at h1; cases h1
      | row nil g0 frz0 sz0 xs0 =>
        rw [hbl] at h1
        simp only [Blk.mapR, Blk.row.injEq] at h1
        obtain ⟨rfl, rfl, rfl, rfl, rfl⟩ := h1
        exact ⟨b, ⟨g0, frz0, sz0, xs0, hbl, h2⟩, .inl ⟨hb, rfl⟩⟩
    · obtain ⟨q, hq, rfl, hr⟩ := r3 b g hb (by rw [h2]; simp)
      have h3 := hex2 (b - m0) q hq
      rw [show m0 + (b - m0) = b by omega, h1] at h3
      obtain ⟨hq1, hq2⟩ := he.sig q (List.mem_of_getElem? hq)
      cases hbl : hget hl q.1 with
      | dead => rw [hbl] at hq2; cases hq2
      | row nil g0 frz0 sz0 xs0 =>
        rw [hbl] at hq2 h3
        simp only [rowGen, Option.some.injEq] at hq2
        simp only [Blk.mapR, Blk.zero, Blk.row.injEq] at h3
        obtain ⟨h4, -, -⟩ := h3
        subst h4
        exact ⟨q.1, ⟨g0, frz0, sz0, xs0, hbl, by rw [hq2, ← hr]; exact h2⟩, .inr ⟨hb, q, hq, rfl⟩⟩
  have rowOk : ∀ {b b' g g' : Nat} {nil frz : Bool} {sz : Nat} {xs : List AV}, RowOk κ w b nil g frz sz xs → κ'.rho b' g' = κ.rho b g → allRL (sigP m0 sg) true xs = true → RowOk κ' w b' nil g' frz sz (mapRL (sigF m0 sg) xs) := by
    intro b b' g g' nil frz sz xs h hρ hall
    rcases h with ⟨h1, h2, h3⟩ | ⟨h1, loc, h2, h3⟩
    · exact .inl ⟨h1, hρ.trans h2, by rw [h3]; rfl⟩
    · have hl : (mapRL (sigF m0 sg) xs).length = xs.length := by rw [mapRL_eq]; simp
      refine .inr ⟨h1, loc, hρ.trans h2, h3.hsz, h3.own, by rw [hl]; exact h3.blk, fun e he' => ?_, fun k j y hk => ?_, by rw [hl]; exact h3.prot⟩
      · rw [mapRL_eq] at he'
        obtain ⟨e', h4, rfl⟩ := List.mem_map.1 he'
        rw [mapR_cells]; simpa using h3.size e' h4
      · rw [cellAt_map] at hk
        cases hq : cellAt xs k j with
        | none => simp [hq] at hk
        | some y' =>
          simp only [hq, Option.map_some, Option.some.injEq] at hk
          subst hk
          obtain ⟨u, hu, hur⟩ := h3.cell k j y' hq
          exact ⟨u, hu, hur.mapR (allR_cellAt hall hq) hσ hpr⟩
  refine ⟨κ', ⟨hx.B, fun b g y hb => by rw [r1 b g (hE0 b g y hb)]; exact hx.rho b g y hb, hx.prot, hx.cell, hx.blk, hx.yl⟩, ⟨hc.os, hc.tape, hc.output, hc.size, hc.blk, fun b loc hl => ?_, hc.prot⟩, ⟨hi.base, fun b => ?_, fun b b' loc loc' h1 h2 hcc => ?_, hi.prot⟩, hv.mapR he.val hσ hpr⟩
  · obtain ⟨b0, h1, _⟩ := orig b loc hl
    exact hc.lies b0 loc h1
  · by_cases hb : b < m0
    · rw [hex1 b hb]
      have h0 := hi.ok b
      cases hbl : hget hl b with
      | dead => rw [hbl] at h0; intro g; rw [r1 b g hb]; exact h0 g
      | row nil g frz sz xs =>
        rw [hbl] at h0
        have hall : allRL (sigP m0 sg) true xs = true := by
          have hlt : b < hl.length := Nat.lt_of_lt_of_le hb he.len
          have hmem : hget hl b ∈ hl.take m0 := List.mem_of_getElem? (i := b) (by rw [List.getElem?_take, if_pos hb, List.getElem?_eq_getElem hlt]; simp [hget, hlt])
          have := he.pre _ hmem
          rw [hbl] at this; exact this
        exact ⟨rowOk h0.1 (r1 b g hb) hall, fun g' hg' => by rw [r1 b g' hb]; exact h0.2 g' hg'⟩
    · cases hq : sg[b - m0]? with
      | none =>
        rw [hex3 b hb hq]
        intro g
        show (if _ then _ else _) = _
        rw [if_neg hb, hq]
      | some q =>
        have h3 := hex2 (b - m0) q hq
        rw [show m0 + (b - m0) = b by omega] at h3
        rw [h3]
        obtain ⟨hq1, hq2⟩ := he.sig q (List.mem_of_getElem? hq)
        have h0 := hi.ok q.1
        cases hbl : hget hl q.1 with
        | dead => rw [hbl] at hq2; cases hq2
        | row nil g frz sz xs =>
          rw [hbl] at h0 hq2
          simp only [rowGen, Option.some.injEq] at hq2
          subst hq2
          have hall : allRL (sigP m0 sg) true xs = true := by have := he.rows q (List.mem_of_getElem? hq); rw [hbl] at this; exact this
          have hρ := r2 (b - m0) q hq
          rw [show m0 + (b - m0) = b by omega] at hρ
          refine ⟨rowOk h0.1 hρ hall, fun g' hg' => ?_⟩
          show (if _ then _ else _) = _
          rw [if_neg hb, hq]
          simp only
          rw [if_neg (by omega)]
  · obtain ⟨b0, h3, h4⟩ := orig b loc h1
    obtain ⟨b0', h5, h6⟩ := orig b' loc' h2
    have heq := hi.inj b0 b0' loc loc' h3 h5 hcc
    subst heq
    rcases h4 with ⟨h4, h7⟩ | ⟨h4, q, hq, h7⟩ <;> rcases h6 with ⟨h6, h8⟩ | ⟨h6, q', hq', h8⟩
    · rw [← h7, ← h8]
    · have := (he.sig q' (List.mem_of_getElem? hq')).1; omega
    · have := (he.sig q (List.mem_of_getElem? hq)).1; omega
    · have hlt : b - m0 < (sg.map Prod.fst).length := by simpa using (List.getElem?_eq_some_iff.1 hq).1
      have := (List.getElem?_inj hlt he.nodup (j := b' - m0)).1 (by rw [List.getElem?_map, List.getElem?_map, hq, hq']; simp [← h7, ← h8])
      omega
end Go.Am
end
section
set_option linter.unusedSimpArgs false
set_option linter.unusedVariables false
namespace Go.Am
open Go Go.RowKit

inductive RV where
  | t (n : Nat)
  | c (a : Nat) (agg : Bool) (sz : Nat)
def compRV (P : Program) : ResultVar → Option RV
  | .tmp t => some (.t t)
  | .cell a t => match isAggT P t, sizeT P t with
    | some b, some n => some (.c a b n)
    | _, _ => none
def compRVs (P : Program) : List ResultVar → Option (List RV)
  | [] => some []
  | x :: xs => match compRV P x, compRVs P xs with
    | some a, some as => some (a :: as)
    | _, _ => none
def resRV (al : List (Nat × AV)) (hl : List Blk) : List RV → Option (List AV)
  | [] => some []
  | .t n :: rs => match resRV al hl rs with
    | some vs => some (get al n :: vs)
    | none => none
  | .c a agg sz :: rs => match loadAV (hget hl) agg sz (get al a), resRV al hl rs with
    | some v, some vs => some (v :: vs)
    | _, _ => none
def tupAV : List AV → AV
  | [v] => v
  | vs => .tup vs
section
variable {P : Program} {κ : K} {w : World}

theorem resRV_run {al : List (Nat × AV)} {hl : List Blk} {a : Act} (hi : Inv κ (hget hl) w) (hs : SRel κ w (get al) a) : ∀ (rs : List ResultVar) (rvs : List RV) (xs : List AV), compRVs P rs = some rvs → resRV al hl rvs = some xs →
    ∃ vs : List Value, xs.length = vs.length ∧ (∀ (i : Nat) (x : AV) (v : Value), xs[i]? = some x → vs[i]? = some v → VRel κ w x v) ∧
      (rs.mapM (fun | .tmp t => Pure.pure (a.tmps.getD t undef) | .cell ad t => do loadVar t (← asAddr (a.tmps.getD ad undef)) : ResultVar → Sem Value)).run P w = .ok vs w := by
  intro rs
  induction rs with
  | nil =>
    intro rvs xs h1 h2
    simp only [compRVs, Option.some.injEq] at h1; subst h1
    simp only [resRV, Option.some.injEq] at h2; subst h2
    exact ⟨[], rfl, fun i x v h => by simp at h, rfl⟩
  | cons r rs ih =>
    intro rvs xs h1 h2
    simp only [compRVs] at h1
    split at h1 <;> first | (cases h1; done) | skip
    rename_i rv rvs' hrv hrest
    simp only [Option.some.injEq] at h1; subst h1
    cases r with
    | tmp t =>
      simp only [compRV, Option.some.injEq] at hrv; subst hrv
      simp only [resRV] at h2
      split at h2 <;> first | (cases h2; done) | skip
      rename_i ys hys
      simp only [Option.some.injEq] at h2; subst h2
      obtain ⟨vs, hl', hr', hrun⟩ := ih rvs' ys hrest hys
      refine ⟨a.tmps.getD t undef :: vs, by simp [hl'], fun i x v hx hv => ?_, ?_⟩
      · cases i with
        | zero => simp only [List.getElem?_cons_zero, Option.some.injEq] at hx hv; subst hx hv; exact hs t
        | succ i => exact hr' i x v hx hv
      · simp only [List.mapM_cons, Sem.run_bind, hrun, Sem.run_pure, Result.andThen_ok]
    | cell ad t =>
      simp only [compRV] at hrv
      split at hrv <;> first | (cases hrv; done) | skip
      rename_i b n hb hn
      simp only [Option.some.injEq] at hrv; subst hrv
      simp only [resRV] at h2
      split at h2 <;> first | (cases h2; done) | skip
      rename_i y ys hy hys
      simp only [Option.some.injEq] at h2; subst h2
      obtain ⟨d, hd, hbd⟩ := isAggT_spec hb
      obtain ⟨inf, hinf, rfl⟩ := sizeT_spec hn
      obtain ⟨u, hload, hur⟩ := snd_load hd hinf hi (hs ad) hbd hy
      obtain ⟨vs, hl', hr', hrun⟩ := ih rvs' ys hrest hys
      have haddr : ∃ p, a.tmps.getD ad undef = .pointer (some p) := by
        have := hs ad
        generalize get al ad = q at *
        cases q <;> simp only [loadAV] at hy <;> first | (cases hy; done) | skip
        all_goals (generalize a.tmps.getD ad undef = z at *; cases this; exact ⟨_, rfl⟩)
      obtain ⟨p, hp⟩ := haddr
      refine ⟨u :: vs, by simp [hl'], fun i x v hx hv => ?_, ?_⟩
      · cases i with
        | zero => simp only [List.getElem?_cons_zero, Option.some.injEq] at hx hv; subst hx hv; exact hur
        | succ i => exact hr' i x v hx hv
      · simp only [Instr.loadAt, hp, Instr.sureAddr, pure_bind] at hload
        have hpa : (asAddr (a.tmps.getD ad undef)).run P w = .ok p w := by rw [hp]; rfl
        simp only [List.mapM_cons, Sem.run_bind, hpa, Sem.run_pure, Result.andThen_ok, hload, hrun]
theorem results_run {fn : Func} {rvs : List RV} (hrv : compRVs P fn.results.toList = some rvs) {al : List (Nat × AV)} {hl : List Blk} {a : Act} (hi : Inv κ (hget hl) w) (hs : SRel κ w (get al) a) {xs : List AV} (hx : resRV al hl rvs = some xs) :
    ∃ v, (results fn a.tmps).run P w = .ok v w ∧ VRel κ w (tupAV xs) v := by
  obtain ⟨vs, hl', hr', hrun⟩ := resRV_run hi hs _ _ _ hrv hx
  have hm : (fn.results.mapM (fun | .tmp t => Pure.pure (a.tmps.getD t undef) | .cell ad t => do loadVar t (← asAddr (a.tmps.getD ad undef)) : ResultVar → Sem Value)).run P w = .ok vs.toArray w := by
    rw [← Array.toArray_toList (xs := fn.results), List.mapM_toArray]
    simp only [Sem.run_map, hrun, Result.andThen_ok]
  refine ⟨if h : vs.toArray.size = 1 then vs.toArray[0] else .tuple vs.toArray, ?_, ?_⟩
  · unfold results
    rw [Sem.run_bind]
    erw [hm]
    rfl
  · match xs, vs, hl', hr' with
    | [], [], _, _ => exact .tup rfl (fun i x v h => by simp at h)
    | [x], [v], _, hr' => simpa [tupAV] using hr' 0 x v rfl rfl
    | x :: y :: xs, [], h, _ => simp at h
    | x :: y :: xs, [_], h, _ => simp at h
    | x :: y :: xs, v :: u :: vs, hl', hr' =>
      simp only [tupAV, List.size_toArray, List.length_cons]
      rw [dif_neg (by omega)]
      exact .tup (by simpa using hl') (fun i x v h1 h2 => hr' i x v h1 (by simpa using h2))
end

/-- Blocks that hold no cells change: nothing is told of them. -/
theorem Ext.put {κ κ' : K} {w w' : World} (h : Ext κ w κ' w') (D : Nat) (o o' : Obj) (hD : w'.heap[D]? = some o) (hc : ∀ C e f, o ≠ .cells C e f) : Ext κ w κ' (w'.putObj D o') := by
  have hne : ∀ c C e f, w'.heap[c]? = some (Obj.cells C e f) → c ≠ D := fun c C e f hcc he => by subst he; rw [hD] at hcc; cases hcc; exact hc _ _ _ rfl
  refine ⟨h.B, h.rho, h.prot, fun c off v hp hv => ?_, fun c C e hcc => ?_, h.yl⟩
  · have := h.cell c off v hp hv
    by_cases hcD : c = D
    · subst hcD
      unfold World.cell? at this
      rw [hD] at this
      cases o <;> first | (cases this; done) | (exact absurd rfl (hc _ _ _))
    · exact (World.cell?_of_block (w := w') (World.putObj_heap_other hcD)).trans this
  · obtain ⟨C', h1, h2⟩ := h.blk c C e hcc
    exact ⟨C', by rw [World.putObj_heap_other (hne c _ _ _ h1)]; exact h1, h2⟩
theorem Inv.put {κ : K} {h : Nat → Blk} {w : World} (hi : Inv κ h w) (D : Nat) (o o' : Obj) (hD : w.heap[D]? = some o) (hc : ∀ C e f, o ≠ .cells C e f) : Inv κ h (w.putObj D o') := by
  have hx : Ext κ w κ (w.putObj D o') := (Ext.refl κ w).put D o o' hD hc
  refine ⟨by simpa [World.putObj] using hi.base, fun b => ?_, hi.inj, fun c hcc => by simpa [World.putObj] using hi.prot c hcc⟩
  have h0 := hi.ok b
  cases hbl : h b with
  | dead => rw [hbl] at h0; exact h0
  | row nil g frz sz xs =>
    rw [hbl] at h0
    refine ⟨?_, h0.2⟩
    rcases h0.1 with h3 | ⟨h3, loc, h4, h5⟩
    · exact .inl h3
    · obtain ⟨C, e, hC, _⟩ := h5.blk
      have : loc.c ≠ D := fun he => by rw [he, hD] at hC; cases hC; exact hc _ _ _ rfl
      exact .inr ⟨h3, loc, h4, h5.keep hx (World.putObj_heap_other this) rfl⟩
theorem Chg.put {κ κ' : K} {h h' : Nat → Blk} {w w' : World} (hg : Chg κ h w κ' h' w') (D : Nat) (o' : Obj) (hD : w.heap.size ≤ D) : Chg κ h w κ' h' (w'.putObj D o') :=
  ⟨hg.os, hg.tape, hg.output, by simpa [World.putObj] using hg.size, fun c hc hl => (World.putObj_heap_other (by omega)).trans (hg.blk c hc hl), hg.lies, hg.prot⟩
def finK (rvs : List RV) (m0 : Nat) (r : AV) (hl' : List Blk) : Exit → St → Prop := fun e s =>
  (e = .normal ∨ e = .ret) ∧ ∃ xs sg, resRV s.al s.hl rvs = some xs ∧ Exports m0 sg s.hl (tupAV xs) ∧ (tupAV xs).mapR (sigF m0 sg) = r ∧ exHl m0 sg s.hl = hl'
def argsAl : Nat → List AV → List (Nat × AV)
  | _, [] => []
  | i, x :: xs => (i, x) :: argsAl (i + 1) xs
theorem get_argsAl : ∀ (xs : List AV) (i t : Nat), get (argsAl i xs) t = if i ≤ t then (xs[t - i]?).getD .und else .und := by
  intro xs
  induction xs with
  | nil => intro i t; simp [argsAl, get]
  | cons x xs ih =>
    intro i t
    simp only [argsAl, get]
    split
    · rename_i h; subst h; simp
    · rename_i h
      rw [ih]
      by_cases h2 : i ≤ t
      · rw [if_pos (by omega), if_pos h2, show t - i = (t - (i + 1)) + 1 by omega]; simp
      · rw [if_neg (by omega), if_neg h2]
structure CallsF (P : Program) (f : FuncId) (args : List AV) (hl : List Blk) (r : AV) (hl' : List Blk) : Prop where
  enter : ∀ (as : Array Value) (w : World), (callFunc f as).run P w = .ok (.enter f as) w
  calls : CallsR P f args hl r hl'
theorem callsF_of_body {P : Program} {f : FuncId} {fn : Func} {c : Code} {args : List AV} {hl : List Blk} {r : AV} {hl' : List Blk} {rvs : List RV} (hf : P.funcs[f]? = some fn) (hb : fn.body = some c) (hname : (fn.name == "runtime.NumGoroutine") = false)
    (hargs : args.length ≤ fn.ntmps) (hrv : compRVs P fn.results.toList = some rvs) (h : ∀ E : Env, E.hl = hl → E.n = fn.ntmps → E.mb ≤ E.w.heap.size → E.κ.yl = none → AWp P none E c ⟨argsAl 0 args, hl⟩ (finK rvs hl.length r hl')) : CallsF P f args hl r hl' := by
  refine ⟨fun as w => ?_, fun κ w vs hyl hi hlen hrel => ?_⟩
  · unfold callFunc
    simp only [Sem.run_bind, run_program, Result.andThen_ok, hf, hname, Bool.false_eq_true, if_false, hb, Option.isNone_some]
    rfl
  · refine callsIn_of_wp_marks hf hb trivial ?_ rfl
    obtain ⟨E, hE⟩ : ∃ E : Env, E = ⟨κ, hl, w, fn.ntmps, w.heap.size⟩ := ⟨_, rfl⟩
    have hbody := h E (by rw [hE]) (by rw [hE]) (by rw [hE]; exact Nat.le_refl _) (by rw [hE]; exact hyl)
    have hslots : SRel κ w (get (argsAl 0 args)) { tmps := vs ++ Array.replicate (fn.ntmps - vs.size) undef, defers := [] } := fun t => by
      rw [get_argsAl]
      simp only [Nat.zero_le, if_true, Nat.sub_zero]
      cases ha : args[t]? with
      | none => exact .und _
      | some x =>
        have hlt : t < vs.size := by rw [← hlen]; exact (List.getElem?_eq_some_iff.1 ha).1
        have := hrel t x vs[t] ha (by simp [hlt])
        simpa [Array.getD_eq_getD_getElem?, Array.getElem?_append, hlt] using this
    have hrel0 : Rel E ⟨argsAl 0 args, hl⟩ { tmps := vs ++ Array.replicate (fn.ntmps - vs.size) undef, defers := [] } w := by
      rw [hE]
      exact ⟨κ, .refl _ _, .refl _ _ _, hi, hslots, by simp; omega, ⟨[], by simp, rfl, by simp⟩, hi⟩
    refine wpIn_mono (hbody _ _ hrel0) ?_
    rintro e a' w' ⟨s', ⟨κ1, hx, hc, hi1, hs1, -, hmk, -⟩, hex, xs, sg, hres, hexp, hr, hhl⟩
    rw [hE] at hx hc hmk
    simp only at hx hc hmk
    subst hr hhl
    have goal : ∀ (ds : List Deferred) (w' : World), Ext κ w κ1 w' → Chg κ (hget hl) w κ1 (hget s'.hl) w' → Inv κ1 (hget s'.hl) w' → SRel κ1 w' (get s'.al) a' → Marks w.heap.size ds w' →
        LeavesInM Fence.wide 0 P fn a'.tmps (fun e w' => ∃ v κ', e = .returned v ∧ Ext κ w κ' w' ∧ Inv κ' (hget (exHl hl.length sg s'.hl)) w' ∧ VRel κ' w' ((tupAV xs).mapR (sigF hl.length sg)) v ∧ Chg κ (hget hl) w κ' (hget (exHl hl.length sg s'.hl)) w') ds .returning w' := by
      intro ds
      induction ds with
      | nil =>
        intro w' hx hc hi1 hs1 _
        obtain ⟨v, hrun, hv⟩ := results_run hrv hi1 hs1 hres
        obtain ⟨κ', h1, h2, h3, h4⟩ := export_rel hx hc hi1 (fun b g y hb => Nat.lt_of_not_le fun hle => by
          have := hi.ok b
          rw [hget_dead _ _ hle] at this
          rw [this g] at hb; cases hb) hv hexp
        exact ⟨v, hrun, v, κ', rfl, h1, h3, h4, h2⟩
      | cons d ds ih =>
        rintro w' hx hc hi1 hs1 ⟨Ds, hnd, hds, hDs⟩
        cases Ds with
        | nil => simp at hds
        | cons D Ds =>
          simp only [List.map_cons, List.cons.injEq] at hds
          obtain ⟨hd, hds⟩ := hds
          obtain ⟨hD1, hD2⟩ := hDs D (by simp)
          have hncells : ∀ C e f, Obj.deferred (some []) ≠ .cells C e f := by simp
          refine ⟨by simp, .inl ⟨D, w'.putObj D (.deferred none), by rw [hd], run_takeDeferred hD2, ?_⟩⟩
          refine ih _ (hx.put D _ _ hD2 hncells) (hc.put D _ hD1) (hi1.put D _ _ hD2 hncells) (fun t => (hs1 t).ext ((Ext.refl κ1 w').put D _ _ hD2 hncells)) ⟨Ds, (List.nodup_cons.1 hnd).2, hds, fun D' hD' => ?_⟩
          obtain ⟨h1, h2⟩ := hDs D' (by simp [hD'])
          refine ⟨h1, ?_⟩
          rw [World.putObj_heap_other]
          · exact h2
          · rintro rfl; exact (List.nodup_cons.1 hnd).1 hD'
    rcases hex with rfl | rfl
    · exact goal _ _ hx hc hi1 hs1 hmk
    · exact goal _ _ hx hc hi1 hs1 hmk
end Go.Am
end
