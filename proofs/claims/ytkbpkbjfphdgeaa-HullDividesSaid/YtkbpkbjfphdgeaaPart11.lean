/- Ranges over functions in the driver: an iterator's code is gone through, and at each yield the round of the loop.
   Conditions: none. -/
import Derived.Test.YtkbpkbjfphdgeaaPart10
section
set_option linter.unusedSimpArgs false
set_option linter.unusedVariables false
set_option linter.defProp false
namespace Go.Am
open Go Go.RowKit

abbrev KY := List (Nat × AV) → List Blk → Option Exit → Prop
structure YCx (P : Program) (Y : Hdl) (f : Opd) (xs : List Opd) (dst : Option Nat) (bef : Nat) (l : List (Nat × AV)) (hl : List Blk) (st : Option Exit) (next : KY) : Prop where
  run : (evA l f = .yld ∧ st = none ∧ Y (evsA l xs) hl (fun res hl' => next (consO l dst (.bool res.isNone)) hl' res)) ∨ RCx P f xs dst bef l hl [] fun l hl _ => next l hl st
def RunYX (P : Program) (Y : Hdl) : List COp → List (Nat × AV) → List Blk → Option Exit → KY → Prop
  | [], l, hl, st, K => K l hl st
  | c :: cs, l, hl, st, K => match wantedA l c.guard with
    | none => False
    | some false => RunYX P Y cs (consO l c.dst (.tup [])) hl st K
    | some true => match c.op with
      | .call f xs => YCx P Y f xs c.dst c.bef l hl st fun l hl st => RunYX P Y cs l hl st K
      | op => match aopA op l hl with
        | none => False
        | some r => RunYX P Y cs (consO l c.dst r.v) (hsetL hl r.ups) st K
structure RYX (P : Program) (Y : Hdl) (ops : List COp) (l : List (Nat × AV)) (hl : List Blk) (st : Option Exit) (K : KY) : Prop where
  run : RunYX P Y ops l hl st K
theorem RYX_eq (P : Program) (Y : Hdl) (ops : List COp) (l : List (Nat × AV)) (hl : List Blk) (st : Option Exit) (K : KY) : RYX P Y ops l hl st K = RunYX P Y ops l hl st K := propext ⟨fun h => h.run, fun h => ⟨h⟩⟩
theorem RunYX.sound {P : Program} {Y : Hdl} (hY : Y.Mono) : ∀ (cs : List COp) (l : List (Nat × AV)) (hl : List Blk) (st : Option Exit) (K : KY), RunYX P Y cs l hl st K → ∀ al, get al = get l → RunY P Y cs al hl st fun s' st' => ∃ l', get s'.al = get l' ∧ K l' s'.hl st' := by
  intro cs
  induction cs with
  | nil => intro l hl st K h al hal; exact ⟨l, hal, h⟩
  | cons c cs ih =>
    intro l hl st K h al hal
    obtain ⟨op, dst, guard, bef⟩ := c
    have key : ∀ b, wantedA l guard = some b → wantedAV (get al) guard = some b := fun b hb => by
      unfold wantedA at hb
      unfold wantedAV
      cases guard with
      | none => exact hb
      | some q => obtain ⟨d, w⟩ := q; simp only [hal]; exact hb
    simp only [RunYX] at h
    simp only [RunY]
    cases hw : wantedA l guard with
    | none => rw [hw] at h; exact h.elim
    | some b =>
      rw [hw] at h
      rw [key b hw]
      cases b with
      | false => exact ih _ _ _ _ h _ (get_consO hal dst _)
      | true =>
        cases hc : isCall op with
        | true =>
          obtain ⟨f, xs, rfl⟩ : ∃ f xs, op = .call f xs := by cases op <;> first | (cases hc; done) | exact ⟨_, _, rfl⟩
          rcases h.run with ⟨h1, h2, h3⟩ | h1
          · refine .inl ⟨by rw [hal, evA_eq]; exact h1, h2, ?_⟩
            have : xs.map (·.ev (get al)) = evsA l xs := by rw [hal]; exact evsA_eq l xs
            simp only [this]
            exact hY _ _ _ _ (fun r hl' h4 => ih _ _ _ _ h4 _ (get_consO hal dst _)) h3
          · obtain ⟨fid, caps, T, r, W, h1, h2, h3, h4⟩ := h1.run
            exact .inr ⟨fid, caps, T, r, W, by rw [hal]; exact h1, by rw [hal]; exact h2, h3, ih _ _ _ _ h4 _ (get_consO hal dst r)⟩
        | false =>
          have h' : (match aopA op l hl with
            | none => False
            | some r => RunYX P Y cs (consO l dst r.v) (hsetL hl r.ups) st K) := by
            cases op <;> first | (cases hc; done) | exact h
          have e : aop op (get al) (hget hl) hl.length = aopA op l hl := by unfold aopA; rw [hal]
          have goal : (match aop op (get al) (hget hl) hl.length with
            | none => False
            | some r => RunY P Y cs (setO al dst r.v) (hsetL hl r.ups) st fun s' st' => ∃ l', get s'.al = get l' ∧ K l' s'.hl st') := by
            rw [e]
            cases hr : aopA op l hl with
            | none => rw [hr] at h'; exact h'.elim
            | some r => rw [hr] at h'; exact ih _ _ _ _ h' _ (get_consO hal dst r.v)
          cases op <;> first | (cases hc; done) | exact goal
structure CY (P : Program) (m0 : Nat) (Y : Hdl) (c : CCode) (s : St) (st : Option Exit) (K : Exit → St → Option Exit → Prop) : Prop where
  run : Y.Mono → YWp P m0 Y c s st K
structure CYx (P : Program) (m0 : Nat) (Y : Hdl) (c : CCode) (l : List (Nat × AV)) (hl : List Blk) (st : Option Exit) (K : Exit → St → Option Exit → Prop) : Prop where
  run : ∀ al, get al = get l → CY P m0 Y c ⟨al, hl⟩ st K
section
variable {P : Program} {m0 : Nat} {Y : Hdl} {K : Exit → St → Option Exit → Prop} {st : Option Exit}
theorem CY.seq {x y : CCode} {s : St} (h : CY P m0 Y x s st (ythenK K fun s' st' => CY P m0 Y y s' st' K)) : CY P m0 Y (.seq x y) s st K :=
  ⟨fun hY => YWp.mono hY x s st (fun e s' t h => by cases e <;> first | exact CY.run h hY | exact h) (h.run hY)⟩
theorem CYx.seq {x y : CCode} {l : List (Nat × AV)} {hl : List Blk} (h : CYx P m0 Y x l hl st (ythenK K fun s' st' => CY P m0 Y y s' st' K)) : CYx P m0 Y (.seq x y) l hl st K := ⟨fun al hal => CY.seq (h.run al hal)⟩
theorem CYx.block {id : Nat} {c : CCode} {l : List (Nat × AV)} {hl : List Blk} (h : CYx P m0 Y c l hl st (yblockK id K)) : CYx P m0 Y (.block id c) l hl st K := ⟨fun al hal => ⟨fun hY => (h.run al hal).run hY⟩⟩
theorem CYx.skip {l : List (Nat × AV)} {hl : List Blk} (h : ∀ al, get al = get l → K .normal ⟨al, hl⟩ st) : CYx P m0 Y .skip l hl st K := ⟨fun al hal => ⟨fun _ => h al hal⟩⟩
theorem CYx.exit {id : Nat} {l : List (Nat × AV)} {hl : List Blk} (h : ∀ al, get al = get l → K (.exit id) ⟨al, hl⟩ st) : CYx P m0 Y (.exit id) l hl st K := ⟨fun al hal => ⟨fun _ => h al hal⟩⟩
theorem CYx.ret {l : List (Nat × AV)} {hl : List Blk} (h : ∀ al, get al = get l → K .ret ⟨al, hl⟩ st) : CYx P m0 Y .ret l hl st K := ⟨fun al hal => ⟨fun _ => h al hal⟩⟩
theorem CYx.go {y : CCode} {l : List (Nat × AV)} {hl : List Blk} (h : CYx P m0 Y y l hl st K) : ∀ al, get al = get l → CY P m0 Y y ⟨al, hl⟩ st K := fun al hal => h.run al hal
theorem CYx.br {c : Opd} {x y : CCode} {l : List (Nat × AV)} {hl : List Blk} {b : Bool} (hc : evA l c = .bool b) (h1 : b = true → CYx P m0 Y x l hl st K) (h2 : b = false → CYx P m0 Y y l hl st K) : CYx P m0 Y (.cond c x y) l hl st K := ⟨fun al hal => ⟨fun hY => by
  have e : c.ev (get al) = .bool b := by rw [hal, evA_eq]; exact hc
  cases b with
  | true => simp only [YWp, e]; exact ((h1 rfl).run al hal).run hY
  | false => simp only [YWp, e]; exact ((h2 rfl).run al hal).run hY⟩⟩
theorem CYx.r {ops : List COp} {y : CCode} {l : List (Nat × AV)} {hl : List Blk} (h : ∀ K' : KY, (∀ l hl st, CYx P m0 Y y l hl st K → K' l hl st) → RYX P Y ops l hl st K') : CYx P m0 Y (.seq (.region false ops) y) l hl st K := ⟨fun al hal => ⟨fun hY => by
  have := RunYX.sound hY _ _ _ _ _ (h (fun l hl st => CYx P m0 Y y l hl st K) (fun l hl st h => h)).run al hal
  simp only [YWp, Bool.false_eq_true, if_false]
  exact RunY.mono hY _ _ _ _ (fun s t ⟨l', e, h1⟩ => (h1.run s.al e).run hY) this⟩⟩
theorem CYx.e {ops : List COp} {l : List (Nat × AV)} {hl : List Blk} (h : ∀ K' : KY, (∀ l hl st, (∀ al, get al = get l → K .normal ⟨al, hl⟩ st) → K' l hl st) → RYX P Y ops l hl st K') : CYx P m0 Y (.region false ops) l hl st K := ⟨fun al hal => ⟨fun hY => by
  have := RunYX.sound hY _ _ _ _ _ (h (fun l hl st => ∀ al, get al = get l → K .normal ⟨al, hl⟩ st) (fun l hl st h => h)).run al hal
  simp only [YWp, Bool.false_eq_true, if_false]
  exact RunY.mono hY _ _ _ _ (fun s t ⟨l', e, h1⟩ => h1 s.al e) this⟩⟩
/-- A loop in an iterator; what was yielded hasn't ended the loop outside. -/
theorem CYx.loopK {ι : Type} {c : CCode} {l : List (Nat × AV)} {hl : List Blk} (ks : List Nat) (μ : ι → Nat) (f : ι → List (Nat × AV)) (g : ι → List Blk) (Q : ι → Prop) {L : ι → List (Nat × AV)} (hL : ∀ i, f i ++ keepA l ks = L i)
    (i0 : ι) (hq : Q i0) (hs : Fgt m0 ⟨l, hl⟩ ⟨L i0, g i0⟩)
    (h : ∀ i, Q i → CYx P m0 Y c (L i) (g i) none (ythenK K fun s' st' => st' = none ∧ ∃ j, μ j < μ i ∧ Q j ∧ Fgt m0 s' ⟨L j, g j⟩)) : CYx P m0 Y (.loop c) l hl none K := ⟨fun al hal => ⟨fun hY => by
  intro X hX
  have hstep : ∀ i, Q i → (∀ j, μ j < μ i → Q j → ∀ s, Fgt m0 s ⟨L j, g j⟩ → X s none) → ∀ s, Fgt m0 s ⟨L i, g i⟩ → X s none := by
    intro i hq ih s hs
    obtain ⟨m, h0, h1, h2, h3⟩ := hs.ex
    refine hX s none (.inl ⟨m, L i, ⟨h0, h1, by rw [← h2]; exact h3⟩, ?_⟩)
    rw [← h2]
    refine YWp.mono hY _ _ _ (fun e s' t he => ?_) (((h i hq).run (L i) rfl).run hY)
    cases e <;> first | (obtain ⟨rfl, j, hj, hqj, hf⟩ := he; exact ih j hj hqj s' hf) | exact he
  have key : ∀ n i, μ i < n → Q i → ∀ s, Fgt m0 s ⟨L i, g i⟩ → X s none := by
    intro n
    induction n with
    | zero => intro i hi; omega
    | succ n ih => intro i hi hq s hs; exact hstep i hq (fun j hj hqj => ih j (by omega) hqj) s hs
  exact key (μ i0 + 1) i0 (Nat.lt_succ_self _) hq _ (Fgt.ofx hal hs)⟩⟩
end

section
variable {P : Program} {m0 : Nat} {K : Exit → St → Prop}
/-- The loop outside. -/
theorem CWx.range {f : Opd} {ps : List Nat} {x y : CCode} {l : List (Nat × AV)} {hl : List Blk} {fid : FuncId} {caps : List AV} {F : CFn} (hf : evA l f = .clo fid caps) (hF : compF P fid = some F) (hn : caps.length + 1 ≤ F.n)
    (h : ∀ al, get al = get l → ∀ Y, Y = Yh P al ps x y → CYx P hl.length Y F.code (argsAl 0 (.yld :: caps)) hl none (rangeK F.rvs hl.length al K)) : CWx P m0 true (.rangeF f ps x y) l hl K := ⟨fun al hal => ⟨by
  refine ⟨rfl, fid, caps, F, by rw [hal, evA_eq]; exact hf, hF, hn, ?_⟩
  exact ((h al hal _ rfl).run _ rfl).run (Yh.mono P al ps x y)⟩⟩
/-- A round of it. -/
theorem YCx.yield {al l0 : List (Nat × AV)} {ps : List Nat} {x y : CCode} {f : Opd} {xs : List Opd} {dst : Option Nat} {bef : Nat} {l : List (Nat × AV)} {hl : List Blk} {next : KY} (hal : get al = get l0) (hf : evA l f = .yld) {vs : List AV} (hv : evsA l xs = vs) (hlen : vs.length = ps.length)
    (h : CWx P hl.length false x (setPs l0 ps vs) hl fun e s1 => e = .normal ∧ CW P s1.hl.length false y s1 (bodyK fun res hl' => next (consO l dst (.bool res.isNone)) hl' res)) : YCx P (Yh P al ps x y) f xs dst bef l hl none next := ⟨.inl ⟨hf, rfl, by
  rw [hv]
  have hs : ∀ (ps : List Nat) (vs : List AV) (a b : List (Nat × AV)), get a = get b → get (setPs a ps vs) = get (setPs b ps vs) := by
    intro ps
    induction ps with
    | nil => intro vs a b h; exact h
    | cons p ps ih =>
      intro vs a b h
      cases vs with
      | nil => exact h
      | cons v vs => exact ih vs _ _ (by rw [get_set, get_set, h])
  refine ⟨hlen, CWp.mono _ _ _ _ (fun e s1 hh => ⟨hh.1, hh.2.run⟩) (h.run _ (hs ps vs al l0 hal)).run⟩⟩⟩
theorem YCx.call {Y : Hdl} {f : Opd} {xs : List Opd} {dst : Option Nat} {bef : Nat} {l : List (Nat × AV)} {hl : List Blk} {st : Option Exit} {next : KY} (h : RCx P f xs dst bef l hl [] fun l hl _ => next l hl st) : YCx P Y f xs dst bef l hl st next := ⟨.inr h⟩
/-- From the round's variables to its body. -/
theorem CWx.goY {tp : Bool} {y : CCode} {l : List (Nat × AV)} {hl : List Blk} {Q : Exit → St → Prop} (h : CWx P hl.length tp y l hl Q) : ∀ al, get al = get l → (Exit.normal = .normal ∧ CW P hl.length tp y ⟨al, hl⟩ Q) := fun al hal => ⟨rfl, h.run al hal⟩
end

def afterY (P : Program) (Y : Hdl) (cs : List COp) (op : AOp) (dst : Option Nat) (l : List (Nat × AV)) (hl : List Blk) (st : Option Exit) (K : KY) : Option Res → Prop
  | none => False
  | some r => RYX P Y cs (consO l dst r.v) (hsetL hl r.ups) st K
def gY (P : Program) (Y : Hdl) (v : AV) (w : Bool) (op : AOp) (dst : Option Nat) (bef : Nat) (cs : List COp) (l : List (Nat × AV)) (hl : List Blk) (st : Option Exit) (K : KY) : Prop :=
  match v with
  | .bool b => if b = w then RYX P Y (⟨op, dst, none, bef⟩ :: cs) l hl st K else RYX P Y cs (consO l dst (.tup [])) hl st K
  | .tup [] => RYX P Y cs (consO l dst (.tup [])) hl st K
  | _ => False
section
variable {P : Program} {Y : Hdl} {K : KY} (op : AOp) (dst : Option Nat) (bef : Nat) (cs : List COp) (l : List (Nat × AV)) (hl : List Blk) (st : Option Exit)
theorem afterY_some (v : AV) (W : List (Nat × Blk)) : afterY P Y cs op dst l hl st K (some ⟨v, W⟩) = RYX P Y cs (consO l dst v) (hsetL hl W) st K := rfl
theorem Y_end : RYX P Y [] l hl st K = K l hl st := by rw [RYX_eq]; rfl
theorem Y_cl (f : Opd) (xs : List Opd) : RYX P Y (⟨.call f xs, dst, none, bef⟩ :: cs) l hl st K = YCx P Y f xs dst bef l hl st fun l hl st => RYX P Y cs l hl st K := by simp only [RYX_eq]; rfl
theorem Y_g (d : Nat) (w : Bool) : RYX P Y (⟨op, dst, some (d, w), bef⟩ :: cs) l hl st K = gY P Y (get l d) w op dst bef cs l hl st K := by
  unfold gY
  simp only [RYX_eq, RunYX, wantedA]
  generalize get l d = v
  cases v <;> try rfl
  · rename_i b
    cases b <;> cases w <;> rfl
  · rename_i vs
    cases vs <;> rfl
theorem gY_tt : gY P Y (.bool true) true op dst bef cs l hl st K = RYX P Y (⟨op, dst, none, bef⟩ :: cs) l hl st K := rfl
theorem gY_ff : gY P Y (.bool false) false op dst bef cs l hl st K = RYX P Y (⟨op, dst, none, bef⟩ :: cs) l hl st K := rfl
theorem gY_tf : gY P Y (.bool true) false op dst bef cs l hl st K = RYX P Y cs (consO l dst (.tup [])) hl st K := rfl
theorem gY_ft : gY P Y (.bool false) true op dst bef cs l hl st K = RYX P Y cs (consO l dst (.tup [])) hl st K := rfl
theorem gY_no (w : Bool) : gY P Y (.tup []) w op dst bef cs l hl st K = RYX P Y cs (consO l dst (.tup [])) hl st K := rfl
theorem gY_split {b w : Bool} (h1 : b = true → gY P Y (.bool true) w op dst bef cs l hl st K) (h2 : b = false → gY P Y (.bool false) w op dst bef cs l hl st K) : gY P Y (.bool b) w op dst bef cs l hl st K := by
  cases b with
  | true => exact h1 rfl
  | false => exact h2 rfl
theorem Y_one (h : isCall op = false) : RYX P Y (⟨op, dst, none, bef⟩ :: cs) l hl st K = afterY P Y cs op dst l hl st K (aopA op l hl) := by
  cases op <;> first | (cases h; done) | skip
  all_goals
    rw [RYX_eq]
    simp only [RunYX, wantedA]
    unfold afterY
    simp only [RYX_eq]
    try rfl
end
section
variable {P : Program} {Y : Hdl} {K : KY} (dst : Option Nat) (bef : Nat) (cs : List COp) (l : List (Nat × AV)) (hl : List Blk) (st : Option Exit)
theorem Y_mv (x : Opd) : RYX P Y (⟨.mv x, dst, none, bef⟩ :: cs) l hl st K = afterY P Y cs (.mv x) dst l hl st K (aopA (.mv x) l hl) := Y_one _ dst bef cs l hl st rfl
theorem Y_smv (x : Opd) : RYX P Y (⟨.smv x, dst, none, bef⟩ :: cs) l hl st K = afterY P Y cs (.smv x) dst l hl st K (aopA (.smv x) l hl) := Y_one _ dst bef cs l hl st rfl
theorem Y_newnil (sz : Nat) : RYX P Y (⟨.newnil sz, dst, none, bef⟩ :: cs) l hl st K = afterY P Y cs (.newnil sz) dst l hl st K (aopA (.newnil sz) l hl) := Y_one _ dst bef cs l hl st rfl
theorem Y_pick (c : Opd) (a : Opd) (b : Opd) : RYX P Y (⟨.pick c a b, dst, none, bef⟩ :: cs) l hl st K = afterY P Y cs (.pick c a b) dst l hl st K (aopA (.pick c a b) l hl) := Y_one _ dst bef cs l hl st rfl
theorem Y_alloc (z : AV) : RYX P Y (⟨.alloc z, dst, none, bef⟩ :: cs) l hl st K = afterY P Y cs (.alloc z) dst l hl st K (aopA (.alloc z) l hl) := Y_one _ dst bef cs l hl st rfl
theorem Y_box (x : Opd) : RYX P Y (⟨.box x, dst, none, bef⟩ :: cs) l hl st K = afterY P Y cs (.box x) dst l hl st K (aopA (.box x) l hl) := Y_one _ dst bef cs l hl st rfl
theorem Y_build (z : List AV) (ps : List (Nat × Nat × Opd)) : RYX P Y (⟨.build z ps, dst, none, bef⟩ :: cs) l hl st K = afterY P Y cs (.build z ps) dst l hl st K (aopA (.build z ps) l hl) := Y_one _ dst bef cs l hl st rfl
theorem Y_bsl (sz : Nat) (xs : List Opd) : RYX P Y (⟨.bsl sz xs, dst, none, bef⟩ :: cs) l hl st K = afterY P Y cs (.bsl sz xs) dst l hl st K (aopA (.bsl sz xs) l hl) := Y_one _ dst bef cs l hl st rfl
theorem Y_load (agg : Bool) (sz : Nat) (x : Opd) : RYX P Y (⟨.load agg sz x, dst, none, bef⟩ :: cs) l hl st K = afterY P Y cs (.load agg sz x) dst l hl st K (aopA (.load agg sz x) l hl) := Y_one _ dst bef cs l hl st rfl
theorem Y_store (sz : Nat) (x : Opd) (v : Opd) : RYX P Y (⟨.store sz x v, dst, none, bef⟩ :: cs) l hl st K = afterY P Y cs (.store sz x v) dst l hl st K (aopA (.store sz x v) l hl) := Y_one _ dst bef cs l hl st rfl
theorem Y_nchk (x : Opd) : RYX P Y (⟨.nchk x, dst, none, bef⟩ :: cs) l hl st K = afterY P Y cs (.nchk x) dst l hl st K (aopA (.nchk x) l hl) := Y_one _ dst bef cs l hl st rfl
theorem Y_bin (o : BinOp) (x : Opd) (y : Opd) : RYX P Y (⟨.bin o x y, dst, none, bef⟩ :: cs) l hl st K = afterY P Y cs (.bin o x y) dst l hl st K (aopA (.bin o x y) l hl) := Y_one _ dst bef cs l hl st rfl
theorem Y_eqv (neg : Bool) (agg : Bool) (ks : List SK) (x : Opd) (y : Opd) : RYX P Y (⟨.eqv neg agg ks x y, dst, none, bef⟩ :: cs) l hl st K = afterY P Y cs (.eqv neg agg ks x y) dst l hl st K (aopA (.eqv neg agg ks x y) l hl) := Y_one _ dst bef cs l hl st rfl
theorem Y_neg (x : Opd) : RYX P Y (⟨.neg x, dst, none, bef⟩ :: cs) l hl st K = afterY P Y cs (.neg x) dst l hl st K (aopA (.neg x) l hl) := Y_one _ dst bef cs l hl st rfl
theorem Y_not (x : Opd) : RYX P Y (⟨.not x, dst, none, bef⟩ :: cs) l hl st K = afterY P Y cs (.not x) dst l hl st K (aopA (.not x) l hl) := Y_one _ dst bef cs l hl st rfl
theorem Y_conv (k : IntKind) (x : Opd) : RYX P Y (⟨.conv k x, dst, none, bef⟩ :: cs) l hl st K = afterY P Y cs (.conv k x) dst l hl st K (aopA (.conv k x) l hl) := Y_one _ dst bef cs l hl st rfl
theorem Y_ext (x : Opd) (i : Nat) : RYX P Y (⟨.ext x i, dst, none, bef⟩ :: cs) l hl st K = afterY P Y cs (.ext x i) dst l hl st K (aopA (.ext x i) l hl) := Y_one _ dst bef cs l hl st rfl
theorem Y_faddr (x : Opd) (off : Nat) : RYX P Y (⟨.faddr x off, dst, none, bef⟩ :: cs) l hl st K = afterY P Y cs (.faddr x off) dst l hl st K (aopA (.faddr x off) l hl) := Y_one _ dst bef cs l hl st rfl
theorem Y_fld (x : Opd) (off : Nat) (agg : Bool) (sz : Nat) : RYX P Y (⟨.fld x off agg sz, dst, none, bef⟩ :: cs) l hl st K = afterY P Y cs (.fld x off agg sz) dst l hl st K (aopA (.fld x off agg sz) l hl) := Y_one _ dst bef cs l hl st rfl
theorem Y_iaddr (sz : Nat) (x : Opd) (i : Opd) : RYX P Y (⟨.iaddr sz x i, dst, none, bef⟩ :: cs) l hl st K = afterY P Y cs (.iaddr sz x i) dst l hl st K (aopA (.iaddr sz x i) l hl) := Y_one _ dst bef cs l hl st rfl
theorem Y_iaddrA (n : Nat) (sz : Nat) (x : Opd) (i : Opd) : RYX P Y (⟨.iaddrA n sz x i, dst, none, bef⟩ :: cs) l hl st K = afterY P Y cs (.iaddrA n sz x i) dst l hl st K (aopA (.iaddrA n sz x i) l hl) := Y_one _ dst bef cs l hl st rfl
theorem Y_idxA (n : Nat) (sz : Nat) (agg : Bool) (x : Opd) (i : Opd) : RYX P Y (⟨.idxA n sz agg x i, dst, none, bef⟩ :: cs) l hl st K = afterY P Y cs (.idxA n sz agg x i) dst l hl st K (aopA (.idxA n sz agg x i) l hl) := Y_one _ dst bef cs l hl st rfl
theorem Y_slc (sz : Nat) (x : Opd) (lo : Option Opd) (hi : Option Opd) : RYX P Y (⟨.slc sz x lo hi, dst, none, bef⟩ :: cs) l hl st K = afterY P Y cs (.slc sz x lo hi) dst l hl st K (aopA (.slc sz x lo hi) l hl) := Y_one _ dst bef cs l hl st rfl
theorem Y_mks (sz : Nat) (b : Nat) (z : AV) (n : Opd) : RYX P Y (⟨.mks sz b z n, dst, none, bef⟩ :: cs) l hl st K = afterY P Y cs (.mks sz b z n) dst l hl st K (aopA (.mks sz b z n) l hl) := Y_one _ dst bef cs l hl st rfl
theorem Y_mkf (f : FuncId) (caps : List Opd) : RYX P Y (⟨.mkf f caps, dst, none, bef⟩ :: cs) l hl st K = afterY P Y cs (.mkf f caps) dst l hl st K (aopA (.mkf f caps) l hl) := Y_one _ dst bef cs l hl st rfl
theorem Y_len (x : Opd) : RYX P Y (⟨.len x, dst, none, bef⟩ :: cs) l hl st K = afterY P Y cs (.len x) dst l hl st K (aopA (.len x) l hl) := Y_one _ dst bef cs l hl st rfl
theorem Y_lenS (x : Opd) : RYX P Y (⟨.lenS x, dst, none, bef⟩ :: cs) l hl st K = afterY P Y cs (.lenS x) dst l hl st K (aopA (.lenS x) l hl) := Y_one _ dst bef cs l hl st rfl
theorem Y_lenC (n : Nat) : RYX P Y (⟨.lenC n, dst, none, bef⟩ :: cs) l hl st K = afterY P Y cs (.lenC n) dst l hl st K (aopA (.lenC n) l hl) := Y_one _ dst bef cs l hl st rfl
theorem Y_append (sz : Nat) (b : Nat) (x : Opd) (y : Opd) : RYX P Y (⟨.append sz b x y, dst, none, bef⟩ :: cs) l hl st K = afterY P Y cs (.append sz b x y) dst l hl st K (aopA (.append sz b x y) l hl) := Y_one _ dst bef cs l hl st rfl
theorem Y_idxS (x i : Opd) : RYX P Y (⟨.idxS x i, dst, none, bef⟩ :: cs) l hl st K = afterY P Y cs (.idxS x i) dst l hl st K (aopA (.idxS x i) l hl) := Y_one _ dst bef cs l hl st rfl
theorem Y_slcM (sz : Nat) (x hi mx : Opd) : RYX P Y (⟨.slcM sz x hi mx, dst, none, bef⟩ :: cs) l hl st K = afterY P Y cs (.slcM sz x hi mx) dst l hl st K (aopA (.slcM sz x hi mx) l hl) := Y_one _ dst bef cs l hl st rfl
theorem Y_clear (sz : Nat) (z : AV) (x : Opd) : RYX P Y (⟨.clear sz z x, dst, none, bef⟩ :: cs) l hl st K = afterY P Y cs (.clear sz z x) dst l hl st K (aopA (.clear sz z x) l hl) := Y_one _ dst bef cs l hl st rfl
theorem Y_mx (xs : List Opd) : RYX P Y (⟨.mx xs, dst, none, bef⟩ :: cs) l hl st K = afterY P Y cs (.mx xs) dst l hl st K (aopA (.mx xs) l hl) := Y_one _ dst bef cs l hl st rfl
theorem Y_mn (xs : List Opd) : RYX P Y (⟨.mn xs, dst, none, bef⟩ :: cs) l hl st K = afterY P Y cs (.mn xs) dst l hl st K (aopA (.mn xs) l hl) := Y_one _ dst bef cs l hl st rfl
end
/-- The end of an iterator. -/
theorem rangeEndN {K : Exit → St → Prop} {rvs : List RV} {n0 : Nat} {al al2 l0 : List (Nat × AV)} {hl H : List Blk} {e : Exit} (he : e = .normal ∨ e = .ret) (hr : (resRV al2 hl rvs).isSome = true) (hH : hl.take n0 = H) (hlt : ltB n0 H) (hal : get al = get l0) (h : ∀ al, get al = get l0 → K .normal ⟨al, H⟩) : rangeK rvs n0 al K e ⟨al2, hl⟩ none :=
  ⟨he, hr, .inl rfl, n0, Nat.le_refl _, by rw [hH]; exact ltB_mem hlt, by rw [hH]; exact h al hal⟩
theorem rangeEndR {K : Exit → St → Prop} {rvs : List RV} {n0 : Nat} {al al2 l0 : List (Nat × AV)} {hl H : List Blk} {e : Exit} (he : e = .normal ∨ e = .ret) (hr : (resRV al2 hl rvs).isSome = true) (hH : hl.take n0 = H) (hlt : ltB n0 H) (hal : get al = get l0) (h : ∀ al, get al = get l0 → K .ret ⟨al, H⟩) : rangeK rvs n0 al K e ⟨al2, hl⟩ (some .ret) :=
  ⟨he, hr, .inr (.inl rfl), n0, Nat.le_refl _, by rw [hH]; exact ltB_mem hlt, by rw [hH]; exact h al hal⟩
theorem rangeEndX {K : Exit → St → Prop} {rvs : List RV} {n0 id : Nat} {al al2 l0 : List (Nat × AV)} {hl H : List Blk} {e : Exit} (he : e = .normal ∨ e = .ret) (hr : (resRV al2 hl rvs).isSome = true) (hH : hl.take n0 = H) (hlt : ltB n0 H) (hal : get al = get l0) (h : ∀ al, get al = get l0 → K (.exit id) ⟨al, H⟩) : rangeK rvs n0 al K e ⟨al2, hl⟩ (some (.exit id)) :=
  ⟨he, hr, .inr (.inr ⟨id, rfl⟩), n0, Nat.le_refl _, by rw [hH]; exact ltB_mem hlt, by rw [hH]; exact h al hal⟩
/-- A round of it, with its variables told. -/
theorem YCx.yieldL {P : Program} {Y : Hdl} {al l0 L' : List (Nat × AV)} {ps : List Nat} {x y : CCode} {f : Opd} {xs : List Opd} {dst : Option Nat} {bef : Nat} {l : List (Nat × AV)} {hl : List Blk} {next : KY} (hY : Y = Yh P al ps x y) (hal : get al = get l0) (hf : evA l f = .yld) {vs : List AV} (hv : evsA l xs = vs) (hlen : vs.length = ps.length) (hL : setPs l0 ps vs = L')
    (h : CWx P hl.length false x L' hl fun e s1 => e = .normal ∧ CW P s1.hl.length false y s1 (bodyK fun res hl' => next (consO l dst (.bool res.isNone)) hl' res)) : YCx P Y f xs dst bef l hl none next := by
  subst hY
  exact YCx.yield hal hf hv hlen (by rw [hL]; exact h)
def drY := And.intro @Y_end (And.intro @Y_cl (And.intro @Y_g (And.intro @afterY_some (And.intro @gY_tt (And.intro @gY_ff (And.intro @gY_tf (And.intro @gY_ft (And.intro @gY_no (And.intro @Y_mv (And.intro @Y_smv (And.intro @Y_newnil (And.intro @Y_pick (And.intro @Y_alloc (And.intro @Y_box (And.intro @Y_build (And.intro @Y_bsl (And.intro @Y_load (And.intro @Y_store (And.intro @Y_nchk (And.intro @Y_bin (And.intro @Y_eqv (And.intro @Y_neg (And.intro @Y_not (And.intro @Y_conv (And.intro @Y_ext (And.intro @Y_faddr (And.intro @Y_fld (And.intro @Y_iaddr (And.intro @Y_iaddrA (And.intro @Y_idxA (And.intro @Y_slc (And.intro @Y_mks (And.intro @Y_mkf (And.intro @Y_len (And.intro @Y_lenS (And.intro @Y_lenC (And.intro @Y_append (And.intro @Y_idxS (And.intro @Y_slcM (And.intro @Y_clear (And.intro @Y_mx (@Y_mn))))))))))))))))))))))))))))))))))))))))))
end Go.Am
end
section
set_option linter.unusedSimpArgs false
set_option linter.unusedVariables false
namespace Go.Am
open Go Go.RowKit

/-- The same, all arguments being plain: what is handed back may hold memory that is only read. -/
theorem RCx.plainRs {P : Program} {f : Opd} {xs : List Opd} {dst : Option Nat} {bef : Nat} {l : List (Nat × AV)} {hl : List Blk} {tr : Tr} {next : List (Nat × AV) → List Blk → Tr → Prop}
    {fid : FuncId} {caps : List AV} (hf : evA l f = .clo fid caps) {args : List AV} (hX : evsA l xs ++ caps = args) (hlt : ltL 0 args = true) {r : AV} {bs : List Blk} (hC : CallsF P fid args [] r bs)
    (hW : (okW hl.length (frW (fun b => hl.length + b) 0 bs) && (frW (fun b => hl.length + b) 0 bs).all (fun p => (upFrom hl.length bs.length).contains p.1)) = true)
    (h : next (consO l dst (r.ren (fun b => hl.length + b))) (hsetL hl (frW (fun b => hl.length + b) 0 bs)) ((upFrom hl.length bs.length, (frW (fun b => hl.length + b) 0 bs).map Prod.fst, bef) :: tr)) : RCx P f xs dst bef l hl tr next := by
  have hs : sigma [] hl.length = fun b => hl.length + b := by funext b; simp [sigma]
  refine ⟨fid, caps, upFrom hl.length bs.length, r.ren (fun b => hl.length + b), frW (fun b => hl.length + b) 0 bs, by rw [evA_eq]; exact hf, ?_, hW, h⟩
  have := CallsF.frame false hC (h := hget hl) (T := upFrom hl.length bs.length) (names := []) (n := hl.length) ⟨rfl, Nat.zero_le _, List.nodup_nil, fun x hx => (by cases hx), fun i x hx => (by simp at hx), fun b hb _ => hget_dead _ _ hb, fun b hb => (by cases hb)⟩ (fun x hx => (by cases hx))
    (fun b hb1 hb2 => mem_upFrom _ _ _ hb1 (by simpa using hb2)) rfl (fun i Y y hY hy => by rw [hY] at hy; cases hy; exact .plain (ltL_mem hlt Y (List.mem_of_getElem? hY))) (fun h => by cases h)
  rw [hs] at this
  rw [evsA_eq, hX]
  exact this
/-- Several new rows are handed back. -/
theorem finK_news {rvs : List RV} {r : AV} {e : Exit} {s : St} {xs : List AV} (sg : List (Nat × Nat)) {bs : List Blk} (he : e = .normal ∨ e = .ret) (hr : resRV s.al s.hl rvs = some xs)
    (hx : exOk 0 sg s.hl (tupAV xs) = true) (hrx : (tupAV xs).mapR (sigF 0 sg) = r) (hb : exHl 0 sg s.hl = bs) : finK rvs 0 r bs e s :=
  ⟨he, xs, sg, hr, exOk_spec hx, hrx, hb⟩
end Go.Am
end
section
set_option linter.unusedSimpArgs false
set_option linter.unusedVariables false
set_option maxHeartbeats 4000000
namespace Go.Hull
open Go Go.Am Go.Proofs

theorem c26 {u v : Pt} (hu : smallV u) (hv : smallV v) : CallsF Try.prog 26 [pt u, pt v] [] (.int .i64 (dot u v)) [] := by
  obtain ⟨⟨a1, a2⟩, a3, a4⟩ := hu
  obtain ⟨⟨b1, b2⟩, b3, b4⟩ := hv
  have m1 := mul_bd a1 a2 b1 b2
  have m2 := mul_bd a3 a4 b3 b4
  refine callsF_cwx hm hf26 (by simp [cf26]) ?_
  simp only [cf26, argsAl]
  repeat' first
    | (refine hK _ _ _ (by first | exact fun h => Bool.noConfusion h | exact fun _ => rfl) ?_; clear hK K)
    | (refine CWx.r fun K hK => ?_; simp (maxSteps := 4000000) (disch := omega) only [dr0, dr1, dr2, dr3, dr4, if_true, if_false, Option.some.injEq, Nat.reduceEqDiff, Int.reduceToNat, Nat.reduceSub, Nat.reduceAdd, Nat.reduceMul, Nat.reduceLT, Nat.reduceLeDiff, reduceCtorEq, ↓reduceIte, catT, enc0, enc1, if_pos, if_neg])
    | refine CWx.go ?_
    | (refine gX_split (fun hb => ?_) (fun hb => ?_) <;> (try simp only [hb]) <;> (try simp only [bset0, reduceCtorEq] at hb) <;> simp (maxSteps := 4000000) (disch := omega) only [dr0, dr1, dr2, dr3, dr4, if_true, if_false, Option.some.injEq, Nat.reduceEqDiff, Int.reduceToNat, Nat.reduceSub, Nat.reduceAdd, Nat.reduceMul, Nat.reduceLT, Nat.reduceLeDiff, reduceCtorEq, ↓reduceIte, catT, enc0, enc1, if_pos, if_neg])
    | (refine CWx.br rfl (fun hb => ?_) (fun hb => ?_) <;> first | exact Bool.noConfusion hb | (first | (simp only [bset0, reduceCtorEq] at hb; done) | ((try simp only [bset0, reduceCtorEq] at hb); first | contradiction | skip)))
    | (refine CWx.e fun K hK => ?_; simp (maxSteps := 4000000) (disch := omega) only [dr0, dr1, dr2, dr3, dr4, if_true, if_false, Option.some.injEq, Nat.reduceEqDiff, Int.reduceToNat, Nat.reduceSub, Nat.reduceAdd, Nat.reduceMul, Nat.reduceLT, Nat.reduceLeDiff, reduceCtorEq, ↓reduceIte, catT, enc0, enc1, if_pos, if_neg])
    | refine CWx.seq ?_
    | refine CWx.skip ?_
    | refine CWx.exit ?_
    | (refine CWx.ret fun al hal => finK_ext hal (finK_pure (.inr rfl) (by simp only [resRV, Am.get, Nat.reduceEqDiff, ↓reduceIte]; exact rfl) ?_ ?_); (focus (first | (rfl; done) | ((simp only [tupAV]; congr <;> omega); done) | (simp [tupAV, *]; done))); (focus (first | rfl | (simp [AV.allR, allRL, allRL_ix]; done))))
theorem dot_bd {u v : Pt} (hu : smallV u) (hv : smallV v) : -80000000000 ≤ dot u v ∧ dot u v ≤ 80000000000 := by
  obtain ⟨⟨a1, a2⟩, a3, a4⟩ := hu
  obtain ⟨⟨b1, b2⟩, b3, b4⟩ := hv
  have m1 := mul_bd a1 a2 b1 b2
  have m2 := mul_bd a3 a4 b3 b4
  simp only [dot]
  omega
theorem top_bd {l : List Pt} {d : Pt} (hl : 0 < l.length) (hs : ∀ p ∈ l, smallV p) (hd : smallV d) : ∀ i, i ≤ l.length → -80000000000 ≤ topN l d i ∧ topN l d i ≤ 80000000000 := by
  intro i
  induction i with
  | zero => intro _; exact dot_bd (hs _ (P_mem hl)) hd
  | succ i ih =>
    intro h
    have h1 := ih (by omega)
    have h2 := dot_bd (hs _ (P_mem (show i < l.length by omega))) hd
    simp only [topN, maxI]
    split <;> omega
theorem neg_small {d : Pt} (hd : smallV d) : smallV (neg d) := by simp only [smallV, neg] at *; omega
/-- Does a direction separate? -/
def spl (a b : List Pt) (d : Pt) : Bool := decide (topN a d a.length < -(topN b (neg d) b.length))
def nrm (p q : Pt) : List Pt := [(-(sub q p).2, (sub q p).1), ((sub q p).2, -(sub q p).1)]
/-- Both normals, as an array. -/
def quad (d : Pt) : AV := .agg [.int .i64 (-d.2), .int .i64 d.1, .int .i64 d.2, .int .i64 (-d.1)]
theorem c95 {p q : Pt} (hp : okP p = true) (hq : okP q = true) : CallsF Try.prog 95 [pt p, pt q] [] (quad (sub q p)) [] := by
  have hs := sub_small hq hp
  have k := c57' hq hp
  obtain ⟨d, hd⟩ : ∃ d, d = sub q p := ⟨_, rfl⟩
  rw [← hd] at hs k ⊢
  simp only [smallV] at hs
  refine callsF_cwx hm hf95 (by simp [cf95]) ?_
  simp only [cf95, argsAl]
  repeat' first
    | (refine hK _ _ _ (by first | exact fun h => Bool.noConfusion h | exact fun _ => rfl) ?_; clear hK K)
    | (refine CWx.r fun K hK => ?_; simp (maxSteps := 4000000) (disch := omega) only [dr0, dr1, dr2, dr3, dr4, if_true, if_false, Option.some.injEq, Nat.reduceEqDiff, Int.reduceToNat, Nat.reduceSub, Nat.reduceAdd, Nat.reduceMul, Nat.reduceLT, Nat.reduceLeDiff, reduceCtorEq, ↓reduceIte, catT, enc0, enc1, if_pos, if_neg, Int.zero_sub])
    | refine CWx.go ?_
    | (apply RCx.view (fid := 57) (caps := []) rfl rfl; (focus ((simp only [evsA, evA_t, evA_c, Am.get, Nat.reduceEqDiff, ↓reduceIte, List.nil_append, List.cons_append, List.append_nil]; repeat' first | exact viewArgs_nil | apply viewArgs_cons | exact viewG_flat (flat_pts _ _) _ | exact viewG_flat (flat_ixV _ _) _ | exact viewG_flat (flat_sv _ _) _ | exact viewG_ixT rfl (by assumption) (by omega) | exact viewG_ptsL rfl (by first | omega | (simp; done) | (simp; omega)) | exact viewG_ix rfl (by first | omega | (simp; omega)) | exact viewG_flat rfl _; done))); (focus (refine k <;> first | omega | assumption)); (focus rfl); simp (maxSteps := 4000000) (disch := omega) only [dr0, dr1, dr2, dr3, dr4, if_true, if_false, Option.some.injEq, Nat.reduceEqDiff, Int.reduceToNat, Nat.reduceSub, Nat.reduceAdd, Nat.reduceMul, Nat.reduceLT, Nat.reduceLeDiff, reduceCtorEq, ↓reduceIte, catT, enc0, enc1, if_pos, if_neg, Int.zero_sub])
    | (refine gX_split (fun hb => ?_) (fun hb => ?_) <;> (try simp only [hb]) <;> (try simp only [bset0, reduceCtorEq] at hb) <;> simp (maxSteps := 4000000) (disch := omega) only [dr0, dr1, dr2, dr3, dr4, if_true, if_false, Option.some.injEq, Nat.reduceEqDiff, Int.reduceToNat, Nat.reduceSub, Nat.reduceAdd, Nat.reduceMul, Nat.reduceLT, Nat.reduceLeDiff, reduceCtorEq, ↓reduceIte, catT, enc0, enc1, if_pos, if_neg, Int.zero_sub])
    | (refine CWx.br rfl (fun hb => ?_) (fun hb => ?_) <;> first | exact Bool.noConfusion hb | (first | (simp only [bset0, reduceCtorEq] at hb; done) | ((try simp only [bset0, reduceCtorEq] at hb); first | contradiction | skip)))
    | (refine CWx.e fun K hK => ?_; simp (maxSteps := 4000000) (disch := omega) only [dr0, dr1, dr2, dr3, dr4, if_true, if_false, Option.some.injEq, Nat.reduceEqDiff, Int.reduceToNat, Nat.reduceSub, Nat.reduceAdd, Nat.reduceMul, Nat.reduceLT, Nat.reduceLeDiff, reduceCtorEq, ↓reduceIte, catT, enc0, enc1, if_pos, if_neg, Int.zero_sub])
    | refine CWx.seq ?_
    | refine CWx.skip ?_
    | refine CWx.exit ?_
    | (refine CWx.ret fun al hal => finK_ext hal (finK_pure (.inr rfl) (by simp only [resRV, Am.get, Nat.reduceEqDiff, ↓reduceIte]; exact rfl) ?_ ?_); (focus (first | (rfl; done) | ((simp only [tupAV]; congr <;> omega); done) | (simp [tupAV, *]; done))); (focus (first | rfl | (simp [AV.allR, allRL, allRL_ix]; done))))
end Go.Hull
end
section
set_option linter.unusedSimpArgs false
set_option linter.unusedVariables false
set_option maxHeartbeats 4000000
set_option maxRecDepth 100000
namespace Go.Hull
open Go Go.Am Go.Proofs

def wA (a b : List Pt) (i : Nat) : List Pt := (a.take i).flatMap fun p => b.map fun q => sub q p
def wI (a b : List Pt) (i j : Nat) : List Pt := wA a b i ++ (b.take j).map fun q => sub q (P a i)
def LL (a b : List Pt) : Nat → List Pt
  | 0 => a
  | _ + 1 => b
/-- The pairs of the point i with the j that follow. -/
def wN1 (l : List Pt) (i : Nat) : Nat → List Pt
  | 0 => []
  | j + 1 => wN1 l i j ++ nrm (P l i) (P l (i + 1 + j))
def wN (l : List Pt) : Nat → List Pt
  | 0 => []
  | i + 1 => wN l i ++ wN1 l i (l.length - (i + 1))
def wP (a b : List Pt) : Nat → List Pt
  | 0 => wA a b a.length
  | m + 1 => wP a b m ++ wN (LL a b m) (LL a b m).length
def wPN (a b : List Pt) (m i : Nat) : List Pt := wP a b m ++ wN (LL a b m) i
def wPI (a b : List Pt) (m i k : Nat) : List Pt := wPN a b m i ++ wN1 (LL a b m) i (k - (i + 1))
def waysI (a b : List Pt) : List Pt := wP a b 2
theorem take_succP (l : List Pt) {i : Nat} (h : i < l.length) : l.take (i + 1) = l.take i ++ [P l i] := by
  rw [List.take_add_one, List.getElem?_eq_getElem h]
  simp only [P, Option.toList_some, List.getD_eq_getElem?_getD, List.getElem?_eq_getElem h, Option.getD_some]
theorem wA_zero (a b : List Pt) : wA a b 0 = [] := rfl
theorem wI_zero (a b : List Pt) (i : Nat) : wI a b i 0 = wA a b i := by simp [wI]
theorem wI_succ (a b : List Pt) (i j : Nat) (h : j < b.length) : wI a b i (j + 1) = wI a b i j ++ [sub (P b j) (P a i)] := by
  simp only [wI, take_succP b h, List.map_append, List.map_cons, List.map_nil, List.append_assoc]
theorem wA_succ (a b : List Pt) (i : Nat) (h : i < a.length) : wA a b (i + 1) = wI a b i b.length := by
  unfold wA wI wA
  rw [take_succP a h, List.flatMap_append, List.take_of_length_le (Nat.le_refl _)]
  simp
theorem wP_zero (a b : List Pt) : wP a b 0 = wA a b a.length := rfl
theorem wPN_zero (a b : List Pt) (m : Nat) : wPN a b m 0 = wP a b m := by simp [wPN, wN]
theorem wP_succ (a b : List Pt) (m : Nat) : wP a b (m + 1) = wPN a b m (LL a b m).length := rfl
theorem wPI_zero (a b : List Pt) (m i : Nat) : wPI a b m i (i + 1) = wPN a b m i := by simp [wPI, wN1]
theorem wPI_succ (a b : List Pt) (m i k : Nat) (h : i + 1 ≤ k) : wPI a b m i (k + 1) = wPI a b m i k ++ nrm (P (LL a b m) i) (P (LL a b m) k) := by
  unfold wPI
  rw [show k + 1 - (i + 1) = (k - (i + 1)) + 1 by omega, wN1, List.append_assoc, show i + 1 + (k - (i + 1)) = k by omega]
theorem wPN_succ (a b : List Pt) (m i : Nat) : wPN a b m (i + 1) = wPI a b m i (LL a b m).length := by
  simp only [wPN, wPI, wN, List.append_assoc]
theorem llg (a b : List Pt) (m : Nat) (h : m < 2) : [pts a, pts b][m]? = some (pts (LL a b m)) := by
  match m, h with
  | 0, _ => rfl
  | 1, _ => rfl
theorem allRL_pts (l : List Pt) (p : Nat → Nat → Bool) (q : Bool) : allRL p q (l.map pt) = true := by
  induction l with
  | nil => rfl
  | cons x xs ih => simp only [List.map_cons, allRL, ih, Bool.and_true]; rfl
theorem LL_len {a b : List Pt} (ha : a.length ≤ 8) (hb : b.length ≤ 8) (m : Nat) : (LL a b m).length ≤ 8 := by
  cases m <;> simp only [LL] <;> assumption
theorem LL_ok {a b : List Pt} (ha : a.all okP = true) (hb : b.all okP = true) (m : Nat) : ∀ k, k < (LL a b m).length → okP (P (LL a b m) k) = true := by
  intro k hk
  cases m with
  | zero => exact all_ok ha hk
  | succ m => exact all_ok hb hk
end Go.Hull
end
section
set_option linter.unusedSimpArgs false
set_option linter.unusedVariables false
set_option maxHeartbeats 4000000
namespace Go.Hull
open Go Go.Am Go.Proofs

theorem lp_dot {w z : Pt} (hw : Lp w) (hz : Lp z) (h : turn w z = 0) : 0 ≤ dot w z := by
  obtain ⟨a, b⟩ := w
  obtain ⟨c, d⟩ := z
  simp only [Lp, turn, dot] at *
  by_cases ha : a = 0
  · subst ha
    have hb : 0 < b := by omega
    have hc : c = 0 := by
      have : b * c = 0 := by omega
      rcases Int.mul_eq_zero.1 this with h | h <;> omega
    subst hc
    have hd : 0 < d := by omega
    have := Int.mul_pos hb hd
    omega
  · have ha' : 0 < a := by omega
    by_cases hc : c = 0
    · subst hc
      have hd : 0 < d := by omega
      have : 0 < a * d := Int.mul_pos ha' hd
      omega
    · have hc' : 0 < c := by omega
      have hac := Int.mul_pos ha' hc'
      have e : (a * c) * (b * d) = (a * d) * (a * d) := by
        have : b * c = a * d := by omega
        grind
      have h1 : 0 ≤ (a * d) * (a * d) := by
        rcases Int.le_total 0 (a * d) with h | h
        · exact Int.mul_nonneg h h
        · exact Int.mul_nonneg_of_nonpos_of_nonpos h h
      have h2 : 0 ≤ b * d := Int.nonneg_of_mul_nonneg_right (by rw [e]; exact h1) hac
      omega
/-- A point of a segment. -/
theorem seg_dot {a b p : Pt} (h1 : left a b p = 0) (h2 : before p a = false) (h3 : before b p = false) : dot (sub a p) (sub b p) ≤ 0 := by
  rcases before_false h2 with e | ha
  · subst e
    simp [dot, sub]
  · rcases before_false h3 with e | hb
    · subst e; simp [dot, sub]
    · have := lp_dot (before_iff.1 ha) (before_iff.1 hb) (by
        have : turn (sub p a) (sub b p) = - left a b p := by simp only [left, turn, sub]; grind
        rw [this, h1]; rfl)
      have e : dot (sub a p) (sub b p) = - dot (sub p a) (sub b p) := by simp only [dot, sub]; grind
      omega
end Go.Hull
end
section
set_option linter.unusedVariables false
namespace Go.Hull

/-- An affine form. -/
def aff (A B C : Int) (p : Pt) : Int := A * p.1 + B * p.2 + C
theorem left_aff (a b q : Pt) : left a b q = aff (a.2 - b.2) (b.1 - a.1) (a.1 * b.2 - a.2 * b.1) q := by
  simp only [left, turn, sub, aff]; grind
theorem aff_neg (A B C : Int) (q : Pt) : - aff A B C q = aff (-A) (-B) (-C) q := by simp only [aff]; grind
theorem aff_add (A B C A' B' C' : Int) (q : Pt) : aff A B C q + aff A' B' C' q = aff (A + A') (B + B') (C + C') q := by simp only [aff]; grind
def betw (p a b : Pt) : Bool := decide (left a b p = 0) && decide (dot (sub a p) (sub b p) ≤ 0)
def sgn (n : Int) : Int := if n < 0 then -1 else if 0 < n then 1 else 0
def inTri (p a b c : Pt) : Bool := decide (left a b c ≠ 0) && ((decide (0 ≤ left a b p) && (decide (0 ≤ left b c p) && decide (0 ≤ left c a p))) || (decide (left a b p ≤ 0) && (decide (left b c p ≤ 0) && decide (left c a p ≤ 0))))
/-- In the hull of a set of points. -/
def InP (D : Pt → Prop) (p : Pt) : Prop := D p ∨ (∃ a b, D a ∧ D b ∧ betw p a b = true) ∨ ∃ a b c, D a ∧ D b ∧ D c ∧ inTri p a b c = true
theorem betw_aff {A B C : Int} {p a b : Pt} (h : betw p a b = true) (ha : 0 ≤ aff A B C a) (hb : 0 ≤ aff A B C b) : 0 ≤ aff A B C p := by
  simp only [betw, Bool.and_eq_true, decide_eq_true_eq] at h
  obtain ⟨h1, h2⟩ := h
  obtain ⟨u, hu⟩ : ∃ u, u = sub a p := ⟨_, rfl⟩
  obtain ⟨v, hv⟩ : ∃ v, v = sub b p := ⟨_, rfl⟩
  rw [← hu, ← hv] at h2
  have ea : aff A B C a = aff A B C p + (A * u.1 + B * u.2) := by rw [hu]; simp only [aff, sub]; grind
  have eb : aff A B C b = aff A B C p + (A * v.1 + B * v.2) := by rw [hv]; simp only [aff, sub]; grind
  have t : turn u v = 0 := by rw [hu, hv]; have : turn (sub a p) (sub b p) = left a b p := by simp only [left, turn, sub]; grind
                              rw [this, h1]
  by_cases hv0 : v = (0, 0)
  · rw [eb, hv0] at hb; simpa using hb
  · have pos := dot_self_pos hv0
    have key : dot v v * (A * u.1 + B * u.2) = dot u v * (A * v.1 + B * v.2) := by
      obtain ⟨u1, u2⟩ := u
      obtain ⟨v1, v2⟩ := v
      simp only [turn, dot] at t ⊢
      grind
    have k1 : 0 ≤ dot v v * aff A B C a := Int.mul_nonneg (Int.le_of_lt pos) ha
    have k2 : 0 ≤ (- dot u v) * aff A B C b := Int.mul_nonneg (by omega) hb
    have e : dot v v * aff A B C a + (- dot u v) * aff A B C b = (dot v v - dot u v) * aff A B C p := by rw [ea, eb]; grind
    exact Int.nonneg_of_mul_nonneg_right (a := dot v v - dot u v) (by rw [← e]; omega) (by omega)
theorem tri_id (A B C : Int) (p a b c : Pt) : left a b c * aff A B C p = left b c p * aff A B C a + left c a p * aff A B C b + left a b p * aff A B C c := by
  obtain ⟨p1, p2⟩ := p
  obtain ⟨a1, a2⟩ := a
  obtain ⟨b1, b2⟩ := b
  obtain ⟨c1, c2⟩ := c
  simp only [left, turn, sub, aff]; grind
theorem tri_sum (p a b c : Pt) : left a b c = left b c p + left c a p + left a b p := by
  simp only [left, turn, sub]; grind
theorem inTri_aff {A B C : Int} {p a b c : Pt} (h : inTri p a b c = true) (ha : 0 ≤ aff A B C a) (hb : 0 ≤ aff A B C b) (hc : 0 ≤ aff A B C c) : 0 ≤ aff A B C p := by
  simp only [inTri, Bool.and_eq_true, Bool.or_eq_true, decide_eq_true_eq] at h
  obtain ⟨h0, h⟩ := h
  have e := tri_id A B C p a b c
  have s := tri_sum p a b c
  rcases h with ⟨x, y, z⟩ | ⟨x, y, z⟩
  · have k1 := Int.mul_nonneg y ha
    have k2 := Int.mul_nonneg z hb
    have k3 := Int.mul_nonneg x hc
    exact Int.nonneg_of_mul_nonneg_right (a := left a b c) (by rw [e]; omega) (by omega)
  · have k1 : 0 ≤ (- left b c p) * aff A B C a := Int.mul_nonneg (by omega) ha
    have k2 : 0 ≤ (- left c a p) * aff A B C b := Int.mul_nonneg (by omega) hb
    have k3 : 0 ≤ (- left a b p) * aff A B C c := Int.mul_nonneg (by omega) hc
    refine Int.nonneg_of_mul_nonneg_right (a := - left a b c) ?_ (by omega)
    have : -left a b c * aff A B C p = (-left b c p) * aff A B C a + (-left c a p) * aff A B C b + (-left a b p) * aff A B C c := by rw [Int.neg_mul, e]; grind
    rw [this]; omega
theorem InP.aff {D : Pt → Prop} {p : Pt} (h : InP D p) {A B C : Int} (hD : ∀ q, D q → 0 ≤ aff A B C q) : 0 ≤ aff A B C p := by
  rcases h with h | ⟨a, b, ha, hb, h⟩ | ⟨a, b, c, ha, hb, hc, h⟩
  · exact hD p h
  · exact betw_aff h (hD a ha) (hD b hb)
  · exact inTri_aff h (hD a ha) (hD b hb) (hD c hc)
theorem InP.pos {D : Pt → Prop} {p : Pt} (h : InP D p) {A B C : Int} (hD : ∀ q, D q → 0 < Hull.aff A B C q) : 0 < Hull.aff A B C p := by
  have := h.aff (A := A) (B := B) (C := C - 1) fun q hq => by have := hD q hq; simp only [Hull.aff] at *; omega
  simp only [Hull.aff] at *; omega
theorem InP.mono {D D' : Pt → Prop} {p : Pt} (h : InP D p) (hD : ∀ q, D q → D' q) : InP D' p := by
  rcases h with h | ⟨a, b, ha, hb, h⟩ | ⟨a, b, c, ha, hb, hc, h⟩
  · exact .inl (hD p h)
  · exact .inr (.inl ⟨a, b, hD a ha, hD b hb, h⟩)
  · exact .inr (.inr ⟨a, b, c, hD a ha, hD b hb, hD c hc, h⟩)
/-- Two lines that cross. -/
theorem cross_pt {a b c q : Pt} (ht : left a b c ≠ 0) (h1 : left a b q = 0) (h2 : left b c q = 0) : q = b := by
  have e1 : left a b c * (q.1 - b.1) = 0 := by
    have : left a b c * (q.1 - b.1) = left a b q * (c.1 - b.1) - left b c q * (b.1 - a.1) * 1 := by
      obtain ⟨a1, a2⟩ := a
      obtain ⟨b1, b2⟩ := b
      obtain ⟨c1, c2⟩ := c
      obtain ⟨q1, q2⟩ := q
      simp only [left, turn, sub]; grind
    rw [this, h1, h2]; simp
  have e2 : left a b c * (q.2 - b.2) = 0 := by
    have : left a b c * (q.2 - b.2) = left a b q * (c.2 - b.2) - left b c q * (b.2 - a.2) := by
      obtain ⟨a1, a2⟩ := a
      obtain ⟨b1, b2⟩ := b
      obtain ⟨c1, c2⟩ := c
      obtain ⟨q1, q2⟩ := q
      simp only [left, turn, sub]; grind
    rw [this, h1, h2]; simp
  have f1 := (Int.mul_eq_zero.1 e1).resolve_left ht
  have f2 := (Int.mul_eq_zero.1 e2).resolve_left ht
  exact Prod.ext (by omega) (by omega)
section
variable {l : List Pt} {v : List Nat}
/-- The i-th vertex, around and around. -/
def vx (l : List Pt) (v : List Nat) (i : Nat) : Pt := P l (v.getD (i % v.length) 0)
theorem vx_mem (T : HullT l v) (i : Nat) : vx l v i ∈ l := T.pmem (Nat.mod_lt _ T.ne)
theorem vx_lt {i : Nat} (h : i < v.length) : vx l v i = P l (v.getD i 0) := by unfold vx; rw [Nat.mod_eq_of_lt h]
theorem vx_big (T : HullT l v) (hn : 2 < v.length) (i : Nat) {p : Pt} (hp : p ∈ l) : 0 ≤ left (vx l v i) (vx l v (i + 1)) p := by
  have := T.big hn (i % v.length) (Nat.mod_lt _ T.ne) p hp
  unfold vx
  rwa [Nat.mod_add_mod] at this
theorem vx_turn (T : HullT l v) (hn : 2 < v.length) (i : Nat) : 0 < left (vx l v i) (vx l v (i + 1)) (vx l v (i + 2)) := by
  have := T.turns hn (i % v.length) (Nat.mod_lt _ T.ne)
  unfold vx
  rwa [Nat.mod_add_mod, Nat.mod_add_mod] at this
/-- A vertex is by itself: there is a form that is 0 there, and greater at all other points. -/
theorem extreme_big (T : HullT l v) (hn : 2 < v.length) (i : Nat) : ∃ A B C, aff A B C (vx l v (i + 1)) = 0 ∧ ∀ q ∈ l, q ≠ vx l v (i + 1) → 0 < aff A B C q := by
  obtain ⟨a, ha⟩ : ∃ a, a = vx l v i := ⟨_, rfl⟩
  obtain ⟨b, hb⟩ : ∃ b, b = vx l v (i + 1) := ⟨_, rfl⟩
  obtain ⟨c, hc⟩ : ∃ c, c = vx l v (i + 2) := ⟨_, rfl⟩
  have t := vx_turn T hn i
  rw [← ha, ← hb, ← hc] at t
  rw [← hb]
  refine ⟨(a.2 - b.2) + (b.2 - c.2), (b.1 - a.1) + (c.1 - b.1), (a.1 * b.2 - a.2 * b.1) + (b.1 * c.2 - b.2 * c.1), ?_, fun q hq hne => ?_⟩
  · rw [← aff_add, ← left_aff, ← left_aff, left_self2, left_self1]; rfl
  · rw [← aff_add, ← left_aff, ← left_aff]
    have g1 := vx_big T hn i hq
    have g2 := vx_big T hn (i + 1) hq
    rw [← ha, ← hb] at g1
    rw [← hb, show i + 1 + 1 = i + 2 from rfl, ← hc] at g2
    rcases Int.lt_or_eq_of_le g1 with h | h
    · omega
    · rcases Int.lt_or_eq_of_le g2 with h' | h'
      · omega
      · exact absurd (cross_pt (by omega) h.symm h'.symm) hne
end
end Go.Hull
end
section
set_option linter.unusedVariables false
namespace Go.Hull

theorem col_mid {a b c : Pt} (h : left a b c = 0) (ab : a ≠ b) (bc : b ≠ c) (ac : a ≠ c) : betw a b c = true ∨ betw b a c = true ∨ betw c a b = true := by
  have key : ∀ x m y : Pt, left x y m = 0 → before x m = true → before m y = true → betw m x y = true ∧ betw m y x = true := fun x m y h h1 h2 => by
    have := seg_dot h (before_asymm h1) (before_asymm h2)
    simp only [betw, Bool.and_eq_true, decide_eq_true_eq]
    refine ⟨⟨h, this⟩, ?_, ?_⟩
    · have e : left y x m = - left x y m := by simp only [left, turn, sub]; grind
      rw [e, h]; rfl
    · have e : dot (sub y m) (sub x m) = dot (sub x m) (sub y m) := by simp only [dot, sub]; grind
      rw [e]; exact this
  have p1 : left b c a = 0 := by rw [← h]; simp only [left, turn, sub]; grind
  have p2 : left a c b = 0 := by have : left a c b = - left a b c := by simp only [left, turn, sub]; grind
                                 rw [this, h]; rfl
  have p3 : left c b a = 0 := by have : left c b a = - left a b c := by simp only [left, turn, sub]; grind
                                 rw [this, h]; rfl
  have p4 : left c a b = 0 := by rw [← h]; simp only [left, turn, sub]; grind
  have p5 : left b a c = 0 := by have : left b a c = - left a b c := by simp only [left, turn, sub]; grind
                                 rw [this, h]; rfl
  rcases (before_total a b).resolve_left ab with h1 | h1 <;> rcases (before_total b c).resolve_left bc with h2 | h2 <;> rcases (before_total a c).resolve_left ac with h3 | h3
  · exact .inr (.inl (key a b c p2 h1 h2).1)
  · exact .inr (.inl (key a b c p2 h1 h2).1)
  · exact .inr (.inr (key a c b h h3 h2).1)
  · exact .inl (key c a b p3 h3 h1).2
  · exact .inl (key b a c p1 h1 h3).1
  · exact .inr (.inr (key b c a p5 h2 h3).2)
  · exact .inr (.inl (key c b a p4 h2 h1).2)
  · exact .inr (.inl (key c b a p4 h2 h1).2)
section
variable {l : List Pt} {v : List Nat}
theorem vx_inj (V : HullV l v) {i k : Nat} (hi : i < v.length) (hk : k < v.length) (h : vx l v i = vx l v k) : i = k := by
  rw [vx_lt hi, vx_lt hk] at h
  exact V.inj hi hk h
theorem vx_add (i : Nat) : vx l v (i + v.length) = vx l v i := by unfold vx; rw [Nat.add_mod_right]
theorem extreme_at (V : HullV l v) (hn : 2 < v.length) (i : Nat) : ∃ A B C, aff A B C (vx l v i) = 0 ∧ ∀ q ∈ l, q ≠ vx l v i → 0 < aff A B C q := by
  have := extreme_big V.T hn (i + v.length - 1)
  rw [show i + v.length - 1 + 1 = i + v.length by omega, vx_add] at this
  exact this
/-- No vertex lies between two other points. -/
theorem not_betw (V : HullV l v) (hn : 2 < v.length) (i : Nat) {a b : Pt} (ha : a ∈ l) (hb : b ∈ l) (na : a ≠ vx l v i) (nb : b ≠ vx l v i) : ¬ betw (vx l v i) a b = true := fun h => by
  obtain ⟨A, B, C, h0, h1⟩ := extreme_at V hn i
  have := InP.pos (D := fun q => q = a ∨ q = b) (.inr (.inl ⟨a, b, .inl rfl, .inr rfl, h⟩)) (A := A) (B := B) (C := C) fun q hq => by
    rcases hq with rfl | rfl
    · exact h1 _ ha na
    · exact h1 _ hb nb
  omega
theorem fan_pos (V : HullV l v) (hn : 2 < v.length) {i : Nat} (hi : 1 ≤ i) (hi2 : i + 1 < v.length) : 0 < left (vx l v 0) (vx l v i) (vx l v (i + 1)) := by
  have e : left (vx l v 0) (vx l v i) (vx l v (i + 1)) = left (vx l v i) (vx l v (i + 1)) (vx l v 0) := by simp only [left, turn, sub]; grind
  have g := vx_big V.T hn i (vx_mem V.T 0)
  rcases Int.lt_or_eq_of_le g with h | h
  · omega
  · have n01 : vx l v 0 ≠ vx l v i := fun h => by have := vx_inj V (by omega) (by omega) h; omega
    have n02 : vx l v 0 ≠ vx l v (i + 1) := fun h => by have := vx_inj V (by omega) (by omega) h; omega
    have n12 : vx l v i ≠ vx l v (i + 1) := fun h => by have := vx_inj V (by omega) (by omega) h; omega
    have m0 := vx_mem V.T 0
    have m1 := vx_mem V.T i
    have m2 := vx_mem V.T (i + 1)
    rcases col_mid (a := vx l v 0) (b := vx l v i) (c := vx l v (i + 1)) (by rw [e, ← h]) n01 n12 n02 with h | h | h
    · exact absurd h (not_betw V hn 0 m1 m2 (Ne.symm n01) (Ne.symm n02))
    · exact absurd h (not_betw V hn i m0 m2 n01 (Ne.symm n12))
    · exact absurd h (not_betw V hn (i + 1) m0 m1 n02 n12)
/-- On the inner side of all sides. -/
def inH (l : List Pt) (v : List Nat) (p : Pt) : Prop :=
  if v.length ≤ 2 then left (vx l v 0) (vx l v (v.length - 1)) p = 0 ∧ dot (sub (vx l v 0) p) (sub (vx l v (v.length - 1)) p) ≤ 0
  else ∀ i, i < v.length → 0 ≤ left (vx l v i) (vx l v (i + 1)) p
/-- The vertices' points. -/
def isV (l : List Pt) (v : List Nat) (q : Pt) : Prop := ∃ i, i < v.length ∧ q = vx l v i
theorem lagr (w x y : Pt) : dot w w * dot x y = dot w x * dot w y + turn w x * turn w y := by simp only [dot, turn]; grind
theorem inH_of_in (V : HullV l v) {p : Pt} (h : InP (· ∈ l) p) : inH l v p := by
  have T := V.T
  have ne := T.ne
  unfold inH
  split
  · rename_i h2
    by_cases h1 : v.length = 1
    · have one : ∀ q ∈ l, q = vx l v 0 := fun q hq => by rw [vx_lt ne]; exact T.one h1 q hq
      have e0 : vx l v (v.length - 1) = vx l v 0 := by rw [h1]
      rw [e0]
      have a1 := h.aff (A := 1) (B := 0) (C := -(vx l v 0).1) fun q hq => by rw [one q hq]; simp only [aff]; omega
      have a2 := h.aff (A := -1) (B := 0) (C := (vx l v 0).1) fun q hq => by rw [one q hq]; simp only [aff]; omega
      have a3 := h.aff (A := 0) (B := 1) (C := -(vx l v 0).2) fun q hq => by rw [one q hq]; simp only [aff]; omega
      have a4 := h.aff (A := 0) (B := -1) (C := (vx l v 0).2) fun q hq => by rw [one q hq]; simp only [aff]; omega
      simp only [aff] at a1 a2 a3 a4
      have e : p = vx l v 0 := Prod.ext (by omega) (by omega)
      rw [← e]
      exact ⟨left_self1' p p, by simp [dot, sub]⟩
    · have h22 : v.length = 2 := by omega
      rw [h22]
      obtain ⟨a, ha⟩ : ∃ a, a = vx l v 0 := ⟨_, rfl⟩
      obtain ⟨b, hb⟩ : ∃ b, b = vx l v (2 - 1) := ⟨_, rfl⟩
      rw [← ha, ← hb]
      have fl : ∀ q ∈ l, left a b q = 0 := fun q hq => by
        have := T.two h22 0 (by omega) q hq
        rw [h22] at this
        rw [ha, hb, vx_lt (by omega), vx_lt (by omega)]
        exact this
      have b0 : ∀ q ∈ l, before q a = false := fun q hq => by rw [ha, vx_lt (by omega)]; exact T.first q hq
      have b1 : ∀ q ∈ l, before b q = false := fun q hq => by rw [hb, vx_lt (by omega)]; exact T.two' h22 q hq
      have hab : Lp (sub b a) := by
        have := V.two_ne h22
        rw [ha, hb, vx_lt (by omega), vx_lt (by omega)]
        exact before_iff.1 this
      have z1 : 0 ≤ left a b p := by rw [left_aff]; exact h.aff fun q hq => by rw [← left_aff, fl q hq]; exact Int.le_refl _
      have z2 : 0 ≤ - left a b p := by rw [left_aff, aff_neg]; exact h.aff fun q hq => by rw [← aff_neg, ← left_aff, fl q hq]; decide
      have z : left a b p = 0 := by omega
      refine ⟨z, ?_⟩
      obtain ⟨w, hw⟩ : ∃ w, w = sub b a := ⟨_, rfl⟩
      rw [← hw] at hab
      have d1 : 0 ≤ dot w (sub p a) := by
        have e : ∀ q, dot w (sub q a) = aff w.1 w.2 (-(w.1 * a.1) - w.2 * a.2) q := fun q => by simp only [dot, sub, aff]; grind
        rw [e]
        refine h.aff fun q hq => ?_
        rw [← e]
        rcases before_false (b0 q hq) with h | h
        · rw [← h]; simp [dot, sub]
        · refine lp_dot hab (before_iff.1 h) ?_
          rw [hw]; exact fl q hq
      have d2 : 0 ≤ dot w (sub b p) := by
        have e : ∀ q, dot w (sub b q) = aff (-w.1) (-w.2) (w.1 * b.1 + w.2 * b.2) q := fun q => by simp only [dot, sub, aff]; grind
        rw [e]
        refine h.aff fun q hq => ?_
        rw [← e]
        rcases before_false (b1 q hq) with h | h
        · rw [← h]; simp [dot, sub]
        · refine lp_dot hab (before_iff.1 h) ?_
          have : turn (sub b a) (sub b q) = - left a b q := by simp only [left, turn, sub]; grind
          rw [hw, this, fl q hq]; rfl
      have hpos : 0 < dot w w := dot_self_pos fun e => by rw [e] at hab; simp [Lp] at hab
      have t1 : turn w (sub p a) = 0 := by rw [hw]; exact z
      have e := lagr w (sub p a) (sub b p)
      rw [t1] at e
      have k := Int.mul_nonneg d1 d2
      have k2 : 0 ≤ dot (sub p a) (sub b p) := Int.nonneg_of_mul_nonneg_right (by rw [e]; omega) hpos
      have : dot (sub a p) (sub b p) = - dot (sub p a) (sub b p) := by simp only [dot, sub]; grind
      omega
  · rename_i h2
    intro i hi
    rw [left_aff]
    exact h.aff fun q hq => by rw [← left_aff]; exact vx_big T (by omega) i hq
theorem in_of_inH (V : HullV l v) {p : Pt} (h : inH l v p) : InP (isV l v) p := by
  have T := V.T
  have ne := T.ne
  unfold inH at h
  split at h
  · rename_i h2
    exact .inr (.inl ⟨vx l v 0, vx l v (v.length - 1), ⟨0, ne, rfl⟩, ⟨v.length - 1, by omega, rfl⟩, by simp only [betw, Bool.and_eq_true, decide_eq_true_eq]; exact h⟩)
  · rename_i h2
    have hn : 2 < v.length := by omega
    have ex : ∃ i, 1 ≤ i ∧ i + 1 < v.length ∧ 0 ≤ left (vx l v 0) (vx l v i) p ∧ left (vx l v 0) (vx l v (i + 1)) p ≤ 0 := by
      refine Classical.byContradiction fun hno => ?_
      have step : ∀ k, 1 ≤ k → k < v.length → 0 ≤ left (vx l v 0) (vx l v k) p := by
        intro k
        induction k with
        | zero => intro h; omega
        | succ k ih =>
          intro _ hk
          by_cases h0 : k = 0
          · subst h0; exact h 0 ne
          · have hk' := ih (by omega) (by omega)
            refine Int.not_lt.1 fun hlt => hno ⟨k, by omega, hk, hk', by omega⟩
      have last := h (v.length - 1) (by omega)
      rw [show v.length - 1 + 1 = 0 + v.length by omega, vx_add] at last
      have e : left (vx l v (v.length - 1)) (vx l v 0) p = - left (vx l v 0) (vx l v (v.length - 1)) p := by simp only [left, turn, sub]; grind
      have := step (v.length - 2) (by omega) (by omega)
      exact hno ⟨v.length - 2, by omega, by omega, this, by rw [show v.length - 2 + 1 = v.length - 1 by omega]; omega⟩
    obtain ⟨i, h1, h2, h3, h4⟩ := ex
    refine .inr (.inr ⟨vx l v 0, vx l v i, vx l v (i + 1), ⟨0, ne, rfl⟩, ⟨i, by omega, rfl⟩, ⟨i + 1, h2, rfl⟩, ?_⟩)
    have f := fan_pos V hn h1 h2
    have s := h i (by omega)
    have e : left (vx l v (i + 1)) (vx l v 0) p = - left (vx l v 0) (vx l v (i + 1)) p := by simp only [left, turn, sub]; grind
    simp only [inTri, Bool.and_eq_true, Bool.or_eq_true, decide_eq_true_eq]
    exact ⟨by omega, .inl ⟨h3, s, by omega⟩⟩
theorem isV_mem (V : HullV l v) {q : Pt} (h : isV l v q) : q ∈ l := by
  obtain ⟨i, hi, rfl⟩ := h
  exact vx_mem V.T i
theorem in_iff (V : HullV l v) (p : Pt) : InP (· ∈ l) p ↔ inH l v p := ⟨inH_of_in V, fun h => (in_of_inH V h).mono fun q hq => isV_mem V hq⟩
end
end Go.Hull
end
section
set_option linter.unusedSimpArgs false
set_option linter.unusedVariables false
set_option maxHeartbeats 8000000
set_option maxRecDepth 100000
namespace Go.Hull
open Go Go.Am Go.Proofs

theorem c32 (n : Int) : CallsF Try.prog 32 [.int .i64 n] [] (.int .i64 (sgn n)) [] := by
  refine callsF_cwx hm hf32 (by simp [cf32]) ?_
  simp only [cf32, argsAl]
  repeat' first
    | (refine hK _ _ _ (by first | exact fun h => Bool.noConfusion h | exact fun _ => rfl) ?_; clear hK K)
    | (refine CWx.r fun K hK => ?_; simp (maxSteps := 4000000) (disch := omega) only [dr0, dr1, dr2, dr3, dr4, if_true, if_false, Option.some.injEq, Nat.reduceEqDiff, Int.reduceToNat, Nat.reduceSub, Nat.reduceAdd, Nat.reduceMul, Nat.reduceLT, Nat.reduceLeDiff, reduceCtorEq, ↓reduceIte, catT, enc0, enc1, if_pos, if_neg])
    | refine CWx.go ?_
    | (refine gX_split (fun hb => ?_) (fun hb => ?_) <;> (try simp only [hb]) <;> (try simp only [bset0, reduceCtorEq] at hb) <;> simp (maxSteps := 4000000) (disch := omega) only [dr0, dr1, dr2, dr3, dr4, if_true, if_false, Option.some.injEq, Nat.reduceEqDiff, Int.reduceToNat, Nat.reduceSub, Nat.reduceAdd, Nat.reduceMul, Nat.reduceLT, Nat.reduceLeDiff, reduceCtorEq, ↓reduceIte, catT, enc0, enc1, if_pos, if_neg])
    | (refine CWx.br rfl (fun hb => ?_) (fun hb => ?_) <;> first | exact Bool.noConfusion hb | (first | (simp only [bset0, reduceCtorEq] at hb; done) | ((try simp only [bset0, reduceCtorEq] at hb); first | contradiction | skip)))
    | (refine CWx.e fun K hK => ?_; simp (maxSteps := 4000000) (disch := omega) only [dr0, dr1, dr2, dr3, dr4, if_true, if_false, Option.some.injEq, Nat.reduceEqDiff, Int.reduceToNat, Nat.reduceSub, Nat.reduceAdd, Nat.reduceMul, Nat.reduceLT, Nat.reduceLeDiff, reduceCtorEq, ↓reduceIte, catT, enc0, enc1, if_pos, if_neg])
    | refine CWx.seq ?_
    | refine CWx.skip ?_
    | refine CWx.exit ?_
    | (refine CWx.ret fun al hal => finK_ext hal (finK_pure (.inr rfl) (by simp only [resRV, Am.get, Nat.reduceEqDiff, ↓reduceIte]; exact rfl) ?_ ?_); (focus (first | ((simp only [tupAV, sgn]; congr 1; split <;> first | omega | (split <;> omega)); done) | (rfl; done) | ((simp only [tupAV]; congr <;> omega); done) | (simp [tupAV, *]; done))); (focus (first | rfl | (simp [AV.allR, allRL, allRL_ix]; done))))
theorem c72 {p a b : Pt} (hp : okP p = true) (ha : okP a = true) (hb' : okP b = true) : CallsF Try.prog 72 [pt p, pt a, pt b] [] (.bool (betw p a b)) [] := by
  refine callsF_cwx hm hf72 (by simp [cf72]) ?_
  simp only [cf72, argsAl]
  repeat' first
    | (refine hK _ _ _ (by first | exact fun h => Bool.noConfusion h | exact fun _ => rfl) ?_; clear hK K)
    | (refine CWx.r fun K hK => ?_; simp (maxSteps := 4000000) (disch := omega) only [dr0, dr1, dr2, dr3, dr4, if_true, if_false, Option.some.injEq, Nat.reduceEqDiff, Int.reduceToNat, Nat.reduceSub, Nat.reduceAdd, Nat.reduceMul, Nat.reduceLT, Nat.reduceLeDiff, reduceCtorEq, ↓reduceIte, catT, enc0, enc1, if_pos, if_neg])
    | refine CWx.go ?_
    | (apply RCx.view (fid := 33) (caps := []) rfl rfl; (focus ((simp only [evsA, evA_t, evA_c, Am.get, Nat.reduceEqDiff, ↓reduceIte, List.nil_append, List.cons_append, List.append_nil]; repeat' first | exact viewArgs_nil | apply viewArgs_cons | exact viewG_flat (flat_pts _ _) _ | exact viewG_flat (flat_ixV _ _) _ | exact viewG_flat (flat_sv _ _) _ | exact viewG_ixT rfl (by assumption) (by omega) | exact viewG_ptsL rfl (by first | omega | (simp; done) | (simp; omega)) | exact viewG_ix rfl (by first | omega | (simp; omega)) | exact viewG_flat rfl _; done))); (focus (refine c33 ha hb' hp <;> first | omega | assumption)); (focus rfl); simp (maxSteps := 4000000) (disch := omega) only [dr0, dr1, dr2, dr3, dr4, if_true, if_false, Option.some.injEq, Nat.reduceEqDiff, Int.reduceToNat, Nat.reduceSub, Nat.reduceAdd, Nat.reduceMul, Nat.reduceLT, Nat.reduceLeDiff, reduceCtorEq, ↓reduceIte, catT, enc0, enc1, if_pos, if_neg])
    | (apply RCx.view (fid := 75) (caps := []) rfl rfl; (focus ((simp only [evsA, evA_t, evA_c, Am.get, Nat.reduceEqDiff, ↓reduceIte, List.nil_append, List.cons_append, List.append_nil]; repeat' first | exact viewArgs_nil | apply viewArgs_cons | exact viewG_flat (flat_pts _ _) _ | exact viewG_flat (flat_ixV _ _) _ | exact viewG_flat (flat_sv _ _) _ | exact viewG_ixT rfl (by assumption) (by omega) | exact viewG_ptsL rfl (by first | omega | (simp; done) | (simp; omega)) | exact viewG_ix rfl (by first | omega | (simp; omega)) | exact viewG_flat rfl _; done))); (focus (refine c75 ha hp <;> first | omega | assumption)); (focus rfl); simp (maxSteps := 4000000) (disch := omega) only [dr0, dr1, dr2, dr3, dr4, if_true, if_false, Option.some.injEq, Nat.reduceEqDiff, Int.reduceToNat, Nat.reduceSub, Nat.reduceAdd, Nat.reduceMul, Nat.reduceLT, Nat.reduceLeDiff, reduceCtorEq, ↓reduceIte, catT, enc0, enc1, if_pos, if_neg])
    | (apply RCx.view (fid := 75) (caps := []) rfl rfl; (focus ((simp only [evsA, evA_t, evA_c, Am.get, Nat.reduceEqDiff, ↓reduceIte, List.nil_append, List.cons_append, List.append_nil]; repeat' first | exact viewArgs_nil | apply viewArgs_cons | exact viewG_flat (flat_pts _ _) _ | exact viewG_flat (flat_ixV _ _) _ | exact viewG_flat (flat_sv _ _) _ | exact viewG_ixT rfl (by assumption) (by omega) | exact viewG_ptsL rfl (by first | omega | (simp; done) | (simp; omega)) | exact viewG_ix rfl (by first | omega | (simp; omega)) | exact viewG_flat rfl _; done))); (focus (refine c75 hb' hp <;> first | omega | assumption)); (focus rfl); simp (maxSteps := 4000000) (disch := omega) only [dr0, dr1, dr2, dr3, dr4, if_true, if_false, Option.some.injEq, Nat.reduceEqDiff, Int.reduceToNat, Nat.reduceSub, Nat.reduceAdd, Nat.reduceMul, Nat.reduceLT, Nat.reduceLeDiff, reduceCtorEq, ↓reduceIte, catT, enc0, enc1, if_pos, if_neg])
    | (apply RCx.view (fid := 26) (caps := []) rfl rfl; (focus ((simp only [evsA, evA_t, evA_c, Am.get, Nat.reduceEqDiff, ↓reduceIte, List.nil_append, List.cons_append, List.append_nil]; repeat' first | exact viewArgs_nil | apply viewArgs_cons | exact viewG_flat (flat_pts _ _) _ | exact viewG_flat (flat_ixV _ _) _ | exact viewG_flat (flat_sv _ _) _ | exact viewG_ixT rfl (by assumption) (by omega) | exact viewG_ptsL rfl (by first | omega | (simp; done) | (simp; omega)) | exact viewG_ix rfl (by first | omega | (simp; omega)) | exact viewG_flat rfl _; done))); (focus (refine c26 (sub_small ha hp) (sub_small hb' hp) <;> first | omega | assumption)); (focus rfl); simp (maxSteps := 4000000) (disch := omega) only [dr0, dr1, dr2, dr3, dr4, if_true, if_false, Option.some.injEq, Nat.reduceEqDiff, Int.reduceToNat, Nat.reduceSub, Nat.reduceAdd, Nat.reduceMul, Nat.reduceLT, Nat.reduceLeDiff, reduceCtorEq, ↓reduceIte, catT, enc0, enc1, if_pos, if_neg])
    | (refine gX_split (fun hb => ?_) (fun hb => ?_) <;> (try simp only [hb]) <;> (try simp only [bset0, reduceCtorEq] at hb) <;> simp (maxSteps := 4000000) (disch := omega) only [dr0, dr1, dr2, dr3, dr4, if_true, if_false, Option.some.injEq, Nat.reduceEqDiff, Int.reduceToNat, Nat.reduceSub, Nat.reduceAdd, Nat.reduceMul, Nat.reduceLT, Nat.reduceLeDiff, reduceCtorEq, ↓reduceIte, catT, enc0, enc1, if_pos, if_neg])
    | (refine CWx.br rfl (fun hb => ?_) (fun hb => ?_) <;> first | exact Bool.noConfusion hb | (first | (simp only [bset0, reduceCtorEq] at hb; done) | ((try simp only [bset0, reduceCtorEq] at hb); first | contradiction | skip)))
    | (refine CWx.e fun K hK => ?_; simp (maxSteps := 4000000) (disch := omega) only [dr0, dr1, dr2, dr3, dr4, if_true, if_false, Option.some.injEq, Nat.reduceEqDiff, Int.reduceToNat, Nat.reduceSub, Nat.reduceAdd, Nat.reduceMul, Nat.reduceLT, Nat.reduceLeDiff, reduceCtorEq, ↓reduceIte, catT, enc0, enc1, if_pos, if_neg])
    | refine CWx.seq ?_
    | refine CWx.skip ?_
    | refine CWx.exit ?_
    | (refine CWx.ret fun al hal => finK_ext hal (finK_pure (.inr rfl) (by simp only [resRV, Am.get, Nat.reduceEqDiff, ↓reduceIte]; exact rfl) ?_ ?_); (focus (first | (simp only [tupAV]; congr 1; rw [Bool.eq_iff_iff]; simp only [betw, Bool.and_eq_true, Bool.or_eq_true, decide_eq_true_eq, Bool.false_eq_true, ne_eq, true_iff, false_iff, iff_true, iff_false, Bool.not_eq_true, decide_eq_false_iff_not, not_true_eq_false, beq_iff_eq, bne_iff_ne]; omega; done) | (rfl; done) | ((simp only [tupAV]; congr <;> omega); done) | (simp [tupAV, *]; done))); (focus (first | rfl | (simp [AV.allR, allRL, allRL_ix]; done))))
theorem sgn_pos (n : Int) : (0 ≤ sgn n ↔ 0 ≤ n) ∧ (sgn n ≤ 0 ↔ n ≤ 0) := by
  unfold sgn; split <;> first | omega | (split <;> omega)
theorem c73 {p a b c : Pt} (hp : okP p = true) (ha : okP a = true) (hb' : okP b = true) (hc : okP c = true) : CallsF Try.prog 73 [pt p, pt a, pt b, pt c] [] (.bool (inTri p a b c)) [] := by
  have e1 := sgn_pos (left a b p)
  have e2 := sgn_pos (left b c p)
  have e3 := sgn_pos (left c a p)
  refine callsF_cwx hm hf73 (by simp [cf73]) ?_
  simp only [cf73, argsAl]
  repeat' first
    | (refine hK _ _ _ (by first | exact fun h => Bool.noConfusion h | exact fun _ => rfl) ?_; clear hK K)
    | (refine CWx.r fun K hK => ?_; simp (maxSteps := 4000000) (disch := omega) only [dr0, dr1, dr2, dr3, dr4, if_true, if_false, Option.some.injEq, Nat.reduceEqDiff, Int.reduceToNat, Nat.reduceSub, Nat.reduceAdd, Nat.reduceMul, Nat.reduceLT, Nat.reduceLeDiff, reduceCtorEq, ↓reduceIte, catT, enc0, enc1, if_pos, if_neg])
    | refine CWx.go ?_
    | (apply RCx.view (fid := 33) (caps := []) rfl rfl; (focus ((simp only [evsA, evA_t, evA_c, Am.get, Nat.reduceEqDiff, ↓reduceIte, List.nil_append, List.cons_append, List.append_nil]; repeat' first | exact viewArgs_nil | apply viewArgs_cons | exact viewG_flat (flat_pts _ _) _ | exact viewG_flat (flat_ixV _ _) _ | exact viewG_flat (flat_sv _ _) _ | exact viewG_ixT rfl (by assumption) (by omega) | exact viewG_ptsL rfl (by first | omega | (simp; done) | (simp; omega)) | exact viewG_ix rfl (by first | omega | (simp; omega)) | exact viewG_flat rfl _; done))); (focus (refine c33 ha hb' hp <;> first | omega | assumption)); (focus rfl); simp (maxSteps := 4000000) (disch := omega) only [dr0, dr1, dr2, dr3, dr4, if_true, if_false, Option.some.injEq, Nat.reduceEqDiff, Int.reduceToNat, Nat.reduceSub, Nat.reduceAdd, Nat.reduceMul, Nat.reduceLT, Nat.reduceLeDiff, reduceCtorEq, ↓reduceIte, catT, enc0, enc1, if_pos, if_neg])
    | (apply RCx.view (fid := 33) (caps := []) rfl rfl; (focus ((simp only [evsA, evA_t, evA_c, Am.get, Nat.reduceEqDiff, ↓reduceIte, List.nil_append, List.cons_append, List.append_nil]; repeat' first | exact viewArgs_nil | apply viewArgs_cons | exact viewG_flat (flat_pts _ _) _ | exact viewG_flat (flat_ixV _ _) _ | exact viewG_flat (flat_sv _ _) _ | exact viewG_ixT rfl (by assumption) (by omega) | exact viewG_ptsL rfl (by first | omega | (simp; done) | (simp; omega)) | exact viewG_ix rfl (by first | omega | (simp; omega)) | exact viewG_flat rfl _; done))); (focus (refine c33 hb' hc hp <;> first | omega | assumption)); (focus rfl); simp (maxSteps := 4000000) (disch := omega) only [dr0, dr1, dr2, dr3, dr4, if_true, if_false, Option.some.injEq, Nat.reduceEqDiff, Int.reduceToNat, Nat.reduceSub, Nat.reduceAdd, Nat.reduceMul, Nat.reduceLT, Nat.reduceLeDiff, reduceCtorEq, ↓reduceIte, catT, enc0, enc1, if_pos, if_neg])
    | (apply RCx.view (fid := 33) (caps := []) rfl rfl; (focus ((simp only [evsA, evA_t, evA_c, Am.get, Nat.reduceEqDiff, ↓reduceIte, List.nil_append, List.cons_append, List.append_nil]; repeat' first | exact viewArgs_nil | apply viewArgs_cons | exact viewG_flat (flat_pts _ _) _ | exact viewG_flat (flat_ixV _ _) _ | exact viewG_flat (flat_sv _ _) _ | exact viewG_ixT rfl (by assumption) (by omega) | exact viewG_ptsL rfl (by first | omega | (simp; done) | (simp; omega)) | exact viewG_ix rfl (by first | omega | (simp; omega)) | exact viewG_flat rfl _; done))); (focus (refine c33 hc ha hp <;> first | omega | assumption)); (focus rfl); simp (maxSteps := 4000000) (disch := omega) only [dr0, dr1, dr2, dr3, dr4, if_true, if_false, Option.some.injEq, Nat.reduceEqDiff, Int.reduceToNat, Nat.reduceSub, Nat.reduceAdd, Nat.reduceMul, Nat.reduceLT, Nat.reduceLeDiff, reduceCtorEq, ↓reduceIte, catT, enc0, enc1, if_pos, if_neg])
    | (apply RCx.view (fid := 33) (caps := []) rfl rfl; (focus ((simp only [evsA, evA_t, evA_c, Am.get, Nat.reduceEqDiff, ↓reduceIte, List.nil_append, List.cons_append, List.append_nil]; repeat' first | exact viewArgs_nil | apply viewArgs_cons | exact viewG_flat (flat_pts _ _) _ | exact viewG_flat (flat_ixV _ _) _ | exact viewG_flat (flat_sv _ _) _ | exact viewG_ixT rfl (by assumption) (by omega) | exact viewG_ptsL rfl (by first | omega | (simp; done) | (simp; omega)) | exact viewG_ix rfl (by first | omega | (simp; omega)) | exact viewG_flat rfl _; done))); (focus (refine c33 ha hb' hc <;> first | omega | assumption)); (focus rfl); simp (maxSteps := 4000000) (disch := omega) only [dr0, dr1, dr2, dr3, dr4, if_true, if_false, Option.some.injEq, Nat.reduceEqDiff, Int.reduceToNat, Nat.reduceSub, Nat.reduceAdd, Nat.reduceMul, Nat.reduceLT, Nat.reduceLeDiff, reduceCtorEq, ↓reduceIte, catT, enc0, enc1, if_pos, if_neg])
    | (apply RCx.view (fid := 32) (caps := []) rfl rfl; (focus ((simp only [evsA, evA_t, evA_c, Am.get, Nat.reduceEqDiff, ↓reduceIte, List.nil_append, List.cons_append, List.append_nil]; repeat' first | exact viewArgs_nil | apply viewArgs_cons | exact viewG_flat (flat_pts _ _) _ | exact viewG_flat (flat_ixV _ _) _ | exact viewG_flat (flat_sv _ _) _ | exact viewG_ixT rfl (by assumption) (by omega) | exact viewG_ptsL rfl (by first | omega | (simp; done) | (simp; omega)) | exact viewG_ix rfl (by first | omega | (simp; omega)) | exact viewG_flat rfl _; done))); (focus (refine c32 _ <;> first | omega | assumption)); (focus rfl); simp (maxSteps := 4000000) (disch := omega) only [dr0, dr1, dr2, dr3, dr4, if_true, if_false, Option.some.injEq, Nat.reduceEqDiff, Int.reduceToNat, Nat.reduceSub, Nat.reduceAdd, Nat.reduceMul, Nat.reduceLT, Nat.reduceLeDiff, reduceCtorEq, ↓reduceIte, catT, enc0, enc1, if_pos, if_neg])
    | (refine gX_split (fun hb => ?_) (fun hb => ?_) <;> (try simp only [hb]) <;> (try simp only [bset0, reduceCtorEq] at hb) <;> simp (maxSteps := 4000000) (disch := omega) only [dr0, dr1, dr2, dr3, dr4, if_true, if_false, Option.some.injEq, Nat.reduceEqDiff, Int.reduceToNat, Nat.reduceSub, Nat.reduceAdd, Nat.reduceMul, Nat.reduceLT, Nat.reduceLeDiff, reduceCtorEq, ↓reduceIte, catT, enc0, enc1, if_pos, if_neg])
    | (refine CWx.br rfl (fun hb => ?_) (fun hb => ?_) <;> first | exact Bool.noConfusion hb | (first | (simp only [bset0, reduceCtorEq] at hb; done) | ((try simp only [bset0, reduceCtorEq] at hb); first | contradiction | skip)))
    | (refine CWx.e fun K hK => ?_; simp (maxSteps := 4000000) (disch := omega) only [dr0, dr1, dr2, dr3, dr4, if_true, if_false, Option.some.injEq, Nat.reduceEqDiff, Int.reduceToNat, Nat.reduceSub, Nat.reduceAdd, Nat.reduceMul, Nat.reduceLT, Nat.reduceLeDiff, reduceCtorEq, ↓reduceIte, catT, enc0, enc1, if_pos, if_neg])
    | refine CWx.seq ?_
    | refine CWx.skip ?_
    | refine CWx.exit ?_
    | (refine CWx.ret fun al hal => finK_ext hal (finK_pure (.inr rfl) (by simp only [resRV, Am.get, Nat.reduceEqDiff, ↓reduceIte]; exact rfl) ?_ ?_); (focus (first | (simp only [tupAV]; congr 1; rw [Bool.eq_iff_iff]; simp only [inTri, Bool.and_eq_true, Bool.or_eq_true, decide_eq_true_eq, Bool.false_eq_true, ne_eq, true_iff, false_iff, iff_true, iff_false, Bool.not_eq_true, decide_eq_false_iff_not, not_true_eq_false, beq_iff_eq, bne_iff_ne]; omega; done) | (rfl; done) | ((simp only [tupAV]; congr <;> omega); done) | (simp [tupAV, *]; done))); (focus (first | rfl | (simp [AV.allR, allRL, allRL_ix]; done))))
def inB (l : List Pt) (p : Pt) : Bool := (List.range l.length).any fun i => decide (P l i = p) || (List.range i).any fun j => betw p (P l i) (P l j) || (List.range j).any fun k => inTri p (P l i) (P l j) (P l k)
def N1 (l : List Pt) (p : Pt) (x y : Nat) : Prop := betw p (P l x) (P l y) = false ∧ ∀ z, z < y → inTri p (P l x) (P l y) (P l z) = false
def N0 (l : List Pt) (p : Pt) (x : Nat) : Prop := ¬ P l x = p ∧ ∀ y, y < x → N1 l p x y
theorem inB_iff (l : List Pt) (p : Pt) : inB l p = true ↔ ∃ i, i < l.length ∧ (P l i = p ∨ ∃ j, j < i ∧ (betw p (P l i) (P l j) = true ∨ ∃ k, k < j ∧ inTri p (P l i) (P l j) (P l k) = true)) := by
  simp only [inB, List.any_eq_true, List.mem_range, Bool.or_eq_true, decide_eq_true_eq]
theorem inB_f {l : List Pt} {p : Pt} (h : ∀ x, x < l.length → N0 l p x) : inB l p = false := by
  cases e : inB l p with
  | false => rfl
  | true =>
    obtain ⟨i, hi, h1 | ⟨j, hj, h1 | ⟨k, hk, h1⟩⟩⟩ := (inB_iff l p).1 e
    · exact absurd h1 (h i hi).1
    · rw [((h i hi).2 j hj).1] at h1; cases h1
    · rw [((h i hi).2 j hj).2 k hk] at h1; cases h1
theorem c30 (l : List Pt) (p : Pt) (hn : l.length < 4611686018427387904) (qa : ∀ k, k < l.length → okP (P l k) = true) (hp : okP p = true) : CallsF Try.prog 30 [pts l, pt p] [] (.bool (inB l p)) [] := by
  refine callsF_cwx hm hf30 (by simp [cf30]) ?_
  simp only [cf30, argsAl]
  repeat' first
    | (refine hK _ _ _ (by first | exact fun h => Bool.noConfusion h | exact fun _ => rfl) ?_; clear hK K)
    | (refine CWx.r fun K hK => ?_; simp (maxSteps := 4000000) (disch := omega) only [dr0, dr1, dr2, dr3, dr4, if_true, if_false, Option.some.injEq, Nat.reduceEqDiff, Int.reduceToNat, Nat.reduceSub, Nat.reduceAdd, Nat.reduceMul, Nat.reduceLT, Nat.reduceLeDiff, reduceCtorEq, ↓reduceIte, catT, enc0, enc1, if_pos, if_neg])
    | refine CWx.go ?_
    | (apply RCx.view (fid := 72) (caps := []) rfl rfl; (focus ((simp only [evsA, evA_t, evA_c, Am.get, Nat.reduceEqDiff, ↓reduceIte, List.nil_append, List.cons_append, List.append_nil]; repeat' first | exact viewArgs_nil | apply viewArgs_cons | exact viewG_flat (flat_pts _ _) _ | exact viewG_flat (flat_ixV _ _) _ | exact viewG_flat (flat_sv _ _) _ | exact viewG_ixT rfl (by assumption) (by omega) | exact viewG_ptsL rfl (by first | omega | (simp; done) | (simp; omega)) | exact viewG_ix rfl (by first | omega | (simp; omega)) | exact viewG_flat rfl _; done))); (focus (refine c72 hp (qa _ ?_) (qa _ ?_) <;> first | omega | assumption)); (focus rfl); simp (maxSteps := 4000000) (disch := omega) only [dr0, dr1, dr2, dr3, dr4, if_true, if_false, Option.some.injEq, Nat.reduceEqDiff, Int.reduceToNat, Nat.reduceSub, Nat.reduceAdd, Nat.reduceMul, Nat.reduceLT, Nat.reduceLeDiff, reduceCtorEq, ↓reduceIte, catT, enc0, enc1, if_pos, if_neg])
    | (apply RCx.view (fid := 73) (caps := []) rfl rfl; (focus ((simp only [evsA, evA_t, evA_c, Am.get, Nat.reduceEqDiff, ↓reduceIte, List.nil_append, List.cons_append, List.append_nil]; repeat' first | exact viewArgs_nil | apply viewArgs_cons | exact viewG_flat (flat_pts _ _) _ | exact viewG_flat (flat_ixV _ _) _ | exact viewG_flat (flat_sv _ _) _ | exact viewG_ixT rfl (by assumption) (by omega) | exact viewG_ptsL rfl (by first | omega | (simp; done) | (simp; omega)) | exact viewG_ix rfl (by first | omega | (simp; omega)) | exact viewG_flat rfl _; done))); (focus (refine c73 hp (qa _ ?_) (qa _ ?_) (qa _ ?_) <;> first | omega | assumption)); (focus rfl); simp (maxSteps := 4000000) (disch := omega) only [dr0, dr1, dr2, dr3, dr4, if_true, if_false, Option.some.injEq, Nat.reduceEqDiff, Int.reduceToNat, Nat.reduceSub, Nat.reduceAdd, Nat.reduceMul, Nat.reduceLT, Nat.reduceLeDiff, reduceCtorEq, ↓reduceIte, catT, enc0, enc1, if_pos, if_neg])
    | (refine gX_split (fun hb => ?_) (fun hb => ?_) <;> (try simp only [hb]) <;> (try simp only [bset0, reduceCtorEq] at hb) <;> simp (maxSteps := 4000000) (disch := omega) only [dr0, dr1, dr2, dr3, dr4, if_true, if_false, Option.some.injEq, Nat.reduceEqDiff, Int.reduceToNat, Nat.reduceSub, Nat.reduceAdd, Nat.reduceMul, Nat.reduceLT, Nat.reduceLeDiff, reduceCtorEq, ↓reduceIte, catT, enc0, enc1, if_pos, if_neg])
    | (refine CWx.br rfl (fun hb => ?_) (fun hb => ?_) <;> first | exact Bool.noConfusion hb | (first | (simp only [bset0, reduceCtorEq] at hb; done) | ((try simp only [bset0, reduceCtorEq] at hb); first | contradiction | skip)))
    | (refine CWx.e fun K hK => ?_; simp (maxSteps := 4000000) (disch := omega) only [dr0, dr1, dr2, dr3, dr4, if_true, if_false, Option.some.injEq, Nat.reduceEqDiff, Int.reduceToNat, Nat.reduceSub, Nat.reduceAdd, Nat.reduceMul, Nat.reduceLT, Nat.reduceLeDiff, reduceCtorEq, ↓reduceIte, catT, enc0, enc1, if_pos, if_neg])
    | (refine CWx.block (id := 0) ?_; refine CWx.loopK (ι := Nat) [0, 3] (fun i => l.length - i) (fun i => [(5, .int .i64 (i : Int))]) (fun i => [.row false 0 false 2 [pt p]]) (fun i => i ≤ l.length ∧ ∀ x, x < i → N0 l p x) (fun i => by simp only [keepA, Am.get, List.cons_append, List.nil_append, Nat.reduceEqDiff, ↓reduceIte]; exact rfl) (0) ?_ ?_ (fun i hi => ?_); (focus ((try dsimp only) <;> (first | trivial | omega | (refine ⟨?_, ?_⟩ <;> first | omega | trivial | simp_all) | simp_all); done)); (focus (refine Fgt.mk' 1 (by simp) ?_ ?_ ?_ <;> simp [-List.map_take, -List.map_map, AV.isY, ltL_append, ix_nil, keepB, Am.get, AV.lt, ltL, lt_pts, lt_pt, lt_ixV, ltL_ix, ltL_pt, Blk.lt, ltB]; done)); have Hi := hi; (skip))
    | (refine CWx.block (id := 2) ?_; refine CWx.loopK (ι := Nat) [0, 3, 5] (fun j => i - j) (fun j => [(6, .int .i64 (j : Int))]) (fun j => [.row false 0 false 2 [pt p]]) (fun j => j ≤ i ∧ ∀ y, y < j → N1 l p i y) (fun i => by simp only [keepA, Am.get, List.cons_append, List.nil_append, Nat.reduceEqDiff, ↓reduceIte]; exact rfl) (0) ?_ ?_ (fun j hi => ?_); (focus ((try dsimp only) <;> (first | trivial | omega | (refine ⟨?_, ?_⟩ <;> first | omega | trivial | simp_all) | simp_all); done)); (focus (refine Fgt.mk' 1 (by simp) ?_ ?_ ?_ <;> simp [-List.map_take, -List.map_map, AV.isY, ltL_append, ix_nil, keepB, Am.get, AV.lt, ltL, lt_pts, lt_pt, lt_ixV, ltL_ix, ltL_pt, Blk.lt, ltB]; done)); have Hj := hi; (skip))
    | (refine CWx.block (id := 4) ?_; refine CWx.loopK (ι := Nat) [0, 3, 5, 6] (fun k => j - k) (fun k => [(7, .int .i64 (k : Int))]) (fun k => [.row false 0 false 2 [pt p]]) (fun k => k ≤ j ∧ ∀ z, z < k → inTri p (P l i) (P l j) (P l z) = false) (fun i => by simp only [keepA, Am.get, List.cons_append, List.nil_append, Nat.reduceEqDiff, ↓reduceIte]; exact rfl) (0) ?_ ?_ (fun k hi => ?_); (focus ((try dsimp only) <;> (first | trivial | omega | (refine ⟨?_, ?_⟩ <;> first | omega | trivial | simp_all) | simp_all); done)); (focus (refine Fgt.mk' 1 (by simp) ?_ ?_ ?_ <;> simp [-List.map_take, -List.map_map, AV.isY, ltL_append, ix_nil, keepB, Am.get, AV.lt, ltL, lt_pts, lt_pt, lt_ixV, ltL_ix, ltL_pt, Blk.lt, ltB]; done)); have Hk := hi; (skip))
    | refine CWx.seq ?_
    | refine CWx.block (id := 1) ?_
    | refine CWx.block (id := 3) ?_
    | refine CWx.block (id := 5) ?_
    | refine CWx.skip ?_
    | (refine CWx.exit (id := 4) ?_; (have ek : k = j := by omega))
    | refine CWx.exit ?_
    | (refine CWx.ret fun al hal => finK_ext hal (finK_pure (.inr rfl) (by simp only [resRV, Am.get, Nat.reduceEqDiff, ↓reduceIte]; exact rfl) ?_ ?_); (focus (first | ((simp only [tupAV]; congr 1; symm; rw [inB_iff]; exact ⟨i, by omega, .inl (by assumption)⟩); done) | ((simp only [tupAV]; congr 1; symm; rw [inB_iff]; exact ⟨i, by omega, .inr ⟨j, by omega, .inl (by assumption)⟩⟩); done) | ((simp only [tupAV]; congr 1; symm; rw [inB_iff]; exact ⟨i, by omega, .inr ⟨j, by omega, .inr ⟨k, by omega, by assumption⟩⟩⟩); done) | ((rw [inB_f (fun x hx => hi.2 x (by omega))]; rfl); done) | (rfl; done) | ((simp only [tupAV]; congr <;> omega); done) | (simp [tupAV, *]; done))); (focus (first | rfl | (simp [AV.allR, allRL, allRL_ix]; done))))
    | (intro al hal; refine ⟨k + 1, ?_, ?_, Fgt.ofx hal ?_⟩; (focus (first | omega | (dsimp only; omega))); (focus (exact ⟨by omega, allUp hi.2 (by assumption)⟩; done)); (focus (refine Fgt.mk' 1 (by simp) ?_ ?_ ?_ <;> simp [-List.map_take, -List.map_map, AV.isY, ltL_append, ix_nil, keepB, Am.get, AV.lt, ltL, lt_pts, lt_pt, lt_ixV, ltL_ix, ltL_pt, Blk.lt, ltB]; done)))
    | (intro al hal; refine ⟨j + 1, ?_, ?_, Fgt.ofx hal ?_⟩; (focus (first | omega | (dsimp only; omega))); (focus (exact ⟨by omega, allUp Hj.2 ⟨by assumption, fun z hz => hi.2 z (by omega)⟩⟩; done)); (focus (refine Fgt.mk' 1 (by simp) ?_ ?_ ?_ <;> simp [-List.map_take, -List.map_map, AV.isY, ltL_append, ix_nil, keepB, Am.get, AV.lt, ltL, lt_pts, lt_pt, lt_ixV, ltL_ix, ltL_pt, Blk.lt, ltB]; done)))
    | (intro al hal; refine ⟨i + 1, ?_, ?_, Fgt.ofx hal ?_⟩; (focus (first | omega | (dsimp only; omega))); (focus (exact ⟨by omega, allUp Hi.2 ⟨by assumption, fun y hy => Hj.2 y (by omega)⟩⟩; done)); (focus (refine Fgt.mk' 1 (by simp) ?_ ?_ ?_ <;> simp [-List.map_take, -List.map_map, AV.isY, ltL_append, ix_nil, keepB, Am.get, AV.lt, ltL, lt_pts, lt_pt, lt_ixV, ltL_ix, ltL_pt, Blk.lt, ltB]; done)))
end Go.Hull
end
section
set_option linter.unusedVariables false
namespace Go.Hull

theorem left_rot (a b c : Pt) : left b c a = left a b c := by simp only [left, turn, sub]; grind
theorem inTri_rot (p a b c : Pt) : inTri p b c a = inTri p a b c := by
  rw [Bool.eq_iff_iff]
  have := left_rot a b c
  simp only [inTri, Bool.and_eq_true, Bool.or_eq_true, decide_eq_true_eq, ne_eq]; omega
theorem inTri_sw (p a b c : Pt) : inTri p b a c = inTri p a b c := by
  rw [Bool.eq_iff_iff]
  have e0 : left b a c = - left a b c := left_swap a b c
  have e1 : left b a p = - left a b p := left_swap a b p
  have e2 : left a c p = - left c a p := left_swap c a p
  have e3 : left c b p = - left b c p := left_swap b c p
  simp only [inTri, Bool.and_eq_true, Bool.or_eq_true, decide_eq_true_eq, ne_eq]; omega
theorem betw_sw (p a b : Pt) : betw p b a = betw p a b := by
  rw [Bool.eq_iff_iff]
  have e0 : left b a p = - left a b p := left_swap a b p
  have e1 : dot (sub b p) (sub a p) = dot (sub a p) (sub b p) := by simp only [dot, sub]; grind
  simp only [betw, Bool.and_eq_true, decide_eq_true_eq]; omega
theorem betw_same {p a : Pt} (h : betw p a a = true) : p = a := by
  simp only [betw, Bool.and_eq_true, decide_eq_true_eq] at h
  refine Classical.byContradiction fun hne => ?_
  have := dot_self_pos (u := sub a p) fun e => hne (sub_zero e).symm
  omega
theorem inTri_ne {p a b c : Pt} (h : inTri p a b c = true) : a ≠ b ∧ b ≠ c ∧ a ≠ c := by
  simp only [inTri, Bool.and_eq_true, decide_eq_true_eq, ne_eq] at h
  refine ⟨fun e => h.1 ?_, fun e => h.1 ?_, fun e => h.1 ?_⟩
  · rw [e, left_self1']
  · rw [e, left_self2]
  · rw [e, left_self1]
theorem mem_P {l : List Pt} {q : Pt} (h : q ∈ l) : ∃ i, i < l.length ∧ P l i = q := by
  obtain ⟨i, hi, e⟩ := List.getElem_of_mem h
  exact ⟨i, hi, by unfold P; rw [List.getD_eq_getElem?_getD, List.getElem?_eq_getElem hi]; exact e⟩
theorem inB_in (l : List Pt) (p : Pt) : inB l p = true ↔ InP (· ∈ l) p := by
  rw [inB_iff]
  constructor
  · rintro ⟨i, hi, h | ⟨j, hj, h | ⟨k, hk, h⟩⟩⟩
    · exact .inl (by rw [← h]; exact P_mem hi)
    · exact .inr (.inl ⟨_, _, P_mem hi, P_mem (by omega), h⟩)
    · exact .inr (.inr ⟨_, _, _, P_mem hi, P_mem (by omega), P_mem (by omega), h⟩)
  · have tri : ∀ i j k, i < l.length → j < i → k < j → inTri p (P l i) (P l j) (P l k) = true → ∃ i, i < l.length ∧ (P l i = p ∨ ∃ j, j < i ∧ (betw p (P l i) (P l j) = true ∨ ∃ k, k < j ∧ inTri p (P l i) (P l j) (P l k) = true)) := fun i j k hi hj hk h => ⟨i, hi, .inr ⟨j, hj, .inr ⟨k, hk, h⟩⟩⟩
    rintro (h | ⟨a, b, ha, hb, h⟩ | ⟨a, b, c, ha, hb, hc, h⟩)
    · obtain ⟨i, hi, e⟩ := mem_P h
      exact ⟨i, hi, .inl e⟩
    · obtain ⟨i, hi, rfl⟩ := mem_P ha
      obtain ⟨j, hj, rfl⟩ := mem_P hb
      rcases Nat.lt_trichotomy i j with hij | hij | hij
      · exact ⟨j, hj, .inr ⟨i, hij, .inl (by rw [betw_sw]; exact h)⟩⟩
      · subst hij; exact ⟨i, hi, .inl (betw_same h).symm⟩
      · exact ⟨i, hi, .inr ⟨j, hij, .inl h⟩⟩
    · obtain ⟨i, hi, rfl⟩ := mem_P ha
      obtain ⟨j, hj, rfl⟩ := mem_P hb
      obtain ⟨k, hk, rfl⟩ := mem_P hc
      obtain ⟨n1, n2, n3⟩ := inTri_ne h
      have e1 : i ≠ j := fun e => n1 (by rw [e])
      have e2 : j ≠ k := fun e => n2 (by rw [e])
      have e3 : i ≠ k := fun e => n3 (by rw [e])
      rcases Nat.lt_or_gt_of_ne e1 with h1 | h1 <;> rcases Nat.lt_or_gt_of_ne e2 with h2 | h2 <;> rcases Nat.lt_or_gt_of_ne e3 with h3 | h3
      · exact tri k j i hk h2 h1 (by rw [inTri_sw, inTri_rot]; exact h)
      · omega
      · exact tri j k i hj h2 h3 (by rw [inTri_rot]; exact h)
      · exact tri j i k hj h1 h3 (by rw [inTri_sw]; exact h)
      · exact tri k i j hk h3 h1 (by rw [inTri_rot, inTri_rot]; exact h)
      · exact tri i k j hi h3 h2 (by rw [inTri_sw, inTri_rot, inTri_rot]; exact h)
      · omega
      · exact tri i j k hi h1 h2 h
end Go.Hull
end
section
set_option linter.unusedSimpArgs false
set_option linter.unusedVariables false
set_option maxHeartbeats 8000000
set_option maxRecDepth 100000
namespace Go.Hull
open Go Go.Am Go.Proofs

theorem nrm_small {p q : Pt} (h : smallV (sub q p)) : ∀ d ∈ nrm p q, smallV d := by
  intro d hd
  simp only [smallV] at h
  simp only [nrm, List.mem_cons, List.not_mem_nil, or_false] at hd
  rcases hd with rfl | rfl <;> (simp only [smallV]; omega)
theorem ways_small {a b : List Pt} (oka : a.all okP = true) (okb : b.all okP = true) : ∀ d ∈ waysI a b, smallV d := by
  have hA : ∀ i, i ≤ a.length → ∀ d ∈ wA a b i, smallV d := by
    intro i hi d hd
    obtain ⟨p, hp, hd⟩ := List.mem_flatMap.1 hd
    obtain ⟨q, hq, rfl⟩ := List.mem_map.1 hd
    exact sub_small (List.all_eq_true.1 okb q hq) (List.all_eq_true.1 oka p (List.mem_of_mem_take hp))
  have h1 : ∀ (m i : Nat), i < (LL a b m).length → ∀ j, i + j < (LL a b m).length → ∀ d ∈ wN1 (LL a b m) i j, smallV d := by
    intro m i hi j
    induction j with
    | zero => intro _ d hd; cases hd
    | succ j ih =>
      intro hj d hd
      rw [wN1] at hd
      rcases List.mem_append.1 hd with h | h
      · exact ih (by omega) d h
      · exact nrm_small (sub_small (LL_ok oka okb m _ (by omega)) (LL_ok oka okb m _ hi)) d h
  have h2 : ∀ (m i : Nat), i ≤ (LL a b m).length → ∀ d ∈ wN (LL a b m) i, smallV d := by
    intro m i
    induction i with
    | zero => intro _ d hd; cases hd
    | succ i ih =>
      intro hi d hd
      rw [wN] at hd
      rcases List.mem_append.1 hd with h | h
      · exact ih (by omega) d h
      · exact h1 m i (by omega) _ (by omega) d h
  have h3 : ∀ m, ∀ d ∈ wP a b m, smallV d := by
    intro m
    induction m with
    | zero => exact hA _ (Nat.le_refl _)
    | succ m ih =>
      intro d hd
      rw [wP] at hd
      rcases List.mem_append.1 hd with h | h
      · exact ih d h
      · exact h2 m _ (Nat.le_refl _) d h
  exact h3 2
/-- What Separated says. -/
def sepR (a b : List Pt) : Bool × Pt × Int × Int :=
  if chk a ≠ 0 then (false, (0, 0), 0, chk a) else if chk b ≠ 0 then (false, (0, 0), 0, chk b) else if a.length = 0 ∨ b.length = 0 then (false, (0, 0), 0, 13)
  else match (waysI a b).find? (spl a b) with
    | some d => (true, d, topN a d a.length, 0)
    | none => (false, (0, 0), 0, 0)
def sepV (r : Bool × Pt × Int × Int) : AV := .tup [.bool r.1, pt r.2.1, .int .i64 r.2.2.1, .int .i64 r.2.2.2]
theorem allR_pts (l : List Pt) (p : Nat → Nat → Bool) : (pts l).allR p true = true := by simp only [pts, AV.allR, allRL_pts, Bool.and_self]
theorem mapR_pts (l : List Pt) (σ : Nat → Nat → Nat × Nat) : (pts l).mapR σ = pts l := mapR_id (q := true) _ (allR_pts l _)
theorem c67 (a b : List Pt) : CallsF Try.prog 67 [pts a, pts b] [] (.clo 97 [.ptr 0 0 0 0, .ptr 1 0 0 0]) [.row false 0 false 1 [pts a], .row false 0 false 1 [pts b]] := by
  refine callsF_cwx hm hf67 (by simp [cf67]) ?_
  simp only [cf67, argsAl]
  repeat' first
    | (refine hK _ _ _ (by first | exact fun h => Bool.noConfusion h | exact fun _ => rfl) ?_; clear hK K)
    | (refine CWx.r fun K hK => ?_; simp (maxSteps := 4000000) (disch := omega) only [dr0, dr1, dr2, dr3, dr4, if_true, if_false, Option.some.injEq, Nat.reduceEqDiff, Int.reduceToNat, Nat.reduceSub, Nat.reduceAdd, Nat.reduceMul, Nat.reduceLT, Nat.reduceLeDiff, reduceCtorEq, ↓reduceIte, catT, enc0, enc1, if_pos, if_neg])
    | refine CWx.go ?_
    | (refine gX_split (fun hb => ?_) (fun hb => ?_) <;> (try simp only [hb]) <;> (try simp only [bset0, reduceCtorEq] at hb) <;> simp (maxSteps := 4000000) (disch := omega) only [dr0, dr1, dr2, dr3, dr4, if_true, if_false, Option.some.injEq, Nat.reduceEqDiff, Int.reduceToNat, Nat.reduceSub, Nat.reduceAdd, Nat.reduceMul, Nat.reduceLT, Nat.reduceLeDiff, reduceCtorEq, ↓reduceIte, catT, enc0, enc1, if_pos, if_neg])
    | (refine CWx.br rfl (fun hb => ?_) (fun hb => ?_) <;> first | exact Bool.noConfusion hb | (first | (simp only [bset0, reduceCtorEq] at hb; done) | ((try simp only [bset0, reduceCtorEq] at hb); first | contradiction | skip)))
    | (refine CWx.e fun K hK => ?_; simp (maxSteps := 4000000) (disch := omega) only [dr0, dr1, dr2, dr3, dr4, if_true, if_false, Option.some.injEq, Nat.reduceEqDiff, Int.reduceToNat, Nat.reduceSub, Nat.reduceAdd, Nat.reduceMul, Nat.reduceLT, Nat.reduceLeDiff, reduceCtorEq, ↓reduceIte, catT, enc0, enc1, if_pos, if_neg])
    | refine CWx.seq ?_
    | refine CWx.skip ?_
    | refine CWx.exit ?_
    | (refine CWx.ret fun al hal => finK_ext hal (finK_pure (.inr rfl) (by simp only [resRV, Am.get, Nat.reduceEqDiff, ↓reduceIte]; exact rfl) ?_ ?_); (focus (first | (rfl; done) | ((simp only [tupAV]; congr <;> omega); done) | (simp [tupAV, *]; done))); (focus (first | rfl | (simp [AV.allR, allRL, allRL_ix]; done))))
    | (refine CWx.ret fun al hal => finK_ext hal (finK_news [(0, 0), (1, 0)] (.inr rfl) (xs := [.clo 97 [.ptr 0 0 0 0, .ptr 1 0 0 0]]) (by simp [resRV, Am.get]) ?_ rfl ?_))
    | (simp [exOk, Nodups, hget, Blk.allR, allRL, allR_pts, tupAV, AV.allR, sigP, rowGen]; done)
    | (simp [exHl, hget, Blk.mapR, mapRL, mapR_pts, Blk.zero]; done)
end Go.Hull
end
