/- What compiled code does, and that the machine does it.
   Conditions: none. -/
import Derived.Test.YtkbpkbjfphdgeaaAm9
section
set_option linter.unusedSimpArgs false
set_option linter.unusedVariables false
namespace Go.Am
open Go Go.RowKit

def regK (draw : Bool) (K : Exit → St → Prop) (s : St) (tr : List (List Nat × List Nat × Nat)) : Prop := (draw = true → blkOk 0 tr = true) ∧ K .normal s

theorem AWp.region {P : Program} (hm : P.follows .mixedOrders = true) {r : Option Nat} {E : Env} {id : Nat} {ops : Array Oper} {draw : Bool} {cs : List COp} (hc : compReg P E.n ops draw = some cs) {s : St} {K : Exit → St → Prop} (h : RunOps P cs s.al s.hl [] (regK draw K)) : AWp P r E (.region id ops draw) s K := by
  intro a w hr
  unfold compReg at hc
  split at hc <;> first | (cases hc; done) | skip
  rename_i cs' hcs
  have hidx : ∀ (k : Nat) (o : Oper), ops.toList[k]? = some o → ops[0 + k]? = some o := fun k o hk => by simpa using hk
  cases draw with
  | false =>
    simp only [Bool.false_eq_true, if_false, Option.some.injEq] at hc hcs; subst hc
    refine wpIn_region ?_
    have := RunOps.text (E := E) (ops := ops) (r := r) (Q := fun e a' w' => ∃ s', Rel E s' a' w' ∧ K e s') _ _ _ 0 _ _ _ _ hcs hidx h (fun s t a w hr hk => ⟨s, hr, hk.2⟩) a w hr
    rwa [Array.length_toList, ← List.range_eq_range'] at this
  | true =>
    simp only [if_true] at hc hcs
    split at hc <;> first | (cases hc; done) | skip
    rename_i hok
    simp only [Option.some.injEq] at hc; subst hc
    obtain ⟨L, s', M, e1, ⟨hblk, hK⟩, e3, e4, e5, e6, e7⟩ := RunOps.steps _ _ _ 0 _ _ _ _ hcs hidx h
    have hlen : L.length = ops.size := by
      have := (befOk_spec _ _ _ hok.1).1
      rw [← e1] at this
      simpa using this.symm
    refine wpIn_region_any hm ?_
    have hr0 : RelF E (get s.al) (hget s.hl) a { w with drawn := w.drawn + 1 } := by
      obtain ⟨κ, hx, hcg, hi, hs, hn, hmk, hE⟩ := rel_relF.1 hr
      have hd : Ext κ w κ { w with drawn := w.drawn + 1 } := ⟨rfl, fun _ _ _ h => h, fun _ => Nat.le_refl _, fun _ _ _ _ h => h, fun _ C _ h => ⟨C, h, rfl⟩, rfl⟩
      exact ⟨κ, hx.trans hd, ⟨hcg.os, hcg.tape, hcg.output, hcg.size, hcg.blk, hcg.lies, hcg.prot⟩, hi.heapEq rfl, fun t => (hs t).ext hd, hn, hmk, hE⟩
    refine draw_any (E := E) (L := L) (s := get s.al) (h := hget s.hl) hlen ?_ ?_ ?_ (fun x hx => (e4 x hx).2) ⟨M, hget_dead _ _ e3, fun x hx p hp => Nat.ne_of_lt ((e4 x hx).1 p hp)⟩ (fun j x hx => by have := e7 j x hx; rwa [Nat.zero_add] at this) (fun a' w' hr' => ⟨s', ?_, hK⟩) ops.size _ a _ (by simp) ?_ ?_ ?_
    · have : L.map (·.c.bef) = (L.map (·.c)).map (·.bef) := by simp
      rw [this, e1]; exact hok.1
    · rw [e1]; exact hok.2
    · simpa using hblk rfl
    · have : ∀ n m, cnt (fun k => (Array.replicate m false).getD k false) n ≤ n := by
        intro n m
        induction n with
        | zero => exact Nat.le_refl _
        | succ n ih => simp only [cnt]; split <;> omega
      exact this _ _
    · intro j x _ hl
      by_cases hj : j < ops.size <;> simp [hj] at hl
    · have z : (fun k => (Array.replicate ops.size false).getD k false) = fun _ => false := by
        funext k
        by_cases hk : k < ops.size <;> simp [hk]
      rw [z]
      have a1 : gF sEff (fun _ => false) 0 L (get s.al) = get s.al := by funext t; exact gF_none s1 _ _ _ fun _ _ _ _ => rfl
      have a2 : gF hEff (fun _ => false) 0 L (hget s.hl) = hget s.hl := by funext t; exact gF_none h1 _ _ _ fun _ _ _ _ => rfl
      rw [a1, a2]; exact hr0
    · refine rel_relF.2 ?_
      rw [e5, e6]
      have a1 : sAt L (get s.al) ops.size = gF sEff (fun _ => true) 0 L (get s.al) := gF_all L 0 _ fun k hk => by simp; omega
      have a2 : hAt L (hget s.hl) ops.size = gF hEff (fun _ => true) 0 L (hget s.hl) := gF_all L 0 _ fun k hk => by simp; omega
      rwa [a1, a2] at hr'

def thenK (K : Exit → St → Prop) (Y : St → Prop) : Exit → St → Prop
  | .normal, s => Y s
  | e, s => K e s

/-- The least that is shut under going once round. -/
def CLoop (W : St → (Exit → St → Prop) → Prop) (s : St) (K : Exit → St → Prop) : Prop := ∀ X : St → Prop, (∀ s, W s (thenK K X) → X s) → X s

def bodyK (Kont : Option Exit → List Blk → Prop) : Exit → St → Prop := fun e s => match e with
  | .normal => Kont none s.hl
  | .ret => Kont (some .ret) s.hl
  | .exit id => Kont (some (.exit id)) s.hl
  | _ => False

/-- When an iterator has returned. -/
def rangeK (rvs : List RV) (n0 : Nat) (al : List (Nat × AV)) (K : Exit → St → Prop) : Exit → St → Option Exit → Prop := fun e s' st' =>
  (e = .normal ∨ e = .ret) ∧ (resRV s'.al s'.hl rvs).isSome = true ∧ (st' = none ∨ st' = some .ret ∨ ∃ id, st' = some (.exit id)) ∧
    ∃ m, n0 ≤ m ∧ (∀ b ∈ s'.hl.take m, b.lt m = true) ∧ K (st'.getD .normal) ⟨al, s'.hl.take m⟩

/-- What compiled code does. m0: rows below it are kept; tp: the activation is none of a round. -/
def CWp (P : Program) : CCode → Nat → Bool → St → (Exit → St → Prop) → Prop
  | .skip, _, _, s, K => K .normal s
  | .region draw ops, _, _, s, K => RunOps P ops s.al s.hl [] (regK draw K)
  | .seq x y, m0, tp, s, K => CWp P x m0 tp s (thenK K fun s' => CWp P y m0 tp s' K)
  | .cond c x y, m0, tp, s, K => match c.ev (get s.al) with
    | .bool true => CWp P x m0 tp s K
    | .bool false => CWp P y m0 tp s K
    | _ => False
  | .block id c, m0, tp, s, K => CWp P c m0 tp s (blockK id K)
  | .loop c, m0, tp, s, K => CLoop (fun s K => (∃ (m : Nat) (al' : List (Nat × AV)), (m0 ≤ m ∧ (∀ p ∈ al', get s.al p.1 = p.2 ∧ (p.2.lt m || p.2.isY) = true) ∧ ∀ b ∈ s.hl.take m, b.lt m = true) ∧ CWp P c m0 tp ⟨al', s.hl.take m⟩ K) ∨ CWp P c m0 tp s K) s K
  | .rangeF f ps x y, _, tp, s, K => tp = true ∧ ∃ (fid : FuncId) (caps : List AV) (F : CFn), f.ev (get s.al) = .clo fid caps ∧ compF P fid = some F ∧ caps.length + 1 ≤ F.n ∧
      YWp P s.hl.length (fun vs hl Kont => vs.length = ps.length ∧ CWp P x hl.length false ⟨setPs s.al ps vs, hl⟩ (fun e s1 => e = .normal ∧ CWp P y s1.hl.length false s1 (bodyK Kont))) F.code ⟨argsAl 0 (.yld :: caps), s.hl⟩ none (rangeK F.rvs s.hl.length s.al K)
  | .exit id, _, _, s, K => K (.exit id) s
  | .ret, _, _, s, K => K .ret s

/-- A round of a loop. -/
def Yh (P : Program) (al : List (Nat × AV)) (ps : List Nat) (x y : CCode) : Hdl := fun vs hl Kont => vs.length = ps.length ∧ CWp P x hl.length false ⟨setPs al ps vs, hl⟩ (fun e s1 => e = .normal ∧ CWp P y s1.hl.length false s1 (bodyK Kont))

theorem bodyK.mono {K K' : Option Exit → List Blk → Prop} (h : ∀ r hl, K r hl → K' r hl) : ∀ e s, bodyK K e s → bodyK K' e s := by
  intro e s hk
  cases e <;> simp only [bodyK] at hk ⊢ <;> exact h _ _ hk

theorem CWp.mono {P : Program} : ∀ (c : CCode) (m0 : Nat) (tp : Bool) (s : St) {K K' : Exit → St → Prop}, (∀ e s, K e s → K' e s) → CWp P c m0 tp s K → CWp P c m0 tp s K' := by
  intro c
  induction c with
  | skip => intro m0 tp s K K' hk h; exact hk _ _ h
  | exit id => intro m0 tp s K K' hk h; exact hk _ _ h
  | ret => intro m0 tp s K K' hk h; exact hk _ _ h
  | rangeF f ps x y ihx ihy =>
    intro m0 tp s K K' hk h
    obtain ⟨h0, fid, caps, F, h1, h2, h3, h4⟩ := h
    refine ⟨h0, fid, caps, F, h1, h2, h3, YWp.mono (fun vs hl Q Q' hQ hq => ⟨hq.1, ihx _ _ _ (fun e s h => ⟨h.1, ihy _ _ _ (bodyK.mono hQ) h.2⟩) hq.2⟩) _ _ _ (fun e s t h => ?_) h4⟩
    obtain ⟨a1, a2, a3, m, a4, a5, a6⟩ := h
    exact ⟨a1, a2, a3, m, a4, a5, hk _ _ a6⟩
  | region draw ops => intro m0 tp s K K' hk h; exact RunOps.mono _ _ _ _ (fun s t h => ⟨h.1, hk _ _ h.2⟩) h
  | seq x y ihx ihy =>
    intro m0 tp s K K' hk h
    refine ihx m0 tp s (fun e s' h => ?_) h
    cases e <;> first | exact ihy m0 tp s' hk h | exact hk _ _ h
  | cond c x y ihx ihy =>
    intro m0 tp s K K' hk h
    simp only [CWp] at h ⊢
    split at h
    · exact ihx m0 tp s hk h
    · exact ihy m0 tp s hk h
    · exact h
  | block id c ih =>
    intro m0 tp s K K' hk h
    refine ih m0 tp s (fun e s' h => ?_) h
    cases e <;> simp only [blockK] at h ⊢ <;> first | exact hk _ _ h | skip
    split at h <;> (rename_i he; first | rw [if_pos he] | rw [if_neg he]) <;> exact hk _ _ h
  | loop c ih =>
    intro m0 tp s K K' hk h
    intro X hX
    refine h X fun s' hh => hX s' ?_
    rcases hh with ⟨m, al', h1, h2⟩ | h2
    · refine .inl ⟨m, al', h1, ih _ _ _ (fun e s h => ?_) h2⟩
      cases e <;> first | exact h | exact hk _ _ h
    · refine .inr (ih _ _ _ (fun e s h => ?_) h2)
      cases e <;> first | exact h | exact hk _ _ h

theorem Yh.mono (P : Program) (al : List (Nat × AV)) (ps : List Nat) (x y : CCode) : (Yh P al ps x y).Mono := fun vs hl Q Q' hQ hq => ⟨hq.1, CWp.mono _ _ _ _ (fun e s h => ⟨h.1, CWp.mono _ _ _ _ (bodyK.mono hQ) h.2⟩) hq.2⟩

theorem YOk.round {P : Program} {Ei : Env} {al : List (Nat × AV)} {a : Act} {n l D fn : Nat} {ps : Array Tmp} {x y : Code} {cx cy : CCode} (hs : SRel Ei.κ Ei.w (get al) a) (hn : a.tmps.size = n) (hps : (ps.toList.all fun p => decide (p < n)) = true)
    (ihx : ∀ E' : Env, E'.n = n → E'.mb ≤ E'.w.heap.size → ∀ (s : St) (K : Exit → St → Prop), CWp P cx E'.hl.length false s K → AWp P (some l) E' x s K)
    (ihy : ∀ E' : Env, E'.n = n → E'.mb ≤ E'.w.heap.size → ∀ (s : St) (K : Exit → St → Prop), CWp P cy E'.hl.length false s K → AWp P (some l) E' y s K) :
    YOk P Ei l { state := .ready, pending := none, fn, tmps := a.tmps, params := ps, assign := x, body := y, defers := D } (Yh P al ps.toList cx cy) := by
  rintro vs hl Kont ⟨hlen, hcw⟩ κ w0 us hx hi hl0 hsz hrel
  obtain ⟨R, hR⟩ : ∃ R : Loop, R = { state := .ready, pending := none, fn, tmps := a.tmps, params := ps, assign := x, body := y, defers := D } := ⟨_, rfl⟩
  have hst : R.state = .ready := by rw [hR]
  have hpd : R.pending = none := by rw [hR]
  have hbd : R.body = y := by rw [hR]
  refine ⟨by show us.size = ps.size; rw [← hsz, hlen]; simp, roundIn_of_wpIn trivial ?_⟩
  show x.wpIn (wideR (some l)) 0 P _ { tmps := (ps.zip us).foldl (fun tmps (t, a) => tmps.setIfInBounds t a) a.tmps, defers := [] } w0
  rw [← hR] at hl0 ⊢
  obtain ⟨hslots, hsize⟩ := setPs_rel (κ := κ) (w := w0) ps.toList vs us.toList al a.tmps (by rw [hn]; exact hps) (by simpa using hsz) (fun i x v h1 h2 => hrel i x v h1 (by simpa using h2)) (fun t => (hs t).ext hx)
  have hfold : (ps.zip us).foldl (fun tmps (t, a) => tmps.setIfInBounds t a) a.tmps = (ps.toList.zip us.toList).foldl (fun (tmps : Array Value) (q : Nat × Value) => tmps.setIfInBounds q.1 q.2) a.tmps := by
    rw [← Array.foldl_toList, Array.toList_zip]
  rw [← hfold] at hslots hsize
  have h1 := ihx ⟨κ, hl, w0, n, 0⟩ rfl (Nat.zero_le _) _ _ hcw { tmps := (ps.zip us).foldl (fun tmps (t, a) => tmps.setIfInBounds t a) a.tmps, defers := [] } w0 ⟨κ, .refl _ _, .refl _ _ _, hi, hslots, by rw [← hn]; exact hsize, ⟨[], by simp, rfl, by simp⟩, hi⟩
  refine wpIn_mono h1 ?_
  rintro e a1 w1 ⟨s1, ⟨κ1, hx1, hc1, hi1, hs1, hn1, hmk1, -⟩, rfl, hcw1⟩
  have hl1 := hc1.keepObj hi hl0 (loop_ncells R)
  have hlt1 := (Array.getElem?_eq_some_iff.1 hl1).1
  obtain ⟨Rb, hRb⟩ : ∃ Rb : Loop, Rb = { R with state := .busy } := ⟨_, rfl⟩
  have hx1b := (Ext.refl κ1 w1).put l _ (.loop Rb) hl1 (loop_ncells R)
  have hi1b := hi1.put l _ (.loop Rb) hl1 (loop_ncells R)
  have hl1b : (w1.putObj l (.loop Rb)).heap[l]? = some (.loop Rb) := World.putObj_heap_same hlt1
  refine ⟨w1.putObj l (.loop Rb), by rw [hRb]; exact run_beginRound hl1 hst, ?_⟩
  rw [hbd]
  have h2 := ihy ⟨κ1, s1.hl, w1.putObj l (.loop Rb), n, 0⟩ rfl (Nat.zero_le _) _ _ hcw1 a1 _ ⟨κ1, .refl _ _, .refl _ _ _, hi1b, fun t => (hs1 t).ext hx1b, hn1, hmk1.put hl1 _, hi1b⟩
  refine wpIn_mono h2 ?_
  rintro e a2 w2 ⟨s2, ⟨κ2, hx2, hc2, hi2, hs2, hn2, hmk2, -⟩, hK⟩
  have hl2 := hc2.keepObj hi1b hl1b (loop_ncells Rb)
  have hlt2 := (Array.getElem?_eq_some_iff.1 hl2).1
  cases e with
  | normal =>
    refine ⟨_, _, run_endRound none hl2, ?_⟩
    have ho : ({ Rb with state := if (none : Option Code).isNone then .ready else .done, pending := none } : Loop) = recAt R none := by
      rw [hRb]
      show ({ R with state := .ready, pending := none } : Loop) = R
      rw [← hst, ← hpd]
    rw [ho]
    have hcc := hc2.conj hi1b hl1b (loop_ncells Rb) (.loop R)
    rw [putObj_put, putObj_self hl1] at hcc
    exact ⟨none, s2.hl, κ2, w2.putObj l (.loop R), rfl, (hx1.trans (hx1b.trans hx2)).put l _ _ hl2 (loop_ncells Rb), hc1.trans hcc, hi2.put l _ _ hl2 (loop_ncells Rb), World.putObj_heap_same hlt2, by rw [putObj_put], hK⟩
  | ret =>
    refine ⟨_, _, run_endRound (some .ret) hl2, ?_⟩
    have hcc := hc2.conj hi1b hl1b (loop_ncells Rb) (.loop R)
    rw [putObj_put, putObj_self hl1] at hcc
    exact ⟨some .ret, s2.hl, κ2, w2.putObj l (.loop R), rfl, (hx1.trans (hx1b.trans hx2)).put l _ _ hl2 (loop_ncells Rb), hc1.trans hcc, hi2.put l _ _ hl2 (loop_ncells Rb), World.putObj_heap_same hlt2, by rw [putObj_put, hRb]; rfl, hK⟩
  | exit id =>
    refine ⟨_, _, run_endRound (some (.exit id)) hl2, ?_⟩
    have hcc := hc2.conj hi1b hl1b (loop_ncells Rb) (.loop R)
    rw [putObj_put, putObj_self hl1] at hcc
    exact ⟨some (.exit id), s2.hl, κ2, w2.putObj l (.loop R), rfl, (hx1.trans (hx1b.trans hx2)).put l _ _ hl2 (loop_ncells Rb), hc1.trans hcc, hi2.put l _ _ hl2 (loop_ncells Rb), World.putObj_heap_same hlt2, by rw [putObj_put, hRb]; rfl, hK⟩
  | goto t => exact hK.elim
  | panic c => exact hK.elim
  | outgrown => exact hK.elim

theorem CWp.sound {P : Program} (hm : P.follows .mixedOrders = true) : ∀ (code : Code) (r : Option Nat) (E : Env) (m0 : Nat) (tp : Bool), (tp = true → r = none ∧ E.κ.yl = none) → E.hl.length ≤ m0 → E.mb ≤ E.w.heap.size → ∀ (c : CCode), compC P E.n code = some c → ∀ (s : St) (K : Exit → St → Prop), CWp P c m0 tp s K → AWp P r E code s K := by
  intro code
  induction code with
  | skip => intro r E m0 tp htp hE hmb c hc s K h; simp only [compC, Option.some.injEq] at hc; subst hc; exact AWp.skip h
  | exit id => intro r E m0 tp htp hE hmb c hc s K h; simp only [compC, Option.some.injEq] at hc; subst hc; exact AWp.exit h
  | ret => intro r E m0 tp htp hE hmb c hc s K h; simp only [compC, Option.some.injEq] at hc; subst hc; exact AWp.ret h
  | region id ops draw =>
    intro r E m0 tp htp hE hmb c hc s K h
    obtain ⟨cs, h1, rfl⟩ := Option.map_eq_some_iff.1 hc
    exact AWp.region hm h1 h
  | seq x y ihx ihy =>
    intro r E m0 tp htp hE hmb c hc s K h
    simp only [compC] at hc
    split at hc <;> first | (cases hc; done) | skip
    rename_i cx cy hx hy
    simp only [Option.some.injEq] at hc; subst hc
    refine AWp.seq (AWp.mono (ihx r E m0 tp htp hE hmb cx hx s _ h) fun e s' h => ?_)
    cases e <;> first | exact ihy r E m0 tp htp hE hmb cy hy s' K h | exact h
  | cond c x y ihx ihy =>
    intro r E m0 tp htp hE hmb cc hc s K h
    simp only [compC] at hc
    split at hc <;> first | (cases hc; done) | skip
    rename_i cx cy hx hy
    simp only [Option.some.injEq] at hc; subst hc
    simp only [CWp] at h
    split at h
    · rename_i hb; exact AWp.cond (t := true) hb (ihx r E m0 tp htp hE hmb cx hx s K h)
    · rename_i hb; exact AWp.cond (t := false) hb (ihy r E m0 tp htp hE hmb cy hy s K h)
    · exact h.elim
  | block id c ih =>
    intro r E m0 tp htp hE hmb cc hc s K h
    obtain ⟨c', h1, rfl⟩ := Option.map_eq_some_iff.1 hc
    exact AWp.block (ih r E m0 tp htp hE hmb c' h1 s _ h)
  | loop c ih =>
    intro r E m0 tp htp hE hmb cc hc s K h
    obtain ⟨c', h1, rfl⟩ := Option.map_eq_some_iff.1 hc
    refine AWp.loop (h (fun s => ALoop P r E c s K) fun s' hh => ?_)
    rcases hh with ⟨m, al', ⟨h2, h3, h4⟩, h5⟩ | h5
    · refine ALoop.forget m al' (Nat.le_trans hE h2) h3 h4 (ALoop.round (AWp.mono (ih r E m0 tp htp hE hmb c' h1 _ _ h5) fun e s'' h6 => ?_))
      cases e <;> exact h6
    · refine ALoop.round (AWp.mono (ih r E m0 tp htp hE hmb c' h1 _ _ h5) fun e s'' h6 => ?_)
      cases e <;> exact h6
  | rangeFunc f ps x y ihx ihy =>
    intro r E m0 tp htp hE hmb cc hc s K h
    simp only [compC] at hc
    split at hc <;> first | (cases hc; done) | skip
    rename_i cx cy hx hy
    split at hc <;> first | (cases hc; done) | skip
    rename_i hps
    simp only [Option.some.injEq] at hc; subst hc
    obtain ⟨htp1, fid, caps, F, h1, h2, h3, h4⟩ := h
    obtain ⟨rfl, hyl⟩ := htp htp1
    refine AWp.rangeF hm hmb h1 h2 h3 (Yh P s.al ps.toList cx cy) hyl (fun κ w1 a l D fn hs hn => ?_) h4
    exact YOk.round hs hn hps (fun E' hn' hmb' s K hK => ihx (some l) E' _ false (by simp) (Nat.le_refl _) hmb' cx (by rw [hn']; exact hx) s K hK) (fun E' hn' hmb' s K hK => ihy (some l) E' _ false (by simp) (Nat.le_refl _) hmb' cy (by rw [hn']; exact hy) s K hK)
  | _ => intro r E m0 tp htp hE hmb cc hc; simp [compC] at hc

/-! ### Rules for going through -/
/-- A region, then what follows. -/
theorem CWp.rI {P : Program} {m0 : Nat} {tp : Bool} {draw : Bool} {ops : List COp} {y : CCode} {s : St} {K : Exit → St → Prop} (h : ∀ K' : St → List (List Nat × List Nat × Nat) → Prop, (∀ s tr, (draw = true → blkOk 0 tr = true) → CWp P y m0 tp s K → K' s tr) → RunOps P ops s.al s.hl [] K') : CWp P (.seq (.region draw ops) y) m0 tp s K :=
  h _ fun _ _ h1 h2 => ⟨h1, h2⟩
theorem RunCall.intro {P : Program} {f : Opd} {xs : List Opd} {dst : Option Nat} {bef : Nat} {al : List (Nat × AV)} {hl : List Blk} {tr : List (List Nat × List Nat × Nat)} {next : List (Nat × AV) → List Blk → List (List Nat × List Nat × Nat) → Prop}
    {fid : FuncId} {caps : List AV} {T : List Nat} {r : AV} {W : List (Nat × Blk)} (hf : f.ev (get al) = .clo fid caps) {X : List AV} (hX : xs.map (·.ev (get al)) ++ caps = X) (hC : CallsL P fid X (hget hl) T r W) (hW : (okW hl.length W && W.all (fun p => T.contains p.1)) = true)
    (h : next (setO al dst r) (hsetL hl W) ((T, W.map Prod.fst, bef) :: tr)) : RunCall P f xs dst bef al hl tr next := ⟨fid, caps, T, r, W, hf, hX ▸ hC, hW, h⟩
/-- A call of a function that makes no rows and is given none. -/
theorem CallsF.pure {P : Program} {f : FuncId} {args : List AV} {r : AV} (hC : CallsF P f args [] r []) (h1 : ltL 0 args = true) (h2 : r.lt 0 = true) (h : Nat → Blk) : CallsL P f args h [] r [] := by
  have := hC.frame (h := h) (names := []) (n := 0) (T := []) false ⟨rfl, Nat.le_refl _, List.nodup_nil, fun x hx => (by cases hx), fun i x hx => (by simp at hx), fun b h1 h2 => (by simp at h2 <;> omega), fun b hb => (by cases hb)⟩
    (fun x hx => (by cases hx)) (fun b h1 h2 => (by simp at h2 <;> omega)) rfl (fun i Y y hY hy => by
      rw [hY] at hy; cases hy
      exact .plain (ltL_mem h1 Y (List.mem_of_getElem? hY))) (fun h => by cases h)
  rw [ren_id r h2] at this
  exact this

end Go.Am
end

section
set_option linter.unusedSimpArgs false
set_option linter.unusedVariables false
namespace Go.Am
open Go Go.RowKit

theorem callsF_comp {P : Program} (hm : P.follows .mixedOrders = true) {f : FuncId} {F : CFn} (hF : compF P f = some F) {args : List AV} {hl : List Blk} {r : AV} {hl' : List Blk} (hargs : args.length ≤ F.n) (h : CWp P F.code hl.length true ⟨argsAl 0 args, hl⟩ (finK F.rvs hl.length r hl')) : CallsF P f args hl r hl' := by
  unfold compF at hF
  split at hF <;> first | (cases hF; done) | skip
  rename_i fn hfn
  split at hF <;> first | (cases hF; done) | skip
  rename_i hname
  split at hF <;> first | (cases hF; done) | skip
  rename_i c hc
  split at hF <;> first | (cases hF; done) | skip
  rename_i cc rvs hcc hrvs
  simp only [Option.some.injEq] at hF; subst hF
  exact callsF_of_body hfn hc (by simpa using hname) hargs hrvs fun E h1 h2 h3 h4 => CWp.sound hm c none E hl.length true (fun _ => ⟨rfl, h4⟩) (by rw [h1]; exact Nat.le_refl _) h3 cc (by rw [h2]; exact hcc) _ _ h

mutual
theorem mapR_id {σ : Nat → Nat → Nat × Nat} {q : Bool} : ∀ (x : AV), x.allR (fun _ _ => false) q = true → x.mapR σ = x
  | .agg cs, h => by simp only [AV.mapR]; rw [mapRL_id cs h]
  | .tup cs, h => by simp only [AV.mapR]; rw [mapRL_id cs h]
  | .sv _ _ cs, h => by simp only [AV.allR, Bool.and_eq_true] at h; simp only [AV.mapR]; rw [mapRL_id cs h.2]
  | .rp _ cs, h => by simp only [AV.allR, Bool.and_eq_true] at h; simp only [AV.mapR]; rw [mapRL_id cs h.2]
  | .clo _ cs, h => by simp only [AV.mapR]; rw [mapRL_id cs h]
  | .sl _ _ _ _, h => by simp [AV.allR] at h
  | .ptr _ _ _ _, h => by simp [AV.allR] at h
  | .yld, h => by simp [AV.allR] at h
  | .int _ _, _ => rfl
  | .bool _, _ => rfl
  | .str _, _ => rfl
  | .nilp, _ => rfl
  | .nilf, _ => rfl
  | .nili, _ => rfl
  | .nils, _ => rfl
  | .und, _ => rfl
theorem mapRL_id {σ : Nat → Nat → Nat × Nat} {q : Bool} : ∀ (l : List AV), allRL (fun _ _ => false) q l = true → mapRL σ l = l
  | [], _ => rfl
  | x :: xs, h => by
    simp only [allRL, Bool.and_eq_true] at h
    simp only [mapRL]
    rw [mapR_id x h.1, mapRL_id xs h.2]
end

/-- What is handed back holds no rows of the frame's own. -/
theorem finK_pure {rvs : List RV} {r : AV} {e : Exit} {s : St} {xs : List AV} (he : e = .normal ∨ e = .ret) (hr : resRV s.al s.hl rvs = some xs) (ht : tupAV xs = r) (hall : r.allR (fun _ _ => false) true = true) : finK rvs 0 r [] e s := by
  subst ht
  have hs : sigP 0 [] = fun _ _ => false := by funext b g; simp [sigP]
  exact ⟨he, xs, [], hr, ⟨Nat.zero_le _, fun q hq => (by cases hq), (by simp), fun b hb => (by simp at hb), fun q hq => (by cases hq), (by rw [hs]; exact hall)⟩, mapR_id _ hall, rfl⟩

end Go.Am
end

section
set_option linter.unusedSimpArgs false
set_option linter.unusedVariables false
namespace Go.Am
open Go Go.RowKit

def evA (al : List (Nat × AV)) : Opd → AV
  | .t n => get al n
  | .c v => v
def evsA (al : List (Nat × AV)) : List Opd → List AV
  | [] => []
  | x :: xs => evA al x :: evsA al xs
def evpA (al : List (Nat × AV)) : List (Nat × Nat × Opd) → List (Nat × Nat × AV)
  | [] => []
  | (a, b, x) :: xs => (a, b, evA al x) :: evpA al xs
def elemsA : List AV → Bool
  | [] => true
  | x :: xs => x.elem && elemsA xs
def elemsP : List (Nat × Nat × AV) → Bool
  | [] => true
  | x :: xs => x.2.2.elem && elemsP xs
def sizedA (sz : Nat) : List AV → Bool
  | [] => true
  | x :: xs => (x.elem && x.cells.length == sz) && sizedA sz xs
def optA (al : List (Nat × AV)) : Option Opd → Option (Option Int)
  | none => some none
  | some x => (intAV (evA al x)).map some
def wantedA (al : List (Nat × AV)) : Option (Nat × Bool) → Option Bool
  | none => some true
  | some (d, want) => match get al d with
    | .bool b => some (b == want)
    | .tup [] => some false
    | _ => none

theorem evA_t (al : List (Nat × AV)) (n : Nat) : evA al (.t n) = get al n := rfl
theorem evA_c (al : List (Nat × AV)) (v : AV) : evA al (.c v) = v := rfl
theorem evA_eq (al : List (Nat × AV)) (x : Opd) : x.ev (get al) = evA al x := by cases x <;> rfl
theorem evsA_eq (al : List (Nat × AV)) (xs : List Opd) : xs.map (·.ev (get al)) = evsA al xs := by
  induction xs with
  | nil => rfl
  | cons x xs ih => rw [List.map_cons, ih, evA_eq]; rfl
theorem evpA_eq (al : List (Nat × AV)) (xs : List (Nat × Nat × Opd)) : (xs.map fun p => (p.1, p.2.1, p.2.2.ev (get al))) = evpA al xs := by
  induction xs with
  | nil => rfl
  | cons x xs ih => obtain ⟨a, b, x⟩ := x; rw [List.map_cons, ih]; simp only [evpA, evA_eq]
theorem optA_eq (al : List (Nat × AV)) (x : Option Opd) : optInt (get al) x = optA al x := by
  cases x with
  | none => rfl
  | some x => simp only [optInt, optA, evA_eq]

def resV (v : AV) : Option Res := some { v := v }

/-- What an operation yields, told of slots in a list. -/
def aopA (c : AOp) (al : List (Nat × AV)) (hl : List Blk) : Option Res := aop c (get al) (hget hl) hl.length

section
variable (al : List (Nat × AV)) (hl : List Blk)
theorem aopA_mv (x : Opd) : aopA (.mv x) al hl = some { v := evA al x } := by simp only [aopA, aop, evA_eq] <;> rfl
theorem aopA_smv (x : Opd) : aopA (.smv x) al hl = match evA al x with | .str s => some { v := .str s } | _ => none := by simp only [aopA, aop, evA_eq] <;> rfl
theorem aopA_newnil (sz : Nat) : aopA (.newnil sz) al hl = some { v := .sl hl.length 0 0 0, ups := [(hl.length, .row true 0 false sz [])] } := rfl
theorem aopA_pick (c a b : Opd) : aopA (.pick c a b) al hl = match evA al c with | .bool t => some { v := pickAV t (evA al a) (evA al b) } | _ => none := by simp only [aopA, aop, evA_eq] <;> rfl
theorem aopA_alloc (z : AV) : aopA (.alloc z) al hl = if z.elem = true then some { v := .ptr hl.length 0 0 0, ups := [(hl.length, .row false 0 false z.cells.length [z])] } else none := rfl
theorem aopA_box (x : Opd) : aopA (.box x) al hl = if (evA al x).elem = true then some { v := .ptr hl.length 0 0 0, ups := [(hl.length, .row false 0 false (evA al x).cells.length [evA al x])] } else none := by simp only [aopA, aop, evA_eq] <;> rfl
theorem elemsP_eq (xs : List (Nat × Nat × Opd)) : (xs.all fun p => (p.2.2.ev (get al)).elem) = elemsP (evpA al xs) := by
  induction xs with
  | nil => rfl
  | cons x xs ih => obtain ⟨a, b, x⟩ := x; rw [List.all_cons, ih]; simp only [evpA, elemsP, evA_eq]
theorem sizedA_eq (sz : Nat) (xs : List Opd) : (xs.all fun x => (x.ev (get al)).elem && (x.ev (get al)).cells.length == sz) = sizedA sz (evsA al xs) := by
  induction xs with
  | nil => rfl
  | cons x xs ih => rw [List.all_cons, ih]; simp only [evsA, sizedA, evA_eq]
theorem aopA_build (z : List AV) (ps : List (Nat × Nat × Opd)) : aopA (.build z ps) al hl = if elemsP (evpA al ps) = true then (fillA z (evpA al ps)).map (fun cs => { v := .agg cs }) else none := by
  simp only [aopA, aop, elemsP_eq, evpA_eq]
theorem aopA_bsl (sz : Nat) (xs : List Opd) : aopA (.bsl sz xs) al hl = if sizedA sz (evsA al xs) = true then some { v := .sl hl.length 0 0 xs.length, ups := [(hl.length, .row false 0 false sz (evsA al xs))] } else none := by
  simp only [aopA, aop, sizedA_eq, evsA_eq]
theorem aopA_load (agg : Bool) (sz : Nat) (x : Opd) : aopA (.load agg sz x) al hl = (loadAV (hget hl) agg sz (evA al x)).map (fun v => { v := v }) := by simp only [aopA, aop, evA_eq] <;> rfl
theorem aopA_store (sz : Nat) (x v : Opd) : aopA (.store sz x v) al hl = (storeAV (hget hl) sz (evA al v) (evA al x)).map (fun u => { v := .und, ups := [u] }) := by simp only [aopA, aop, evA_eq] <;> rfl
theorem aopA_nchk (x : Opd) : aopA (.nchk x) al hl = match evA al x with | .ptr b g i o => some { v := .ptr b g i o } | .rp v cs => some { v := .rp v cs } | .clo f cs => some { v := .clo f cs } | _ => none := by simp only [aopA, aop, evA_eq] <;> rfl
theorem aopA_bin (op : BinOp) (x y : Opd) : aopA (.bin op x y) al hl = (binAV op (evA al x) (evA al y)).map (fun v => { v := v }) := by simp only [aopA, aop, evA_eq] <;> rfl
theorem aopA_eqv (neg agg : Bool) (ks : List SK) (x y : Opd) : aopA (.eqv neg agg ks x y) al hl = match agg, evA al x, evA al y with
    | true, .agg xs, .agg ys => (eqCells ks xs ys).map fun b => { v := .bool (if neg then !b else b) }
    | false, .bool a, .bool b => if ks = [.b] then some { v := .bool (if neg then !(a == b) else a == b) } else none
    | _, _, _ => none := by simp only [aopA, aop, evA_eq] <;> rfl
theorem aopA_neg (x : Opd) : aopA (.neg x) al hl = match evA al x with | .int k n => some { v := .int k (k.wrap (0 - n)) } | _ => none := by simp only [aopA, aop, evA_eq] <;> rfl
theorem aopA_not (x : Opd) : aopA (.not x) al hl = match evA al x with | .bool b => some { v := .bool !b } | _ => none := by simp only [aopA, aop, evA_eq] <;> rfl
theorem aopA_conv (k : IntKind) (x : Opd) : aopA (.conv k x) al hl = match evA al x with | .int _ n => some { v := .int k (k.wrap n) } | _ => none := by simp only [aopA, aop, evA_eq] <;> rfl
theorem aopA_ext (x : Opd) (i : Nat) : aopA (.ext x i) al hl = (extAV i (evA al x)).map (fun v => { v := v }) := by simp only [aopA, aop, evA_eq] <;> rfl
theorem aopA_faddr (x : Opd) (off : Nat) : aopA (.faddr x off) al hl = (faddrAV off (evA al x)).map (fun v => { v := v }) := by simp only [aopA, aop, evA_eq] <;> rfl
theorem aopA_fld (x : Opd) (off : Nat) (agg : Bool) (sz : Nat) : aopA (.fld x off agg sz) al hl = (fldAV off agg sz (evA al x)).map (fun v => { v := v }) := by simp only [aopA, aop, evA_eq] <;> rfl
theorem aopA_iaddr (sz : Nat) (x i : Opd) : aopA (.iaddr sz x i) al hl = match intAV (evA al i) with | some n => (iaddrAV (hget hl) sz n (evA al x)).map (fun v => { v := v }) | none => none := by simp only [aopA, aop, evA_eq] <;> rfl
theorem aopA_iaddrA (n sz : Nat) (x i : Opd) : aopA (.iaddrA n sz x i) al hl = match intAV (evA al i) with | some k => if 0 ≤ k ∧ k < (n : Int) then (faddrAV (k.toNat * sz) (evA al x)).map (fun v => { v := v }) else none | none => none := by simp only [aopA, aop, evA_eq] <;> rfl
theorem aopA_idxA (n sz : Nat) (agg : Bool) (x i : Opd) : aopA (.idxA n sz agg x i) al hl = match intAV (evA al i) with | some k => if 0 ≤ k ∧ k < (n : Int) then (fldAV (k.toNat * sz) agg sz (evA al x)).map (fun v => { v := v }) else none | none => none := by simp only [aopA, aop, evA_eq] <;> rfl
def slcA (hl : List Blk) (sz : Nat) (l u : Option Int) : AV → Option Res
  | .sl b g i n => match hget hl b with
    | .row _ g' _ rsz _ => if g' = g ∧ rsz = sz then (slcAV l u (.sl b g i n)).map fun v => { v := v } else none
    | .dead => none
  | .sv vol rsz xs => if rsz = sz then (slcAV l u (.sv vol rsz xs)).map fun v => { v := v } else none
  | _ => none
theorem aopA_slc (sz : Nat) (x : Opd) (lo hi : Option Opd) : aopA (.slc sz x lo hi) al hl = match optA al lo, optA al hi with | some l, some u => slcA hl sz l u (evA al x) | _, _ => none := by
  simp only [aopA, aop, evA_eq, optA_eq]
  rfl
theorem aopA_mks (sz b : Nat) (z : AV) (n : Opd) : aopA (.mks sz b z n) al hl = match evA al n with
    | .int .i64 n => if 0 ≤ n ∧ n.toNat * b ≤ appBound ∧ z.elem = true then some { v := .sl hl.length 0 0 n.toNat, ups := [(hl.length, .row false 0 false sz (List.replicate n.toNat z))] } else none
    | _ => none := by simp only [aopA, aop, evA_eq] <;> rfl
theorem aopA_mkf (f : FuncId) (caps : List Opd) : aopA (.mkf f caps) al hl = some { v := .clo f (evsA al caps) } := by simp only [aopA, aop, evsA_eq] <;> rfl
theorem aopA_len (x : Opd) : aopA (.len x) al hl = (lenAV (evA al x)).map (fun v => { v := v }) := by simp only [aopA, aop, evA_eq] <;> rfl
theorem aopA_lenS (x : Opd) : aopA (.lenS x) al hl = match evA al x with | .str s => some { v := .int .i64 s.size } | _ => none := by simp only [aopA, aop, evA_eq] <;> rfl
theorem aopA_lenC (n : Nat) : aopA (.lenC n) al hl = some { v := .int .i64 n } := rfl
theorem aopA_append (sz b : Nat) (x y : Opd) : aopA (.append sz b x y) al hl = match contAV (hget hl) sz (evA al y) with | some ys => appendAV (hget hl) hl.length sz b (evA al x) ys | none => none := by simp only [aopA, aop, evA_eq] <;> rfl
theorem aopA_idxS (x i : Opd) : aopA (.idxS x i) al hl = match evA al x, intAV (evA al i) with
    | .str s, some k => if 0 ≤ k then (match s[k.toNat]? with
      | some b => some { v := .int .u8 b.toNat }
      | none => none) else none
    | _, _ => none := by simp only [aopA, aop, evA_eq] <;> rfl
theorem aopA_slcM (sz : Nat) (x hi mx : Opd) : aopA (.slcM sz x hi mx) al hl = match intAV (evA al hi), intAV (evA al mx) with
    | some u, some m => if u = m then slcMAV (hget hl) sz u (evA al x) else none
    | _, _ => none := by simp only [aopA, aop, evA_eq] <;> rfl
theorem aopA_clear (sz : Nat) (z : AV) (x : Opd) : aopA (.clear sz z x) al hl = clearAV (hget hl) sz z (evA al x) := by simp only [aopA, aop, evA_eq] <;> rfl
theorem aopA_mx (xs : List Opd) : aopA (.mx xs) al hl = match evsA al xs with | x :: rest => (foldAV maxI x rest).map (fun v => { v := v }) | [] => none := by simp only [aopA, aop, evsA_eq] <;> rfl
theorem aopA_mn (xs : List Opd) : aopA (.mn xs) al hl = match evsA al xs with | x :: rest => (foldAV minI x rest).map (fun v => { v := v }) | [] => none := by simp only [aopA, aop, evsA_eq] <;> rfl
end

def touchA (c : AOp) (al : List (Nat × AV)) : List Nat := c.touch (get al)
def refA : AOp → List (Nat × AV) → List Nat
  | .load _ _ x, al | .store _ x _, al | .iaddr _ x _, al | .slc _ x _ _, al | .slcM _ x _ _, al | .clear _ _ x, al => (evA al x).ref
  | .append _ _ x y, al => (evA al x).ref ++ (evA al y).ref
  | _, _ => []
theorem touchA_eq (c : AOp) (al : List (Nat × AV)) : touchA c al = refA c al := by
  cases c <;> simp only [touchA, AOp.touch, refA, evA_eq]

def isCall : AOp → Bool
  | .call _ _ => true
  | _ => false

variable {P : Program} {K : St → List (List Nat × List Nat × Nat) → Prop}
/-- 'RunOps' and 'CWp' shut, so that no elaborator looks into them. -/
structure RO (P : Program) (cs : List COp) (al : List (Nat × AV)) (hl : List Blk) (tr : List (List Nat × List Nat × Nat)) (K : St → List (List Nat × List Nat × Nat) → Prop) : Prop where
  run : RunOps P cs al hl tr K
structure CW (P : Program) (m0 : Nat) (tp : Bool) (c : CCode) (s : St) (K : Exit → St → Prop) : Prop where
  run : CWp P c m0 tp s K
theorem RO_eq (P : Program) (cs : List COp) (al : List (Nat × AV)) (hl : List Blk) (tr : List (List Nat × List Nat × Nat)) (K : St → List (List Nat × List Nat × Nat) → Prop) : RO P cs al hl tr K = RunOps P cs al hl tr K := propext ⟨fun h => h.run, fun h => ⟨h⟩⟩

theorem RunOps_nil (al : List (Nat × AV)) (hl : List Blk) (tr : List (List Nat × List Nat × Nat)) : RO P [] al hl tr K = K ⟨al, hl⟩ tr.reverse := by rw [RO_eq]; rfl
theorem RunOps_call (f : Opd) (xs : List Opd) (dst : Option Nat) (bef : Nat) (cs : List COp) (al : List (Nat × AV)) (hl : List Blk) (tr : List (List Nat × List Nat × Nat)) :
    RO P (⟨.call f xs, dst, none, bef⟩ :: cs) al hl tr K = RunCall P f xs dst bef al hl tr fun al hl tr => RO P cs al hl tr K := by
  simp only [RO_eq]; rfl

/-- After an operation that is no call. -/
def after (P : Program) (cs : List COp) (op : AOp) (dst : Option Nat) (bef : Nat) (al : List (Nat × AV)) (hl : List Blk) (tr : List (List Nat × List Nat × Nat)) (K : St → List (List Nat × List Nat × Nat) → Prop) : Option Res → Prop
  | none => False
  | some r => RO P cs (setO al dst r.v) (hsetL hl r.ups) ((refA op al ++ r.ups.map Prod.fst, r.ups.map Prod.fst, bef) :: tr) K
theorem after_some (cs : List COp) (op : AOp) (dst : Option Nat) (bef : Nat) (al : List (Nat × AV)) (hl : List Blk) (tr : List (List Nat × List Nat × Nat)) (v : AV) (W : List (Nat × Blk)) :
    after P cs op dst bef al hl tr K (some ⟨v, W⟩) = RO P cs (setO al dst v) (hsetL hl W) ((refA op al ++ W.map Prod.fst, W.map Prod.fst, bef) :: tr) K := rfl
variable (dst : Option Nat) (bef : Nat) (cs : List COp) (al : List (Nat × AV)) (hl : List Blk) (tr : List (List Nat × List Nat × Nat))
theorem RunOps_op (op : AOp) (h : isCall op = false) : RO P (⟨op, dst, none, bef⟩ :: cs) al hl tr K = after P cs op dst bef al hl tr K (aopA op al hl) := by
  cases op <;> first | (cases h; done) | skip
  all_goals
    rw [RO_eq]
    simp only [RunOps, wantedAV]
    unfold after
    simp only [RO_eq]
    rw [← touchA_eq]
    rfl
theorem R_mv (x : Opd) : RO P (⟨.mv x, dst, none, bef⟩ :: cs) al hl tr K = after P cs (.mv x) dst bef al hl tr K (aopA (.mv x) al hl) := RunOps_op dst bef cs al hl tr _ rfl
theorem R_smv (x : Opd) : RO P (⟨.smv x, dst, none, bef⟩ :: cs) al hl tr K = after P cs (.smv x) dst bef al hl tr K (aopA (.smv x) al hl) := RunOps_op dst bef cs al hl tr _ rfl
theorem R_newnil (sz : Nat) : RO P (⟨.newnil sz, dst, none, bef⟩ :: cs) al hl tr K = after P cs (.newnil sz) dst bef al hl tr K (aopA (.newnil sz) al hl) := RunOps_op dst bef cs al hl tr _ rfl
theorem R_pick (c : Opd) (a : Opd) (b : Opd) : RO P (⟨.pick c a b, dst, none, bef⟩ :: cs) al hl tr K = after P cs (.pick c a b) dst bef al hl tr K (aopA (.pick c a b) al hl) := RunOps_op dst bef cs al hl tr _ rfl
theorem R_alloc (z : AV) : RO P (⟨.alloc z, dst, none, bef⟩ :: cs) al hl tr K = after P cs (.alloc z) dst bef al hl tr K (aopA (.alloc z) al hl) := RunOps_op dst bef cs al hl tr _ rfl
theorem R_box (x : Opd) : RO P (⟨.box x, dst, none, bef⟩ :: cs) al hl tr K = after P cs (.box x) dst bef al hl tr K (aopA (.box x) al hl) := RunOps_op dst bef cs al hl tr _ rfl
theorem R_build (z : List AV) (ps : List (Nat × Nat × Opd)) : RO P (⟨.build z ps, dst, none, bef⟩ :: cs) al hl tr K = after P cs (.build z ps) dst bef al hl tr K (aopA (.build z ps) al hl) := RunOps_op dst bef cs al hl tr _ rfl
theorem R_bsl (sz : Nat) (xs : List Opd) : RO P (⟨.bsl sz xs, dst, none, bef⟩ :: cs) al hl tr K = after P cs (.bsl sz xs) dst bef al hl tr K (aopA (.bsl sz xs) al hl) := RunOps_op dst bef cs al hl tr _ rfl
theorem R_load (agg : Bool) (sz : Nat) (x : Opd) : RO P (⟨.load agg sz x, dst, none, bef⟩ :: cs) al hl tr K = after P cs (.load agg sz x) dst bef al hl tr K (aopA (.load agg sz x) al hl) := RunOps_op dst bef cs al hl tr _ rfl
theorem R_store (sz : Nat) (x : Opd) (v : Opd) : RO P (⟨.store sz x v, dst, none, bef⟩ :: cs) al hl tr K = after P cs (.store sz x v) dst bef al hl tr K (aopA (.store sz x v) al hl) := RunOps_op dst bef cs al hl tr _ rfl
theorem R_nchk (x : Opd) : RO P (⟨.nchk x, dst, none, bef⟩ :: cs) al hl tr K = after P cs (.nchk x) dst bef al hl tr K (aopA (.nchk x) al hl) := RunOps_op dst bef cs al hl tr _ rfl
theorem R_bin (o : BinOp) (x : Opd) (y : Opd) : RO P (⟨.bin o x y, dst, none, bef⟩ :: cs) al hl tr K = after P cs (.bin o x y) dst bef al hl tr K (aopA (.bin o x y) al hl) := RunOps_op dst bef cs al hl tr _ rfl
theorem R_eqv (neg : Bool) (agg : Bool) (ks : List SK) (x : Opd) (y : Opd) : RO P (⟨.eqv neg agg ks x y, dst, none, bef⟩ :: cs) al hl tr K = after P cs (.eqv neg agg ks x y) dst bef al hl tr K (aopA (.eqv neg agg ks x y) al hl) := RunOps_op dst bef cs al hl tr _ rfl
theorem R_neg (x : Opd) : RO P (⟨.neg x, dst, none, bef⟩ :: cs) al hl tr K = after P cs (.neg x) dst bef al hl tr K (aopA (.neg x) al hl) := RunOps_op dst bef cs al hl tr _ rfl
theorem R_not (x : Opd) : RO P (⟨.not x, dst, none, bef⟩ :: cs) al hl tr K = after P cs (.not x) dst bef al hl tr K (aopA (.not x) al hl) := RunOps_op dst bef cs al hl tr _ rfl
theorem R_conv (k : IntKind) (x : Opd) : RO P (⟨.conv k x, dst, none, bef⟩ :: cs) al hl tr K = after P cs (.conv k x) dst bef al hl tr K (aopA (.conv k x) al hl) := RunOps_op dst bef cs al hl tr _ rfl
theorem R_ext (x : Opd) (i : Nat) : RO P (⟨.ext x i, dst, none, bef⟩ :: cs) al hl tr K = after P cs (.ext x i) dst bef al hl tr K (aopA (.ext x i) al hl) := RunOps_op dst bef cs al hl tr _ rfl
theorem R_faddr (x : Opd) (off : Nat) : RO P (⟨.faddr x off, dst, none, bef⟩ :: cs) al hl tr K = after P cs (.faddr x off) dst bef al hl tr K (aopA (.faddr x off) al hl) := RunOps_op dst bef cs al hl tr _ rfl
theorem R_fld (x : Opd) (off : Nat) (agg : Bool) (sz : Nat) : RO P (⟨.fld x off agg sz, dst, none, bef⟩ :: cs) al hl tr K = after P cs (.fld x off agg sz) dst bef al hl tr K (aopA (.fld x off agg sz) al hl) := RunOps_op dst bef cs al hl tr _ rfl
theorem R_iaddr (sz : Nat) (x : Opd) (i : Opd) : RO P (⟨.iaddr sz x i, dst, none, bef⟩ :: cs) al hl tr K = after P cs (.iaddr sz x i) dst bef al hl tr K (aopA (.iaddr sz x i) al hl) := RunOps_op dst bef cs al hl tr _ rfl
theorem R_iaddrA (n : Nat) (sz : Nat) (x : Opd) (i : Opd) : RO P (⟨.iaddrA n sz x i, dst, none, bef⟩ :: cs) al hl tr K = after P cs (.iaddrA n sz x i) dst bef al hl tr K (aopA (.iaddrA n sz x i) al hl) := RunOps_op dst bef cs al hl tr _ rfl
theorem R_idxA (n : Nat) (sz : Nat) (agg : Bool) (x : Opd) (i : Opd) : RO P (⟨.idxA n sz agg x i, dst, none, bef⟩ :: cs) al hl tr K = after P cs (.idxA n sz agg x i) dst bef al hl tr K (aopA (.idxA n sz agg x i) al hl) := RunOps_op dst bef cs al hl tr _ rfl
theorem R_slc (sz : Nat) (x : Opd) (lo : Option Opd) (hi : Option Opd) : RO P (⟨.slc sz x lo hi, dst, none, bef⟩ :: cs) al hl tr K = after P cs (.slc sz x lo hi) dst bef al hl tr K (aopA (.slc sz x lo hi) al hl) := RunOps_op dst bef cs al hl tr _ rfl
theorem R_mks (sz : Nat) (b : Nat) (z : AV) (n : Opd) : RO P (⟨.mks sz b z n, dst, none, bef⟩ :: cs) al hl tr K = after P cs (.mks sz b z n) dst bef al hl tr K (aopA (.mks sz b z n) al hl) := RunOps_op dst bef cs al hl tr _ rfl
theorem R_mkf (f : FuncId) (caps : List Opd) : RO P (⟨.mkf f caps, dst, none, bef⟩ :: cs) al hl tr K = after P cs (.mkf f caps) dst bef al hl tr K (aopA (.mkf f caps) al hl) := RunOps_op dst bef cs al hl tr _ rfl
theorem R_len (x : Opd) : RO P (⟨.len x, dst, none, bef⟩ :: cs) al hl tr K = after P cs (.len x) dst bef al hl tr K (aopA (.len x) al hl) := RunOps_op dst bef cs al hl tr _ rfl
theorem R_lenS (x : Opd) : RO P (⟨.lenS x, dst, none, bef⟩ :: cs) al hl tr K = after P cs (.lenS x) dst bef al hl tr K (aopA (.lenS x) al hl) := RunOps_op dst bef cs al hl tr _ rfl
theorem R_lenC (n : Nat) : RO P (⟨.lenC n, dst, none, bef⟩ :: cs) al hl tr K = after P cs (.lenC n) dst bef al hl tr K (aopA (.lenC n) al hl) := RunOps_op dst bef cs al hl tr _ rfl
theorem R_append (sz : Nat) (b : Nat) (x : Opd) (y : Opd) : RO P (⟨.append sz b x y, dst, none, bef⟩ :: cs) al hl tr K = after P cs (.append sz b x y) dst bef al hl tr K (aopA (.append sz b x y) al hl) := RunOps_op dst bef cs al hl tr _ rfl
theorem R_idxS (x i : Opd) : RO P (⟨.idxS x i, dst, none, bef⟩ :: cs) al hl tr K = after P cs (.idxS x i) dst bef al hl tr K (aopA (.idxS x i) al hl) := RunOps_op dst bef cs al hl tr _ rfl
theorem R_slcM (sz : Nat) (x hi mx : Opd) : RO P (⟨.slcM sz x hi mx, dst, none, bef⟩ :: cs) al hl tr K = after P cs (.slcM sz x hi mx) dst bef al hl tr K (aopA (.slcM sz x hi mx) al hl) := RunOps_op dst bef cs al hl tr _ rfl
theorem R_clear (sz : Nat) (z : AV) (x : Opd) : RO P (⟨.clear sz z x, dst, none, bef⟩ :: cs) al hl tr K = after P cs (.clear sz z x) dst bef al hl tr K (aopA (.clear sz z x) al hl) := RunOps_op dst bef cs al hl tr _ rfl
theorem R_mx (xs : List Opd) : RO P (⟨.mx xs, dst, none, bef⟩ :: cs) al hl tr K = after P cs (.mx xs) dst bef al hl tr K (aopA (.mx xs) al hl) := RunOps_op dst bef cs al hl tr _ rfl
theorem R_mn (xs : List Opd) : RO P (⟨.mn xs, dst, none, bef⟩ :: cs) al hl tr K = after P cs (.mn xs) dst bef al hl tr K (aopA (.mn xs) al hl) := RunOps_op dst bef cs al hl tr _ rfl
/-! ### Rules for going through -/
theorem CW.seq {m0 : Nat} {tp : Bool} {x y : CCode} {s : St} {K : Exit → St → Prop} (h : CW P m0 tp x s (thenK K fun s' => CW P m0 tp y s' K)) : CW P m0 tp (.seq x y) s K := by
  have h1 : CWp P x m0 tp s (thenK K fun s' => CWp P y m0 tp s' K) := CWp.mono x m0 tp s (fun e s' (h : thenK K (fun s' => CW P m0 tp y s' K) e s') => by cases e <;> first | exact CW.run h | exact h) h.run
  exact ⟨h1⟩
/-- A region, then what follows. -/
theorem CW.rI {m0 : Nat} {tp : Bool} {draw : Bool} {ops : List COp} {y : CCode} {s : St} {K : Exit → St → Prop} (h : ∀ K' : St → List (List Nat × List Nat × Nat) → Prop, (∀ s tr, (draw = true → blkOk 0 tr = true) → CW P m0 tp y s K → K' s tr) → RO P ops s.al s.hl [] K') : CW P m0 tp (.seq (.region draw ops) y) s K :=
  ⟨(h _ fun _ _ h1 h2 => ⟨h1, h2.run⟩).run⟩
/-- A region at the end. -/
theorem CW.rE {m0 : Nat} {tp : Bool} {draw : Bool} {ops : List COp} {s : St} {K : Exit → St → Prop} (h : ∀ K' : St → List (List Nat × List Nat × Nat) → Prop, (∀ s tr, (draw = true → blkOk 0 tr = true) → K .normal s → K' s tr) → RO P ops s.al s.hl [] K') : CW P m0 tp (.region draw ops) s K :=
  ⟨(h _ fun _ _ h1 h2 => ⟨h1, h2⟩).run⟩
theorem CW.ret {m0 : Nat} {tp : Bool} {s : St} {K : Exit → St → Prop} (h : K .ret s) : CW P m0 tp .ret s K := ⟨h⟩
theorem CW.exit {m0 id : Nat} {tp : Bool} {s : St} {K : Exit → St → Prop} (h : K (.exit id) s) : CW P m0 tp (.exit id) s K := ⟨h⟩
theorem CW.skip {m0 : Nat} {tp : Bool} {s : St} {K : Exit → St → Prop} (h : K .normal s) : CW P m0 tp .skip s K := ⟨h⟩
theorem CW.block {m0 id : Nat} {tp : Bool} {c : CCode} {s : St} {K : Exit → St → Prop} (h : CW P m0 tp c s (blockK id K)) : CW P m0 tp (.block id c) s K := ⟨h.run⟩
theorem CW.condT {m0 : Nat} {tp : Bool} {c : Opd} {x y : CCode} {s : St} {K : Exit → St → Prop} (hc : evA s.al c = .bool true) (h : CW P m0 tp x s K) : CW P m0 tp (.cond c x y) s K := ⟨by simp only [CWp, evA_eq, hc]; exact h.run⟩
theorem CW.condF {m0 : Nat} {tp : Bool} {c : Opd} {x y : CCode} {s : St} {K : Exit → St → Prop} (hc : evA s.al c = .bool false) (h : CW P m0 tp y s K) : CW P m0 tp (.cond c x y) s K := ⟨by simp only [CWp, evA_eq, hc]; exact h.run⟩
theorem callsF_cw (hm : P.follows .mixedOrders = true) {f : FuncId} {F : CFn} (hF : compF P f = some F) {args : List AV} {hl : List Blk} {r : AV} {hl' : List Blk} (hargs : args.length ≤ F.n) (h : CW P hl.length true F.code ⟨argsAl 0 args, hl⟩ (finK F.rvs hl.length r hl')) : CallsF P f args hl r hl' := callsF_comp hm hF hargs h.run
end Go.Am
end
