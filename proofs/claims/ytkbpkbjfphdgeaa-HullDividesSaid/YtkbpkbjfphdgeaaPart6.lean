/- What compiled code does, and that the machine does it.
   Conditions: none. -/
import Derived.Test.YtkbpkbjfphdgeaaPart5
section
set_option linter.unusedSimpArgs false
set_option linter.unusedVariables false
namespace Go.Am
open Go Go.RowKit

def regK (draw : Bool) (K : Exit → St → Prop) (s : St) (tr : List (List Nat × List Nat × Nat)) : Prop := (draw = true → blkOk 0 tr = true) ∧ K .normal s
theorem AWp.region {P : Program} (hm : P.follows .mixedOrders = true) {r : Option Nat} {E : Env} {id : Nat} {ops : Array Oper} {draw : Bool} {cs : List COp} (hc : compReg P E.n ops draw = some cs) {s : St} {K : Exit → St → Prop} (h : RunOps P cs s.al s.hl [] (regK draw K)) : AWp P r E (.region id ops draw) s K := by
  intro a w hr
  unfold compReg at hc
  split at hc <;> first | (cases hc; done) | skip
  rename_i cs' hcs
  have hidx : ∀ (k : Nat) (o : Oper), ops.toList[k]? = some o → ops[0 + k]? = some o := fun k o hk => by simpa using hk
  cases draw with
  | false =>
    simp only [Bool.false_eq_true, if_false, Option.some.injEq] at hc hcs; subst hc
    refine wpIn_region ?_
    have := RunOps.text (E := E) (ops := ops) (r := r) (Q := fun e a' w' => ∃ s', Rel E s' a' w' ∧ K e s') _ _ _ 0 _ _ _ _ hcs hidx h (fun s t a w hr hk => ⟨s, hr, hk.2⟩) a w hr
    rwa [Array.length_toList, ← List.range_eq_range'] at this
  | true =>
    simp only [if_true] at hc hcs
    split at hc <;> first | (cases hc; done) | skip
    rename_i hok
    simp only [Option.some.injEq] at hc; subst hc
    obtain ⟨L, s', M, e1, ⟨hblk, hK⟩, e3, e4, e5, e6, e7⟩ := RunOps.steps _ _ _ 0 _ _ _ _ hcs hidx h
    have hlen : L.length = ops.size := by
      have := (befOk_spec _ _ _ hok.1).1
      rw [← e1] at this
      simpa using this.symm
    refine wpIn_region_any hm ?_
    have hr0 : RelF E (get s.al) (hget s.hl) a { w with drawn := w.drawn + 1 } := by
      obtain ⟨κ, hx, hcg, hi, hs, hn, hmk, hE⟩ := rel_relF.1 hr
      have hd : Ext κ w κ { w with drawn := w.drawn + 1 } := ⟨rfl, fun _ _ _ h => h, fun _ => Nat.le_refl _, fun _ _ _ _ h => h, fun _ C _ h => ⟨C, h, rfl⟩, rfl⟩
      exact ⟨κ, hx.trans hd, ⟨hcg.os, hcg.tape, hcg.output, hcg.size, hcg.blk, hcg.lies, hcg.prot⟩, hi.heapEq rfl, fun t => (hs t).ext hd, hn, hmk, hE⟩
    refine draw_any (E := E) (L := L) (s := get s.al) (h := hget s.hl) hlen ?_ ?_ ?_ (fun x hx => (e4 x hx).2) ⟨M, hget_dead _ _ e3, fun x hx p hp => Nat.ne_of_lt ((e4 x hx).1 p hp)⟩ (fun j x hx => by have := e7 j x hx; rwa [Nat.zero_add] at this) (fun a' w' hr' => ⟨s', ?_, hK⟩) ops.size _ a _ (by simp) ?_ ?_ ?_
    · have : L.map (·.c.bef) = (L.map (·.c)).map (·.bef) := by simp
      rw [this, e1]; exact hok.1
    · rw [e1]; exact hok.2
    · simpa using hblk rfl
    · have : ∀ n m, cnt (fun k => (Array.replicate m false).getD k false) n ≤ n := by
        intro n m
        induction n with
        | zero => exact Nat.le_refl _
        | succ n ih => simp only [cnt]; split <;> omega
      exact this _ _
    · intro j x _ hl
      by_cases hj : j < ops.size <;> simp [hj] at hl
    · have z : (fun k => (Array.replicate ops.size false).getD k false) = fun _ => false := by
        funext k
        by_cases hk : k < ops.size <;> simp [hk]
      rw [z]
      have a1 : gF sEff (fun _ => false) 0 L (get s.al) = get s.al := by funext t; exact gF_none s1 _ _ _ fun _ _ _ _ => rfl
      have a2 : gF hEff (fun _ => false) 0 L (hget s.hl) = hget s.hl := by funext t; exact gF_none h1 _ _ _ fun _ _ _ _ => rfl
      rw [a1, a2]; exact hr0
    · refine rel_relF.2 ?_
      rw [e5, e6]
      have a1 : sAt L (get s.al) ops.size = gF sEff (fun _ => true) 0 L (get s.al) := gF_all L 0 _ fun k hk => by simp; omega
      have a2 : hAt L (hget s.hl) ops.size = gF hEff (fun _ => true) 0 L (hget s.hl) := gF_all L 0 _ fun k hk => by simp; omega
      rwa [a1, a2] at hr'
def thenK (K : Exit → St → Prop) (Y : St → Prop) : Exit → St → Prop
  | .normal, s => Y s
  | e, s => K e s
/-- The least that is shut under going once round. -/
def CLoop (W : St → (Exit → St → Prop) → Prop) (s : St) (K : Exit → St → Prop) : Prop := ∀ X : St → Prop, (∀ s, W s (thenK K X) → X s) → X s
def bodyK (Kont : Option Exit → List Blk → Prop) : Exit → St → Prop := fun e s => match e with
  | .normal => Kont none s.hl
  | .ret => Kont (some .ret) s.hl
  | .exit id => Kont (some (.exit id)) s.hl
  | _ => False
/-- When an iterator has returned. -/
def rangeK (rvs : List RV) (n0 : Nat) (al : List (Nat × AV)) (K : Exit → St → Prop) : Exit → St → Option Exit → Prop := fun e s' st' =>
  (e = .normal ∨ e = .ret) ∧ (resRV s'.al s'.hl rvs).isSome = true ∧ (st' = none ∨ st' = some .ret ∨ ∃ id, st' = some (.exit id)) ∧
    ∃ m, n0 ≤ m ∧ (∀ b ∈ s'.hl.take m, b.lt m = true) ∧ K (st'.getD .normal) ⟨al, s'.hl.take m⟩
/-- What compiled code does. m0: rows below it are kept; tp: the activation is none of a round. -/
def CWp (P : Program) : CCode → Nat → Bool → St → (Exit → St → Prop) → Prop
  | .skip, _, _, s, K => K .normal s
  | .region draw ops, _, _, s, K => RunOps P ops s.al s.hl [] (regK draw K)
  | .seq x y, m0, tp, s, K => CWp P x m0 tp s (thenK K fun s' => CWp P y m0 tp s' K)
  | .cond c x y, m0, tp, s, K => match c.ev (get s.al) with
    | .bool true => CWp P x m0 tp s K
    | .bool false => CWp P y m0 tp s K
    | _ => False
  | .block id c, m0, tp, s, K => CWp P c m0 tp s (blockK id K)
  | .loop c, m0, tp, s, K => CLoop (fun s K => (∃ (m : Nat) (al' : List (Nat × AV)), (m0 ≤ m ∧ (∀ p ∈ al', get s.al p.1 = p.2 ∧ (p.2.lt m || p.2.isY) = true) ∧ ∀ b ∈ s.hl.take m, b.lt m = true) ∧ CWp P c m0 tp ⟨al', s.hl.take m⟩ K) ∨ CWp P c m0 tp s K) s K
  | .rangeF f ps x y, _, tp, s, K => tp = true ∧ ∃ (fid : FuncId) (caps : List AV) (F : CFn), f.ev (get s.al) = .clo fid caps ∧ compF P fid = some F ∧ caps.length + 1 ≤ F.n ∧
      YWp P s.hl.length (fun vs hl Kont => vs.length = ps.length ∧ CWp P x hl.length false ⟨setPs s.al ps vs, hl⟩ (fun e s1 => e = .normal ∧ CWp P y s1.hl.length false s1 (bodyK Kont))) F.code ⟨argsAl 0 (.yld :: caps), s.hl⟩ none (rangeK F.rvs s.hl.length s.al K)
  | .exit id, _, _, s, K => K (.exit id) s
  | .ret, _, _, s, K => K .ret s
/-- A round of a loop. -/
def Yh (P : Program) (al : List (Nat × AV)) (ps : List Nat) (x y : CCode) : Hdl := fun vs hl Kont => vs.length = ps.length ∧ CWp P x hl.length false ⟨setPs al ps vs, hl⟩ (fun e s1 => e = .normal ∧ CWp P y s1.hl.length false s1 (bodyK Kont))
theorem bodyK.mono {K K' : Option Exit → List Blk → Prop} (h : ∀ r hl, K r hl → K' r hl) : ∀ e s, bodyK K e s → bodyK K' e s := by
  intro e s hk
  cases e <;> simp only [bodyK] at hk ⊢ <;> exact h _ _ hk
theorem CWp.mono {P : Program} : ∀ (c : CCode) (m0 : Nat) (tp : Bool) (s : St) {K K' : Exit → St → Prop}, (∀ e s, K e s → K' e s) → CWp P c m0 tp s K → CWp P c m0 tp s K' := by
  intro c
  induction c with
  | skip => intro m0 tp s K K' hk h; exact hk _ _ h
  | exit id => intro m0 tp s K K' hk h; exact hk _ _ h
  | ret => intro m0 tp s K K' hk h; exact hk _ _ h
  | rangeF f ps x y ihx ihy =>
    intro m0 tp s K K' hk h
    obtain ⟨h0, fid, caps, F, h1, h2, h3, h4⟩ := h
    refine ⟨h0, fid, caps, F, h1, h2, h3, YWp.mono (fun vs hl Q Q' hQ hq => ⟨hq.1, ihx _ _ _ (fun e s h => ⟨h.1, ihy _ _ _ (bodyK.mono hQ) h.2⟩) hq.2⟩) _ _ _ (fun e s t h => ?_) h4⟩
    obtain ⟨a1, a2, a3, m, a4, a5, a6⟩ := h
    exact ⟨a1, a2, a3, m, a4, a5, hk _ _ a6⟩
  | region draw ops => intro m0 tp s K K' hk h; exact RunOps.mono _ _ _ _ (fun s t h => ⟨h.1, hk _ _ h.2⟩) h
  | seq x y ihx ihy =>
    intro m0 tp s K K' hk h
    refine ihx m0 tp s (fun e s' h => ?_) h
    cases e <;> first | exact ihy m0 tp s' hk h | exact hk _ _ h
  | cond c x y ihx ihy =>
    intro m0 tp s K K' hk h
    simp only [CWp] at h ⊢
    split at h
    · exact ihx m0 tp s hk h
    · exact ihy m0 tp s hk h
    · exact h
  | block id c ih =>
    intro m0 tp s K K' hk h
    refine ih m0 tp s (fun e s' h => ?_) h
    cases e <;> simp only [blockK] at h ⊢ <;> first | exact hk _ _ h | skip
    split at h <;> (rename_i he; first | rw [if_pos he] | rw [if_neg he]) <;> exact hk _ _ h
  | loop c ih =>
    intro m0 tp s K K' hk h
    intro X hX
    refine h X fun s' hh => hX s' ?_
    rcases hh with ⟨m, al', h1, h2⟩ | h2
    · refine .inl ⟨m, al', h1, ih _ _ _ (fun e s h => ?_) h2⟩
      cases e <;> first | exact h | exact hk _ _ h
    · refine .inr (ih _ _ _ (fun e s h => ?_) h2)
      cases e <;> first | exact h | exact hk _ _ h
theorem Yh.mono (P : Program) (al : List (Nat × AV)) (ps : List Nat) (x y : CCode) : (Yh P al ps x y).Mono := fun vs hl Q Q' hQ hq => ⟨hq.1, CWp.mono _ _ _ _ (fun e s h => ⟨h.1, CWp.mono _ _ _ _ (bodyK.mono hQ) h.2⟩) hq.2⟩
theorem YOk.round {P : Program} {Ei : Env} {al : List (Nat × AV)} {a : Act} {n l D fn : Nat} {ps : Array Tmp} {x y : Code} {cx cy : CCode} (hs : SRel Ei.κ Ei.w (get al) a) (hn : a.tmps.size = n) (hps : (ps.toList.all fun p => decide (p < n)) = true)
    (ihx : ∀ E' : Env, E'.n = n → E'.mb ≤ E'.w.heap.size → ∀ (s : St) (K : Exit → St → Prop), CWp P cx E'.hl.length false s K → AWp P (some l) E' x s K)
    (ihy : ∀ E' : Env, E'.n = n → E'.mb ≤ E'.w.heap.size → ∀ (s : St) (K : Exit → St → Prop), CWp P cy E'.hl.length false s K → AWp P (some l) E' y s K) :
    YOk P Ei l { state := .ready, pending := none, fn, tmps := a.tmps, params := ps, assign := x, body := y, defers := D } (Yh P al ps.toList cx cy) := by
  rintro vs hl Kont ⟨hlen, hcw⟩ κ w0 us hx hi hl0 hsz hrel
  obtain ⟨R, hR⟩ : ∃ R : Loop, R = { state := .ready, pending := none, fn, tmps := a.tmps, params := ps, assign := x, body := y, defers := D } := ⟨_, rfl⟩
  have hst : R.state = .ready := by rw [hR]
  have hpd : R.pending = none := by rw [hR]
  have hbd : R.body = y := by rw [hR]
  refine ⟨by show us.size = ps.size; rw [← hsz, hlen]; simp, roundIn_of_wpIn trivial ?_⟩
  show x.wpIn (wideR (some l)) 0 P _ { tmps := (ps.zip us).foldl (fun tmps (t, a) => tmps.setIfInBounds t a) a.tmps, defers := [] } w0
  rw [← hR] at hl0 ⊢
  obtain ⟨hslots, hsize⟩ := setPs_rel (κ := κ) (w := w0) ps.toList vs us.toList al a.tmps (by rw [hn]; exact hps) (by simpa using hsz) (fun i x v h1 h2 => hrel i x v h1 (by simpa using h2)) (fun t => (hs t).ext hx)
  have hfold : (ps.zip us).foldl (fun tmps (t, a) => tmps.setIfInBounds t a) a.tmps = (ps.toList.zip us.toList).foldl (fun (tmps : Array Value) (q : Nat × Value) => tmps.setIfInBounds q.1 q.2) a.tmps := by
    rw [← Array.foldl_toList, Array.toList_zip]
  rw [← hfold] at hslots hsize
  have h1 := ihx ⟨κ, hl, w0, n, 0⟩ rfl (Nat.zero_le _) _ _ hcw { tmps := (ps.zip us).foldl (fun tmps (t, a) => tmps.setIfInBounds t a) a.tmps, defers := [] } w0 ⟨κ, .refl _ _, .refl _ _ _, hi, hslots, by rw [← hn]; exact hsize, ⟨[], by simp, rfl, by simp⟩, hi⟩
  refine wpIn_mono h1 ?_
  rintro e a1 w1 ⟨s1, ⟨κ1, hx1, hc1, hi1, hs1, hn1, hmk1, -⟩, rfl, hcw1⟩
  have hl1 := hc1.keepObj hi hl0 (loop_ncells R)
  have hlt1 := (Array.getElem?_eq_some_iff.1 hl1).1
  obtain ⟨Rb, hRb⟩ : ∃ Rb : Loop, Rb = { R with state := .busy } := ⟨_, rfl⟩
  have hx1b := (Ext.refl κ1 w1).put l _ (.loop Rb) hl1 (loop_ncells R)
  have hi1b := hi1.put l _ (.loop Rb) hl1 (loop_ncells R)
  have hl1b : (w1.putObj l (.loop Rb)).heap[l]? = some (.loop Rb) := World.putObj_heap_same hlt1
  refine ⟨w1.putObj l (.loop Rb), by rw [hRb]; exact run_beginRound hl1 hst, ?_⟩
  rw [hbd]
  have h2 := ihy ⟨κ1, s1.hl, w1.putObj l (.loop Rb), n, 0⟩ rfl (Nat.zero_le _) _ _ hcw1 a1 _ ⟨κ1, .refl _ _, .refl _ _ _, hi1b, fun t => (hs1 t).ext hx1b, hn1, hmk1.put hl1 _, hi1b⟩
  refine wpIn_mono h2 ?_
  rintro e a2 w2 ⟨s2, ⟨κ2, hx2, hc2, hi2, hs2, hn2, hmk2, -⟩, hK⟩
  have hl2 := hc2.keepObj hi1b hl1b (loop_ncells Rb)
  have hlt2 := (Array.getElem?_eq_some_iff.1 hl2).1
  cases e with
  | normal =>
    refine ⟨_, _, run_endRound none hl2, ?_⟩
    have ho : ({ Rb with state := if (none : Option Code).isNone then .ready else .done, pending := none } : Loop) = recAt R none := by
      rw [hRb]
      show ({ R with state := .ready, pending := none } : Loop) = R
      rw [← hst, ← hpd]
    rw [ho]
    have hcc := hc2.conj hi1b hl1b (loop_ncells Rb) (.loop R)
    rw [putObj_put, putObj_self hl1] at hcc
    exact ⟨none, s2.hl, κ2, w2.putObj l (.loop R), rfl, (hx1.trans (hx1b.trans hx2)).put l _ _ hl2 (loop_ncells Rb), hc1.trans hcc, hi2.put l _ _ hl2 (loop_ncells Rb), World.putObj_heap_same hlt2, by rw [putObj_put], hK⟩
  | ret =>
    refine ⟨_, _, run_endRound (some .ret) hl2, ?_⟩
    have hcc := hc2.conj hi1b hl1b (loop_ncells Rb) (.loop R)
    rw [putObj_put, putObj_self hl1] at hcc
    exact ⟨some .ret, s2.hl, κ2, w2.putObj l (.loop R), rfl, (hx1.trans (hx1b.trans hx2)).put l _ _ hl2 (loop_ncells Rb), hc1.trans hcc, hi2.put l _ _ hl2 (loop_ncells Rb), World.putObj_heap_same hlt2, by rw [putObj_put, hRb]; rfl, hK⟩
  | exit id =>
    refine ⟨_, _, run_endRound (some (.exit id)) hl2, ?_⟩
    have hcc := hc2.conj hi1b hl1b (loop_ncells Rb) (.loop R)
    rw [putObj_put, putObj_self hl1] at hcc
    exact ⟨some (.exit id), s2.hl, κ2, w2.putObj l (.loop R), rfl, (hx1.trans (hx1b.trans hx2)).put l _ _ hl2 (loop_ncells Rb), hc1.trans hcc, hi2.put l _ _ hl2 (loop_ncells Rb), World.putObj_heap_same hlt2, by rw [putObj_put, hRb]; rfl, hK⟩
  | goto t => exact hK.elim
  | panic c => exact hK.elim
  | outgrown => exact hK.elim
theorem CWp.sound {P : Program} (hm : P.follows .mixedOrders = true) : ∀ (code : Code) (r : Option Nat) (E : Env) (m0 : Nat) (tp : Bool), (tp = true → r = none ∧ E.κ.yl = none) → E.hl.length ≤ m0 → E.mb ≤ E.w.heap.size → ∀ (c : CCode), compC P E.n code = some c → ∀ (s : St) (K : Exit → St → Prop), CWp P c m0 tp s K → AWp P r E code s K := by
  intro code
  induction code with
  | skip => intro r E m0 tp htp hE hmb c hc s K h; simp only [compC, Option.some.injEq] at hc; subst hc; exact AWp.skip h
  | exit id => intro r E m0 tp htp hE hmb c hc s K h; simp only [compC, Option.some.injEq] at hc; subst hc; exact AWp.exit h
  | ret => intro r E m0 tp htp hE hmb c hc s K h; simp only [compC, Option.some.injEq] at hc; subst hc; exact AWp.ret h
  | region id ops draw =>
    intro r E m0 tp htp hE hmb c hc s K h
    obtain ⟨cs, h1, rfl⟩ := Option.map_eq_some_iff.1 hc
    exact AWp.region hm h1 h
  | seq x y ihx ihy =>
    intro r E m0 tp htp hE hmb c hc s K h
    simp only [compC] at hc
    split at hc <;> first | (cases hc; done) | skip
    rename_i cx cy hx hy
    simp only [Option.some.injEq] at hc; subst hc
    refine AWp.seq (AWp.mono (ihx r E m0 tp htp hE hmb cx hx s _ h) fun e s' h => ?_)
    cases e <;> first | exact ihy r E m0 tp htp hE hmb cy hy s' K h | exact h
  | cond c x y ihx ihy =>
    intro r E m0 tp htp hE hmb cc hc s K h
    simp only [compC] at hc
    split at hc <;> first | (cases hc; done) | skip
    rename_i cx cy hx hy
    simp only [Option.some.injEq] at hc; subst hc
    simp only [CWp] at h
    split at h
    · rename_i hb; exact AWp.cond (t := true) hb (ihx r E m0 tp htp hE hmb cx hx s K h)
    · rename_i hb; exact AWp.cond (t := false) hb (ihy r E m0 tp htp hE hmb cy hy s K h)
    · exact h.elim
  | block id c ih =>
    intro r E m0 tp htp hE hmb cc hc s K h
    obtain ⟨c', h1, rfl⟩ := Option.map_eq_some_iff.1 hc
    exact AWp.block (ih r E m0 tp htp hE hmb c' h1 s _ h)
  | loop c ih =>
    intro r E m0 tp htp hE hmb cc hc s K h
    obtain ⟨c', h1, rfl⟩ := Option.map_eq_some_iff.1 hc
    refine AWp.loop (h (fun s => ALoop P r E c s K) fun s' hh => ?_)
    rcases hh with ⟨m, al', ⟨h2, h3, h4⟩, h5⟩ | h5
    · refine ALoop.forget m al' (Nat.le_trans hE h2) h3 h4 (ALoop.round (AWp.mono (ih r E m0 tp htp hE hmb c' h1 _ _ h5) fun e s'' h6 => ?_))
      cases e <;> exact h6
    · refine ALoop.round (AWp.mono (ih r E m0 tp htp hE hmb c' h1 _ _ h5) fun e s'' h6 => ?_)
      cases e <;> exact h6
  | rangeFunc f ps x y ihx ihy =>
    intro r E m0 tp htp hE hmb cc hc s K h
    simp only [compC] at hc
    split at hc <;> first | (cases hc; done) | skip
    rename_i cx cy hx hy
    split at hc <;> first | (cases hc; done) | skip
    rename_i hps
    simp only [Option.some.injEq] at hc; subst hc
    obtain ⟨htp1, fid, caps, F, h1, h2, h3, h4⟩ := h
    obtain ⟨rfl, hyl⟩ := htp htp1
    refine AWp.rangeF hm hmb h1 h2 h3 (Yh P s.al ps.toList cx cy) hyl (fun κ w1 a l D fn hs hn => ?_) h4
    exact YOk.round hs hn hps (fun E' hn' hmb' s K hK => ihx (some l) E' _ false (by simp) (Nat.le_refl _) hmb' cx (by rw [hn']; exact hx) s K hK) (fun E' hn' hmb' s K hK => ihy (some l) E' _ false (by simp) (Nat.le_refl _) hmb' cy (by rw [hn']; exact hy) s K hK)
  | _ => intro r E m0 tp htp hE hmb cc hc; simp [compC] at hc
/-! ### Rules for going through -/
/-- A region, then what follows. -/
theorem CWp.rI {P : Program} {m0 : Nat} {tp : Bool} {draw : Bool} {ops : List COp} {y : CCode} {s : St} {K : Exit → St → Prop} (h : ∀ K' : St → List (List Nat × List Nat × Nat) → Prop, (∀ s tr, (draw = true → blkOk 0 tr = true) → CWp P y m0 tp s K → K' s tr) → RunOps P ops s.al s.hl [] K') : CWp P (.seq (.region draw ops) y) m0 tp s K :=
  h _ fun _ _ h1 h2 => ⟨h1, h2⟩
theorem RunCall.intro {P : Program} {f : Opd} {xs : List Opd} {dst : Option Nat} {bef : Nat} {al : List (Nat × AV)} {hl : List Blk} {tr : List (List Nat × List Nat × Nat)} {next : List (Nat × AV) → List Blk → List (List Nat × List Nat × Nat) → Prop}
    {fid : FuncId} {caps : List AV} {T : List Nat} {r : AV} {W : List (Nat × Blk)} (hf : f.ev (get al) = .clo fid caps) {X : List AV} (hX : xs.map (·.ev (get al)) ++ caps = X) (hC : CallsL P fid X (hget hl) T r W) (hW : (okW hl.length W && W.all (fun p => T.contains p.1)) = true)
    (h : next (setO al dst r) (hsetL hl W) ((T, W.map Prod.fst, bef) :: tr)) : RunCall P f xs dst bef al hl tr next := ⟨fid, caps, T, r, W, hf, hX ▸ hC, hW, h⟩
/-- A call of a function that makes no rows and is given none. -/
theorem CallsF.pure {P : Program} {f : FuncId} {args : List AV} {r : AV} (hC : CallsF P f args [] r []) (h1 : ltL 0 args = true) (h2 : r.lt 0 = true) (h : Nat → Blk) : CallsL P f args h [] r [] := by
  have := hC.frame (h := h) (names := []) (n := 0) (T := []) false ⟨rfl, Nat.le_refl _, List.nodup_nil, fun x hx => (by cases hx), fun i x hx => (by simp at hx), fun b h1 h2 => (by simp at h2 <;> omega), fun b hb => (by cases hb)⟩
    (fun x hx => (by cases hx)) (fun b h1 h2 => (by simp at h2 <;> omega)) rfl (fun i Y y hY hy => by
      rw [hY] at hy; cases hy
      exact .plain (ltL_mem h1 Y (List.mem_of_getElem? hY))) (fun h => by cases h)
  rw [ren_id r h2] at this
  exact this
end Go.Am
end
section
set_option linter.unusedSimpArgs false
set_option linter.unusedVariables false
namespace Go.Am
open Go Go.RowKit

theorem callsF_comp {P : Program} (hm : P.follows .mixedOrders = true) {f : FuncId} {F : CFn} (hF : compF P f = some F) {args : List AV} {hl : List Blk} {r : AV} {hl' : List Blk} (hargs : args.length ≤ F.n) (h : CWp P F.code hl.length true ⟨argsAl 0 args, hl⟩ (finK F.rvs hl.length r hl')) : CallsF P f args hl r hl' := by
  unfold compF at hF
  split at hF <;> first | (cases hF; done) | skip
  rename_i fn hfn
  split at hF <;> first | (cases hF; done) | skip
  rename_i hname
  split at hF <;> first | (cases hF; done) | skip
  rename_i c hc
  split at hF <;> first | (cases hF; done) | skip
  rename_i cc rvs hcc hrvs
  simp only [Option.some.injEq] at hF; subst hF
  exact callsF_of_body hfn hc (by simpa using hname) hargs hrvs fun E h1 h2 h3 h4 => CWp.sound hm c none E hl.length true (fun _ => ⟨rfl, h4⟩) (by rw [h1]; exact Nat.le_refl _) h3 cc (by rw [h2]; exact hcc) _ _ h
mutual
theorem mapR_id {σ : Nat → Nat → Nat × Nat} {q : Bool} : ∀ (x : AV), x.allR (fun _ _ => false) q = true → x.mapR σ = x
  | .agg cs, h => by simp only [AV.mapR]; rw [mapRL_id cs h]
  | .tup cs, h => by simp only [AV.mapR]; rw [mapRL_id cs h]
  | .sv _ _ cs, h => by simp only [AV.allR, Bool.and_eq_true] at h; simp only [AV.mapR]; rw [mapRL_id cs h.2]
  | .rp _ cs, h => by simp only [AV.allR, Bool.and_eq_true] at h; simp only [AV.mapR]; rw [mapRL_id cs h.2]
  | .clo _ cs, h => by simp only [AV.mapR]; rw [mapRL_id cs h]
  | .sl _ _ _ _, h => by simp [AV.allR] at h
  | .ptr _ _ _ _, h => by simp [AV.allR] at h
  | .yld, h => by simp [AV.allR] at h
  | .int _ _, _ => rfl
  | .bool _, _ => rfl
  | .str _, _ => rfl
  | .nilp, _ => rfl
  | .nilf, _ => rfl
  | .nili, _ => rfl
  | .nils, _ => rfl
  | .und, _ => rfl
theorem mapRL_id {σ : Nat → Nat → Nat × Nat} {q : Bool} : ∀ (l : List AV), allRL (fun _ _ => false) q l = true → mapRL σ l = l
  | [], _ => rfl
  | x :: xs, h => by
    simp only [allRL, Bool.and_eq_true] at h
    simp only [mapRL]
    rw [mapR_id x h.1, mapRL_id xs h.2]
end

/-- What is handed back holds no rows of the frame's own. -/
theorem finK_pure {rvs : List RV} {r : AV} {e : Exit} {s : St} {xs : List AV} (he : e = .normal ∨ e = .ret) (hr : resRV s.al s.hl rvs = some xs) (ht : tupAV xs = r) (hall : r.allR (fun _ _ => false) true = true) : finK rvs 0 r [] e s := by
  subst ht
  have hs : sigP 0 [] = fun _ _ => false := by funext b g; simp [sigP]
  exact ⟨he, xs, [], hr, ⟨Nat.zero_le _, fun q hq => (by cases hq), (by simp), fun b hb => (by simp at hb), fun q hq => (by cases hq), (by rw [hs]; exact hall)⟩, mapR_id _ hall, rfl⟩
end Go.Am
end
section
set_option linter.unusedSimpArgs false
set_option linter.unusedVariables false
namespace Go.Am
open Go Go.RowKit

def evA (al : List (Nat × AV)) : Opd → AV
  | .t n => get al n
  | .c v => v
def evsA (al : List (Nat × AV)) : List Opd → List AV
  | [] => []
  | x :: xs => evA al x :: evsA al xs
def evpA (al : List (Nat × AV)) : List (Nat × Nat × Opd) → List (Nat × Nat × AV)
  | [] => []
  | (a, b, x) :: xs => (a, b, evA al x) :: evpA al xs
def elemsA : List AV → Bool
  | [] => true
  | x :: xs => x.elem && elemsA xs
def elemsP : List (Nat × Nat × AV) → Bool
  | [] => true
  | x :: xs => x.2.2.elem && elemsP xs
def sizedA (sz : Nat) : List AV → Bool
  | [] => true
  | x :: xs => (x.elem && x.cells.length == sz) && sizedA sz xs
def optA (al : List (Nat × AV)) : Option Opd → Option (Option Int)
  | none => some none
  | some x => (intAV (evA al x)).map some
def wantedA (al : List (Nat × AV)) : Option (Nat × Bool) → Option Bool
  | none => some true
  | some (d, want) => match get al d with
    | .bool b => some (b == want)
    | .tup [] => some false
    | _ => none
theorem evA_t (al : List (Nat × AV)) (n : Nat) : evA al (.t n) = get al n := rfl
theorem evA_c (al : List (Nat × AV)) (v : AV) : evA al (.c v) = v := rfl
theorem evA_eq (al : List (Nat × AV)) (x : Opd) : x.ev (get al) = evA al x := by cases x <;> rfl
theorem evsA_eq (al : List (Nat × AV)) (xs : List Opd) : xs.map (·.ev (get al)) = evsA al xs := by
  induction xs with
  | nil => rfl
  | cons x xs ih => rw [List.map_cons, ih, evA_eq]; rfl
theorem evpA_eq (al : List (Nat × AV)) (xs : List (Nat × Nat × Opd)) : (xs.map fun p => (p.1, p.2.1, p.2.2.ev (get al))) = evpA al xs := by
  induction xs with
  | nil => rfl
  | cons x xs ih => obtain ⟨a, b, x⟩ := x; rw [List.map_cons, ih]; simp only [evpA, evA_eq]
theorem optA_eq (al : List (Nat × AV)) (x : Option Opd) : optInt (get al) x = optA al x := by
  cases x with
  | none => rfl
  | some x => simp only [optInt, optA, evA_eq]
/-- What an operation yields, told of slots in a list. -/
def aopA (c : AOp) (al : List (Nat × AV)) (hl : List Blk) : Option Res := aop c (get al) (hget hl) hl.length
section
variable (al : List (Nat × AV)) (hl : List Blk)
theorem aopA_mv (x : Opd) : aopA (.mv x) al hl = some { v := evA al x } := by simp only [aopA, aop, evA_eq] <;> rfl
theorem aopA_smv (x : Opd) : aopA (.smv x) al hl = match evA al x with | .str s => some { v := .str s } | _ => none := by simp only [aopA, aop, evA_eq] <;> rfl
theorem aopA_newnil (sz : Nat) : aopA (.newnil sz) al hl = some { v := .sl hl.length 0 0 0, ups := [(hl.length, .row true 0 false sz [])] } := rfl
theorem aopA_pick (c a b : Opd) : aopA (.pick c a b) al hl = match evA al c with | .bool t => some { v := pickAV t (evA al a) (evA al b) } | _ => none := by simp only [aopA, aop, evA_eq] <;> rfl
theorem aopA_alloc (z : AV) : aopA (.alloc z) al hl = if z.elem = true then some { v := .ptr hl.length 0 0 0, ups := [(hl.length, .row false 0 false z.cells.length [z])] } else none := rfl
theorem aopA_box (x : Opd) : aopA (.box x) al hl = if (evA al x).elem = true then some { v := .ptr hl.length 0 0 0, ups := [(hl.length, .row false 0 false (evA al x).cells.length [evA al x])] } else none := by simp only [aopA, aop, evA_eq] <;> rfl
theorem elemsP_eq (xs : List (Nat × Nat × Opd)) : (xs.all fun p => (p.2.2.ev (get al)).elem) = elemsP (evpA al xs) := by
  induction xs with
  | nil => rfl
  | cons x xs ih => obtain ⟨a, b, x⟩ := x; rw [List.all_cons, ih]; simp only [evpA, elemsP, evA_eq]
theorem sizedA_eq (sz : Nat) (xs : List Opd) : (xs.all fun x => (x.ev (get al)).elem && (x.ev (get al)).cells.length == sz) = sizedA sz (evsA al xs) := by
  induction xs with
  | nil => rfl
  | cons x xs ih => rw [List.all_cons, ih]; simp only [evsA, sizedA, evA_eq]
theorem aopA_build (z : List AV) (ps : List (Nat × Nat × Opd)) : aopA (.build z ps) al hl = if elemsP (evpA al ps) = true then (fillA z (evpA al ps)).map (fun cs => { v := .agg cs }) else none := by
  simp only [aopA, aop, elemsP_eq, evpA_eq]
theorem aopA_bsl (sz : Nat) (xs : List Opd) : aopA (.bsl sz xs) al hl = if sizedA sz (evsA al xs) = true then some { v := .sl hl.length 0 0 xs.length, ups := [(hl.length, .row false 0 false sz (evsA al xs))] } else none := by
  simp only [aopA, aop, sizedA_eq, evsA_eq]
theorem aopA_load (agg : Bool) (sz : Nat) (x : Opd) : aopA (.load agg sz x) al hl = (loadAV (hget hl) agg sz (evA al x)).map (fun v => { v := v }) := by simp only [aopA, aop, evA_eq] <;> rfl
theorem aopA_store (sz : Nat) (x v : Opd) : aopA (.store sz x v) al hl = (storeAV (hget hl) sz (evA al v) (evA al x)).map (fun u => { v := .und, ups := [u] }) := by simp only [aopA, aop, evA_eq] <;> rfl
theorem aopA_nchk (x : Opd) : aopA (.nchk x) al hl = match evA al x with | .ptr b g i o => some { v := .ptr b g i o } | .rp v cs => some { v := .rp v cs } | .clo f cs => some { v := .clo f cs } | _ => none := by simp only [aopA, aop, evA_eq] <;> rfl
theorem aopA_bin (op : BinOp) (x y : Opd) : aopA (.bin op x y) al hl = (binAV op (evA al x) (evA al y)).map (fun v => { v := v }) := by simp only [aopA, aop, evA_eq] <;> rfl
theorem aopA_eqv (neg agg : Bool) (ks : List SK) (x y : Opd) : aopA (.eqv neg agg ks x y) al hl = match agg, evA al x, evA al y with
    | true, .agg xs, .agg ys => (eqCells ks xs ys).map fun b => { v := .bool (if neg then !b else b) }
    | false, .bool a, .bool b => if ks = [.b] then some { v := .bool (if neg then !(a == b) else a == b) } else none
    | _, _, _ => none := by simp only [aopA, aop, evA_eq] <;> rfl
theorem aopA_neg (x : Opd) : aopA (.neg x) al hl = match evA al x with | .int k n => some { v := .int k (k.wrap (0 - n)) } | _ => none := by simp only [aopA, aop, evA_eq] <;> rfl
theorem aopA_not (x : Opd) : aopA (.not x) al hl = match evA al x with | .bool b => some { v := .bool !b } | _ => none := by simp only [aopA, aop, evA_eq] <;> rfl
theorem aopA_conv (k : IntKind) (x : Opd) : aopA (.conv k x) al hl = match evA al x with | .int _ n => some { v := .int k (k.wrap n) } | _ => none := by simp only [aopA, aop, evA_eq] <;> rfl
theorem aopA_ext (x : Opd) (i : Nat) : aopA (.ext x i) al hl = (extAV i (evA al x)).map (fun v => { v := v }) := by simp only [aopA, aop, evA_eq] <;> rfl
theorem aopA_faddr (x : Opd) (off : Nat) : aopA (.faddr x off) al hl = (faddrAV off (evA al x)).map (fun v => { v := v }) := by simp only [aopA, aop, evA_eq] <;> rfl
theorem aopA_fld (x : Opd) (off : Nat) (agg : Bool) (sz : Nat) : aopA (.fld x off agg sz) al hl = (fldAV off agg sz (evA al x)).map (fun v => { v := v }) := by simp only [aopA, aop, evA_eq] <;> rfl
theorem aopA_iaddr (sz : Nat) (x i : Opd) : aopA (.iaddr sz x i) al hl = match intAV (evA al i) with | some n => (iaddrAV (hget hl) sz n (evA al x)).map (fun v => { v := v }) | none => none := by simp only [aopA, aop, evA_eq] <;> rfl
theorem aopA_iaddrA (n sz : Nat) (x i : Opd) : aopA (.iaddrA n sz x i) al hl = match intAV (evA al i) with | some k => if 0 ≤ k ∧ k < (n : Int) then (faddrAV (k.toNat * sz) (evA al x)).map (fun v => { v := v }) else none | none => none := by simp only [aopA, aop, evA_eq] <;> rfl
theorem aopA_idxA (n sz : Nat) (agg : Bool) (x i : Opd) : aopA (.idxA n sz agg x i) al hl = match intAV (evA al i) with | some k => if 0 ≤ k ∧ k < (n : Int) then (fldAV (k.toNat * sz) agg sz (evA al x)).map (fun v => { v := v }) else none | none => none := by simp only [aopA, aop, evA_eq] <;> rfl
def slcA (hl : List Blk) (sz : Nat) (l u : Option Int) : AV → Option Res
  | .sl b g i n => match hget hl b with
    | .row _ g' _ rsz _ => if g' = g ∧ rsz = sz then (slcAV l u (.sl b g i n)).map fun v => { v := v } else none
    | .dead => none
  | .sv vol rsz xs => if rsz = sz then (slcAV l u (.sv vol rsz xs)).map fun v => { v := v } else none
  | _ => none
theorem aopA_slc (sz : Nat) (x : Opd) (lo hi : Option Opd) : aopA (.slc sz x lo hi) al hl = match optA al lo, optA al hi with | some l, some u => slcA hl sz l u (evA al x) | _, _ => none := by
  simp only [aopA, aop, evA_eq, optA_eq]
  rfl
theorem aopA_mks (sz b : Nat) (z : AV) (n : Opd) : aopA (.mks sz b z n) al hl = match evA al n with
    | .int .i64 n => if 0 ≤ n ∧ n.toNat * b ≤ appBound ∧ z.elem = true then some { v := .sl hl.length 0 0 n.toNat, ups := [(hl.length, .row false 0 false sz (List.replicate n.toNat z))] } else none
    | _ => none := by simp only [aopA, aop, evA_eq] <;> rfl
theorem aopA_mkf (f : FuncId) (caps : List Opd) : aopA (.mkf f caps) al hl = some { v := .clo f (evsA al caps) } := by simp only [aopA, aop, evsA_eq] <;> rfl
theorem aopA_len (x : Opd) : aopA (.len x) al hl = (lenAV (evA al x)).map (fun v => { v := v }) := by simp only [aopA, aop, evA_eq] <;> rfl
theorem aopA_lenS (x : Opd) : aopA (.lenS x) al hl = match evA al x with | .str s => some { v := .int .i64 s.size } | _ => none := by simp only [aopA, aop, evA_eq] <;> rfl
theorem aopA_lenC (n : Nat) : aopA (.lenC n) al hl = some { v := .int .i64 n } := rfl
theorem aopA_append (sz b : Nat) (x y : Opd) : aopA (.append sz b x y) al hl = match contAV (hget hl) sz (evA al y) with | some ys => appendAV (hget hl) hl.length sz b (evA al x) ys | none => none := by simp only [aopA, aop, evA_eq] <;> rfl
theorem aopA_idxS (x i : Opd) : aopA (.idxS x i) al hl = match evA al x, intAV (evA al i) with
    | .str s, some k => if 0 ≤ k then (match s[k.toNat]? with
      | some b => some { v := .int .u8 b.toNat }
      | none => none) else none
    | _, _ => none := by simp only [aopA, aop, evA_eq] <;> rfl
theorem aopA_slcM (sz : Nat) (x hi mx : Opd) : aopA (.slcM sz x hi mx) al hl = match intAV (evA al hi), intAV (evA al mx) with
    | some u, some m => if u = m then slcMAV (hget hl) sz u (evA al x) else none
    | _, _ => none := by simp only [aopA, aop, evA_eq] <;> rfl
theorem aopA_clear (sz : Nat) (z : AV) (x : Opd) : aopA (.clear sz z x) al hl = clearAV (hget hl) sz z (evA al x) := by simp only [aopA, aop, evA_eq] <;> rfl
theorem aopA_mx (xs : List Opd) : aopA (.mx xs) al hl = match evsA al xs with | x :: rest => (foldAV maxI x rest).map (fun v => { v := v }) | [] => none := by simp only [aopA, aop, evsA_eq] <;> rfl
theorem aopA_mn (xs : List Opd) : aopA (.mn xs) al hl = match evsA al xs with | x :: rest => (foldAV minI x rest).map (fun v => { v := v }) | [] => none := by simp only [aopA, aop, evsA_eq] <;> rfl
end

def touchA (c : AOp) (al : List (Nat × AV)) : List Nat := c.touch (get al)
def refA : AOp → List (Nat × AV) → List Nat
  | .load _ _ x, al | .store _ x _, al | .iaddr _ x _, al | .slc _ x _ _, al | .slcM _ x _ _, al | .clear _ _ x, al => (evA al x).ref
  | .append _ _ x y, al => (evA al x).ref ++ (evA al y).ref
  | _, _ => []
theorem touchA_eq (c : AOp) (al : List (Nat × AV)) : touchA c al = refA c al := by
  cases c <;> simp only [touchA, AOp.touch, refA, evA_eq]
def isCall : AOp → Bool
  | .call _ _ => true
  | _ => false
variable {P : Program} {K : St → List (List Nat × List Nat × Nat) → Prop}
/-- 'RunOps' and 'CWp' shut, so that no elaborator looks into them. -/
structure RO (P : Program) (cs : List COp) (al : List (Nat × AV)) (hl : List Blk) (tr : List (List Nat × List Nat × Nat)) (K : St → List (List Nat × List Nat × Nat) → Prop) : Prop where
  run : RunOps P cs al hl tr K
structure CW (P : Program) (m0 : Nat) (tp : Bool) (c : CCode) (s : St) (K : Exit → St → Prop) : Prop where
  run : CWp P c m0 tp s K
theorem RO_eq (P : Program) (cs : List COp) (al : List (Nat × AV)) (hl : List Blk) (tr : List (List Nat × List Nat × Nat)) (K : St → List (List Nat × List Nat × Nat) → Prop) : RO P cs al hl tr K = RunOps P cs al hl tr K := propext ⟨fun h => h.run, fun h => ⟨h⟩⟩
theorem RunOps_nil (al : List (Nat × AV)) (hl : List Blk) (tr : List (List Nat × List Nat × Nat)) : RO P [] al hl tr K = K ⟨al, hl⟩ tr.reverse := by rw [RO_eq]; rfl
theorem RunOps_call (f : Opd) (xs : List Opd) (dst : Option Nat) (bef : Nat) (cs : List COp) (al : List (Nat × AV)) (hl : List Blk) (tr : List (List Nat × List Nat × Nat)) :
    RO P (⟨.call f xs, dst, none, bef⟩ :: cs) al hl tr K = RunCall P f xs dst bef al hl tr fun al hl tr => RO P cs al hl tr K := by
  simp only [RO_eq]; rfl
/-- After an operation that is no call. -/
def after (P : Program) (cs : List COp) (op : AOp) (dst : Option Nat) (bef : Nat) (al : List (Nat × AV)) (hl : List Blk) (tr : List (List Nat × List Nat × Nat)) (K : St → List (List Nat × List Nat × Nat) → Prop) : Option Res → Prop
  | none => False
  | some r => RO P cs (setO al dst r.v) (hsetL hl r.ups) ((refA op al ++ r.ups.map Prod.fst, r.ups.map Prod.fst, bef) :: tr) K
theorem after_some (cs : List COp) (op : AOp) (dst : Option Nat) (bef : Nat) (al : List (Nat × AV)) (hl : List Blk) (tr : List (List Nat × List Nat × Nat)) (v : AV) (W : List (Nat × Blk)) :
    after P cs op dst bef al hl tr K (some ⟨v, W⟩) = RO P cs (setO al dst v) (hsetL hl W) ((refA op al ++ W.map Prod.fst, W.map Prod.fst, bef) :: tr) K := rfl
variable (dst : Option Nat) (bef : Nat) (cs : List COp) (al : List (Nat × AV)) (hl : List Blk) (tr : List (List Nat × List Nat × Nat))
theorem RunOps_op (op : AOp) (h : isCall op = false) : RO P (⟨op, dst, none, bef⟩ :: cs) al hl tr K = after P cs op dst bef al hl tr K (aopA op al hl) := by
  cases op <;> first | (cases h; done) | skip
  all_goals
    rw [RO_eq]
    simp only [RunOps, wantedAV]
    unfold after
    simp only [RO_eq]
    rw [← touchA_eq]
    rfl
theorem R_mv (x : Opd) : RO P (⟨.mv x, dst, none, bef⟩ :: cs) al hl tr K = after P cs (.mv x) dst bef al hl tr K (aopA (.mv x) al hl) := RunOps_op dst bef cs al hl tr _ rfl
theorem R_smv (x : Opd) : RO P (⟨.smv x, dst, none, bef⟩ :: cs) al hl tr K = after P cs (.smv x) dst bef al hl tr K (aopA (.smv x) al hl) := RunOps_op dst bef cs al hl tr _ rfl
theorem R_newnil (sz : Nat) : RO P (⟨.newnil sz, dst, none, bef⟩ :: cs) al hl tr K = after P cs (.newnil sz) dst bef al hl tr K (aopA (.newnil sz) al hl) := RunOps_op dst bef cs al hl tr _ rfl
theorem R_pick (c : Opd) (a : Opd) (b : Opd) : RO P (⟨.pick c a b, dst, none, bef⟩ :: cs) al hl tr K = after P cs (.pick c a b) dst bef al hl tr K (aopA (.pick c a b) al hl) := RunOps_op dst bef cs al hl tr _ rfl
theorem R_alloc (z : AV) : RO P (⟨.alloc z, dst, none, bef⟩ :: cs) al hl tr K = after P cs (.alloc z) dst bef al hl tr K (aopA (.alloc z) al hl) := RunOps_op dst bef cs al hl tr _ rfl
theorem R_box (x : Opd) : RO P (⟨.box x, dst, none, bef⟩ :: cs) al hl tr K = after P cs (.box x) dst bef al hl tr K (aopA (.box x) al hl) := RunOps_op dst bef cs al hl tr _ rfl
theorem R_build (z : List AV) (ps : List (Nat × Nat × Opd)) : RO P (⟨.build z ps, dst, none, bef⟩ :: cs) al hl tr K = after P cs (.build z ps) dst bef al hl tr K (aopA (.build z ps) al hl) := RunOps_op dst bef cs al hl tr _ rfl
theorem R_bsl (sz : Nat) (xs : List Opd) : RO P (⟨.bsl sz xs, dst, none, bef⟩ :: cs) al hl tr K = after P cs (.bsl sz xs) dst bef al hl tr K (aopA (.bsl sz xs) al hl) := RunOps_op dst bef cs al hl tr _ rfl
theorem R_load (agg : Bool) (sz : Nat) (x : Opd) : RO P (⟨.load agg sz x, dst, none, bef⟩ :: cs) al hl tr K = after P cs (.load agg sz x) dst bef al hl tr K (aopA (.load agg sz x) al hl) := RunOps_op dst bef cs al hl tr _ rfl
theorem R_store (sz : Nat) (x : Opd) (v : Opd) : RO P (⟨.store sz x v, dst, none, bef⟩ :: cs) al hl tr K = after P cs (.store sz x v) dst bef al hl tr K (aopA (.store sz x v) al hl) := RunOps_op dst bef cs al hl tr _ rfl
theorem R_nchk (x : Opd) : RO P (⟨.nchk x, dst, none, bef⟩ :: cs) al hl tr K = after P cs (.nchk x) dst bef al hl tr K (aopA (.nchk x) al hl) := RunOps_op dst bef cs al hl tr _ rfl
theorem R_bin (o : BinOp) (x : Opd) (y : Opd) : RO P (⟨.bin o x y, dst, none, bef⟩ :: cs) al hl tr K = after P cs (.bin o x y) dst bef al hl tr K (aopA (.bin o x y) al hl) := RunOps_op dst bef cs al hl tr _ rfl
theorem R_eqv (neg : Bool) (agg : Bool) (ks : List SK) (x : Opd) (y : Opd) : RO P (⟨.eqv neg agg ks x y, dst, none, bef⟩ :: cs) al hl tr K = after P cs (.eqv neg agg ks x y) dst bef al hl tr K (aopA (.eqv neg agg ks x y) al hl) := RunOps_op dst bef cs al hl tr _ rfl
theorem R_neg (x : Opd) : RO P (⟨.neg x, dst, none, bef⟩ :: cs) al hl tr K = after P cs (.neg x) dst bef al hl tr K (aopA (.neg x) al hl) := RunOps_op dst bef cs al hl tr _ rfl
theorem R_not (x : Opd) : RO P (⟨.not x, dst, none, bef⟩ :: cs) al hl tr K = after P cs (.not x) dst bef al hl tr K (aopA (.not x) al hl) := RunOps_op dst bef cs al hl tr _ rfl
theorem R_conv (k : IntKind) (x : Opd) : RO P (⟨.conv k x, dst, none, bef⟩ :: cs) al hl tr K = after P cs (.conv k x) dst bef al hl tr K (aopA (.conv k x) al hl) := RunOps_op dst bef cs al hl tr _ rfl
theorem R_ext (x : Opd) (i : Nat) : RO P (⟨.ext x i, dst, none, bef⟩ :: cs) al hl tr K = after P cs (.ext x i) dst bef al hl tr K (aopA (.ext x i) al hl) := RunOps_op dst bef cs al hl tr _ rfl
theorem R_faddr (x : Opd) (off : Nat) : RO P (⟨.faddr x off, dst, none, bef⟩ :: cs) al hl tr K = after P cs (.faddr x off) dst bef al hl tr K (aopA (.faddr x off) al hl) := RunOps_op dst bef cs al hl tr _ rfl
theorem R_fld (x : Opd) (off : Nat) (agg : Bool) (sz : Nat) : RO P (⟨.fld x off agg sz, dst, none, bef⟩ :: cs) al hl tr K = after P cs (.fld x off agg sz) dst bef al hl tr K (aopA (.fld x off agg sz) al hl) := RunOps_op dst bef cs al hl tr _ rfl
theorem R_iaddr (sz : Nat) (x : Opd) (i : Opd) : RO P (⟨.iaddr sz x i, dst, none, bef⟩ :: cs) al hl tr K = after P cs (.iaddr sz x i) dst bef al hl tr K (aopA (.iaddr sz x i) al hl) := RunOps_op dst bef cs al hl tr _ rfl
theorem R_iaddrA (n : Nat) (sz : Nat) (x : Opd) (i : Opd) : RO P (⟨.iaddrA n sz x i, dst, none, bef⟩ :: cs) al hl tr K = after P cs (.iaddrA n sz x i) dst bef al hl tr K (aopA (.iaddrA n sz x i) al hl) := RunOps_op dst bef cs al hl tr _ rfl
theorem R_idxA (n : Nat) (sz : Nat) (agg : Bool) (x : Opd) (i : Opd) : RO P (⟨.idxA n sz agg x i, dst, none, bef⟩ :: cs) al hl tr K = after P cs (.idxA n sz agg x i) dst bef al hl tr K (aopA (.idxA n sz agg x i) al hl) := RunOps_op dst bef cs al hl tr _ rfl
theorem R_slc (sz : Nat) (x : Opd) (lo : Option Opd) (hi : Option Opd) : RO P (⟨.slc sz x lo hi, dst, none, bef⟩ :: cs) al hl tr K = after P cs (.slc sz x lo hi) dst bef al hl tr K (aopA (.slc sz x lo hi) al hl) := RunOps_op dst bef cs al hl tr _ rfl
theorem R_mks (sz : Nat) (b : Nat) (z : AV) (n : Opd) : RO P (⟨.mks sz b z n, dst, none, bef⟩ :: cs) al hl tr K = after P cs (.mks sz b z n) dst bef al hl tr K (aopA (.mks sz b z n) al hl) := RunOps_op dst bef cs al hl tr _ rfl
theorem R_mkf (f : FuncId) (caps : List Opd) : RO P (⟨.mkf f caps, dst, none, bef⟩ :: cs) al hl tr K = after P cs (.mkf f caps) dst bef al hl tr K (aopA (.mkf f caps) al hl) := RunOps_op dst bef cs al hl tr _ rfl
theorem R_len (x : Opd) : RO P (⟨.len x, dst, none, bef⟩ :: cs) al hl tr K = after P cs (.len x) dst bef al hl tr K (aopA (.len x) al hl) := RunOps_op dst bef cs al hl tr _ rfl
theorem R_lenS (x : Opd) : RO P (⟨.lenS x, dst, none, bef⟩ :: cs) al hl tr K = after P cs (.lenS x) dst bef al hl tr K (aopA (.lenS x) al hl) := RunOps_op dst bef cs al hl tr _ rfl
theorem R_lenC (n : Nat) : RO P (⟨.lenC n, dst, none, bef⟩ :: cs) al hl tr K = after P cs (.lenC n) dst bef al hl tr K (aopA (.lenC n) al hl) := RunOps_op dst bef cs al hl tr _ rfl
theorem R_append (sz : Nat) (b : Nat) (x : Opd) (y : Opd) : RO P (⟨.append sz b x y, dst, none, bef⟩ :: cs) al hl tr K = after P cs (.append sz b x y) dst bef al hl tr K (aopA (.append sz b x y) al hl) := RunOps_op dst bef cs al hl tr _ rfl
theorem R_idxS (x i : Opd) : RO P (⟨.idxS x i, dst, none, bef⟩ :: cs) al hl tr K = after P cs (.idxS x i) dst bef al hl tr K (aopA (.idxS x i) al hl) := RunOps_op dst bef cs al hl tr _ rfl
theorem R_slcM (sz : Nat) (x hi mx : Opd) : RO P (⟨.slcM sz x hi mx, dst, none, bef⟩ :: cs) al hl tr K = after P cs (.slcM sz x hi mx) dst bef al hl tr K (aopA (.slcM sz x hi mx) al hl) := RunOps_op dst bef cs al hl tr _ rfl
theorem R_clear (sz : Nat) (z : AV) (x : Opd) : RO P (⟨.clear sz z x, dst, none, bef⟩ :: cs) al hl tr K = after P cs (.clear sz z x) dst bef al hl tr K (aopA (.clear sz z x) al hl) := RunOps_op dst bef cs al hl tr _ rfl
theorem R_mx (xs : List Opd) : RO P (⟨.mx xs, dst, none, bef⟩ :: cs) al hl tr K = after P cs (.mx xs) dst bef al hl tr K (aopA (.mx xs) al hl) := RunOps_op dst bef cs al hl tr _ rfl
theorem R_mn (xs : List Opd) : RO P (⟨.mn xs, dst, none, bef⟩ :: cs) al hl tr K = after P cs (.mn xs) dst bef al hl tr K (aopA (.mn xs) al hl) := RunOps_op dst bef cs al hl tr _ rfl
/-! ### Rules for going through -/
theorem CW.seq {m0 : Nat} {tp : Bool} {x y : CCode} {s : St} {K : Exit → St → Prop} (h : CW P m0 tp x s (thenK K fun s' => CW P m0 tp y s' K)) : CW P m0 tp (.seq x y) s K := by
  have h1 : CWp P x m0 tp s (thenK K fun s' => CWp P y m0 tp s' K) := CWp.mono x m0 tp s (fun e s' (h : thenK K (fun s' => CW P m0 tp y s' K) e s') => by cases e <;> first | exact CW.run h | exact h) h.run
  exact ⟨h1⟩
/-- A region, then what follows. -/
theorem CW.rI {m0 : Nat} {tp : Bool} {draw : Bool} {ops : List COp} {y : CCode} {s : St} {K : Exit → St → Prop} (h : ∀ K' : St → List (List Nat × List Nat × Nat) → Prop, (∀ s tr, (draw = true → blkOk 0 tr = true) → CW P m0 tp y s K → K' s tr) → RO P ops s.al s.hl [] K') : CW P m0 tp (.seq (.region draw ops) y) s K :=
  ⟨(h _ fun _ _ h1 h2 => ⟨h1, h2.run⟩).run⟩
/-- A region at the end. -/
theorem CW.rE {m0 : Nat} {tp : Bool} {draw : Bool} {ops : List COp} {s : St} {K : Exit → St → Prop} (h : ∀ K' : St → List (List Nat × List Nat × Nat) → Prop, (∀ s tr, (draw = true → blkOk 0 tr = true) → K .normal s → K' s tr) → RO P ops s.al s.hl [] K') : CW P m0 tp (.region draw ops) s K :=
  ⟨(h _ fun _ _ h1 h2 => ⟨h1, h2⟩).run⟩
theorem CW.ret {m0 : Nat} {tp : Bool} {s : St} {K : Exit → St → Prop} (h : K .ret s) : CW P m0 tp .ret s K := ⟨h⟩
theorem CW.exit {m0 id : Nat} {tp : Bool} {s : St} {K : Exit → St → Prop} (h : K (.exit id) s) : CW P m0 tp (.exit id) s K := ⟨h⟩
theorem CW.skip {m0 : Nat} {tp : Bool} {s : St} {K : Exit → St → Prop} (h : K .normal s) : CW P m0 tp .skip s K := ⟨h⟩
theorem CW.block {m0 id : Nat} {tp : Bool} {c : CCode} {s : St} {K : Exit → St → Prop} (h : CW P m0 tp c s (blockK id K)) : CW P m0 tp (.block id c) s K := ⟨h.run⟩
theorem CW.condT {m0 : Nat} {tp : Bool} {c : Opd} {x y : CCode} {s : St} {K : Exit → St → Prop} (hc : evA s.al c = .bool true) (h : CW P m0 tp x s K) : CW P m0 tp (.cond c x y) s K := ⟨by simp only [CWp, evA_eq, hc]; exact h.run⟩
theorem CW.condF {m0 : Nat} {tp : Bool} {c : Opd} {x y : CCode} {s : St} {K : Exit → St → Prop} (hc : evA s.al c = .bool false) (h : CW P m0 tp y s K) : CW P m0 tp (.cond c x y) s K := ⟨by simp only [CWp, evA_eq, hc]; exact h.run⟩
theorem callsF_cw (hm : P.follows .mixedOrders = true) {f : FuncId} {F : CFn} (hF : compF P f = some F) {args : List AV} {hl : List Blk} {r : AV} {hl' : List Blk} (hargs : args.length ≤ F.n) (h : CW P hl.length true F.code ⟨argsAl 0 args, hl⟩ (finK F.rvs hl.length r hl')) : CallsF P f args hl r hl' := callsF_comp hm hF hargs h.run
end Go.Am
end
section
set_option linter.unusedSimpArgs false
set_option linter.unusedVariables false
namespace Go.Am
open Go Go.RowKit

/-! ### Rows that are reached -/
mutual
def AV.refs : AV → List (Nat × Nat) → List (Nat × Nat)
  | .agg cs, acc => refsL cs acc
  | .tup cs, acc => refsL cs acc
  | .sv _ _ xs, acc => refsL xs acc
  | .rp _ cs, acc => refsL cs acc
  | .clo _ cs, acc => refsL cs acc
  | .sl b g _ _, acc => (b, g) :: acc
  | .ptr b g _ _, acc => (b, g) :: acc
  | _, acc => acc
def refsL : List AV → List (Nat × Nat) → List (Nat × Nat)
  | [], acc => acc
  | x :: xs, acc => x.refs (refsL xs acc)
end

def Blk.refs : Blk → List (Nat × Nat)
  | .dead => []
  | .row _ _ _ _ xs => refsL xs []
def natIn (k : Nat) : List Nat → Bool
  | [] => false
  | a :: l => Nat.beq a k || natIn k l
def reach (hl : List Blk) (m0 : Nat) : Nat → List (Nat × Nat) → List (Nat × Nat) → List (Nat × Nat)
  | 0, _, acc => acc.reverse
  | _ + 1, [], acc => acc.reverse
  | n + 1, q :: todo, acc => if Nat.blt q.1 m0 || natIn q.1 (acc.map Prod.fst) then reach hl m0 n todo acc else reach hl m0 n ((hget hl q.1).refs ++ todo) (q :: acc)
/-! ### Plain values, quickly seen -/
def allB {α : Type} (f : α → Bool) : List α → Bool
  | [] => true
  | x :: xs => match f x with
    | true => allB f xs
    | false => false
/-- Whole numbers, truth values, strings; what is built of them, n deep. q: is memory that is only read let in? -/
def flatN (q : Bool) : Nat → AV → Bool
  | _, .int _ _ => true
  | _, .bool _ => true
  | _, .str _ => true
  | _, .nilf => true
  | n + 1, .agg cs => allB (flatN q n) cs
  | n + 1, .tup cs => allB (flatN q n) cs
  | n + 1, .clo _ cs => allB (flatN q n) cs
  | n + 1, .sv _ _ xs => match q with
    | true => allB (flatN q n) xs
    | false => false
  | n + 1, .rp _ xs => match q with
    | true => allB (flatN q n) xs
    | false => false
  | _, _ => false
theorem allB_spec {α : Type} {f : α → Bool} : ∀ {l : List α}, allB f l = true → ∀ x ∈ l, f x = true := by
  intro l
  induction l with
  | nil => intro _ x hx; cases hx
  | cons a l ih =>
    intro h x hx
    simp only [allB] at h
    split at h
    · rename_i ha
      rcases List.mem_cons.1 hx with rfl | hx
      · exact ha
      · exact ih h x hx
    · cases h
theorem flatN_spec {q : Bool} : ∀ (n : Nat) (x : AV), flatN q n x = true → x.lt 0 = true ∧ x.allR (fun _ _ => false) true = true ∧ (q = false → x.clean = true) := by
  have list : ∀ (n : Nat), (∀ (x : AV), flatN q n x = true → x.lt 0 = true ∧ x.allR (fun _ _ => false) true = true ∧ (q = false → x.clean = true)) → ∀ (l : List AV), allB (flatN q n) l = true → ltL 0 l = true ∧ allRL (fun _ _ => false) true l = true ∧ (q = false → cleanL l = true) := by
    intro n ih l
    induction l with
    | nil => intro _; exact ⟨rfl, rfl, fun _ => rfl⟩
    | cons x l ihl =>
      intro h
      have h1 := allB_spec h
      simp only [allB] at h
      split at h <;> first | (cases h; done) | skip
      obtain ⟨a1, a2, a3⟩ := ih x (h1 x (by simp))
      obtain ⟨b1, b2, b3⟩ := ihl h
      exact ⟨by simp only [ltL, a1, b1, Bool.and_self], by simp only [allRL, a2, b2, Bool.and_self], fun hq => by simp only [cleanL, a3 hq, b3 hq, Bool.and_self]⟩
  intro n
  induction n with
  | zero => intro x h; cases x <;> simp only [flatN, Bool.false_eq_true] at h <;> exact ⟨rfl, rfl, fun _ => rfl⟩
  | succ n ih =>
    intro x h
    cases x <;> simp only [flatN, Bool.false_eq_true] at h <;> first | exact ⟨rfl, rfl, fun _ => rfl⟩ | exact list n ih _ h | skip
    all_goals
      split at h <;> first | (cases h; done) | skip
      obtain ⟨a1, a2, -⟩ := list n ih _ h
      exact ⟨a1, by simp only [AV.allR, Bool.true_and]; exact a2, fun hq => (by cases hq)⟩
/-! ### What a function hands back -/
def exOk (m0 : Nat) (sg : List (Nat × Nat)) (hl : List Blk) (x : AV) : Bool :=
  decide (m0 ≤ hl.length) && (sg.all fun q => decide (m0 ≤ q.1) && (match hget hl q.1 with | .row _ g _ _ _ => g == q.2 | .dead => false)) && Nodups (sg.map Prod.fst) && ((hl.take m0).all fun b => b.allR (sigP m0 sg) true) &&
    (sg.all fun q => (hget hl q.1).allR (sigP m0 sg) true) && x.allR (sigP m0 sg) true
theorem nodups_nodup : ∀ (l : List Nat), Nodups l = true → l.Nodup := by
  intro l
  induction l with
  | nil => intro _; exact List.nodup_nil
  | cons a l ih =>
    intro h
    simp only [Nodups, Bool.and_eq_true, Bool.not_eq_true', List.contains_eq_mem, decide_eq_false_iff_not] at h
    exact List.nodup_cons.2 ⟨h.1, ih h.2⟩
theorem exOk_spec {m0 : Nat} {sg : List (Nat × Nat)} {hl : List Blk} {x : AV} (h : exOk m0 sg hl x = true) : Exports m0 sg hl x := by
  simp only [exOk, Bool.and_eq_true, decide_eq_true_eq, List.all_eq_true] at h
  obtain ⟨⟨⟨⟨⟨h1, h2⟩, h3⟩, h4⟩, h5⟩, h6⟩ := h
  refine ⟨h1, fun q hq => ⟨(h2 q hq).1, ?_⟩, nodups_nodup _ h3, h4, h5, h6⟩
  have := (h2 q hq).2
  split at this
  · rename_i hb; rw [hb]; simp only [beq_iff_eq] at this; simp [rowGen, this]
  · cases this
def xFin (rvs : List RV) (m0 : Nat) (s : St) : Option (AV × List Blk) := match resRV s.al s.hl rvs with
  | none => none
  | some xs => match Nat.beq m0 0 && flatN true 5 (tupAV xs) with
   | true => some (tupAV xs, [])
   | false =>
    let x := tupAV xs
    let sg := reach s.hl m0 (s.hl.length * 8 + 64) (x.refs ((s.hl.take m0).flatMap Blk.refs)) []
    if exOk m0 sg s.hl x = true then some (x.mapR (sigF m0 sg), exHl m0 sg s.hl) else none
theorem xFin_spec {rvs : List RV} {m0 : Nat} {s : St} {r : AV} {hl' : List Blk} (h : xFin rvs m0 s = some (r, hl')) {e : Exit} (he : e = .normal ∨ e = .ret) : finK rvs m0 r hl' e s := by
  unfold xFin at h
  split at h <;> first | (cases h; done) | skip
  rename_i xs hxs
  simp only at h
  split at h
  · rename_i hf
    simp only [Bool.and_eq_true] at hf
    obtain rfl := Nat.eq_of_beq_eq_true hf.1
    simp only [Option.some.injEq, Prod.mk.injEq] at h
    obtain ⟨rfl, rfl⟩ := h
    exact finK_pure he hxs rfl (flatN_spec 5 _ hf.2).2.1
  · split at h <;> first | (cases h; done) | skip
    rename_i hok
    simp only [Option.some.injEq, Prod.mk.injEq] at h
    exact ⟨he, xs, _, hxs, exOk_spec hok, h.1, h.2⟩
/-! ### Calls -/
abbrev XC := FuncId → List AV → List Blk → Option (AV × List Blk)
def XC.Ok (P : Program) (cx : XC) : Prop := ∀ f args hl r hl', cx f args hl = some (r, hl') → CallsF P f args hl r hl'
def tau (names : List Nat) (b : Nat) : Nat := names.findIdx (· == b)
mutual
theorem ren_back {σ τ : Nat → Nat} {p : Nat → Bool} (hp : ∀ b, p b = true → σ (τ b) = b) : ∀ (x : AV), x.allR (fun b _ => p b) true = true → (x.ren τ).ren σ = x
  | .agg cs, h => by simp only [AV.ren]; rw [renL_back hp cs h]
  | .tup cs, h => by simp only [AV.ren]; rw [renL_back hp cs h]
  | .sv _ _ cs, h => by simp only [AV.allR, Bool.true_and] at h; simp only [AV.ren]; rw [renL_back hp cs h]
  | .rp _ cs, h => by simp only [AV.allR, Bool.true_and] at h; simp only [AV.ren]; rw [renL_back hp cs h]
  | .clo _ cs, h => by simp only [AV.ren]; rw [renL_back hp cs h]
  | .sl b _ _ _, h => by simp only [AV.ren]; rw [hp b h]
  | .ptr b _ _ _, h => by simp only [AV.ren]; rw [hp b h]
  | .yld, h => rfl
  | .int _ _, _ => rfl
  | .bool _, _ => rfl
  | .str _, _ => rfl
  | .nilp, _ => rfl
  | .nilf, _ => rfl
  | .nili, _ => rfl
  | .nils, _ => rfl
  | .und, _ => rfl
theorem renL_back {σ τ : Nat → Nat} {p : Nat → Bool} (hp : ∀ b, p b = true → σ (τ b) = b) : ∀ (l : List AV), allRL (fun b _ => p b) true l = true → renL σ (renL τ l) = l
  | [], _ => rfl
  | x :: xs, h => by
    simp only [allRL, Bool.and_eq_true] at h
    simp only [renL]
    rw [ren_back hp x h.1, renL_back hp xs h.2]
end

theorem blkren_back {σ τ : Nat → Nat} {p : Nat → Bool} (hp : ∀ b, p b = true → σ (τ b) = b) (x : Blk) (h : x.allR (fun b _ => p b) true = true) : (x.ren τ).ren σ = x := by
  cases x with
  | dead => rfl
  | row nil g frz sz xs => simp only [Blk.ren]; rw [renL_back hp xs h]
def optL {α β : Type} (f : α → Option β) : List α → Option (List β)
  | [] => some []
  | x :: xs => match f x with
    | none => none
    | some y => match optL f xs with
      | none => none
      | some ys => some (y :: ys)
theorem optL_spec {α β : Type} {f : α → Option β} : ∀ (l : List α) (ys : List β), optL f l = some ys → ys.length = l.length ∧ ∀ (i : Nat) (y : β), ys[i]? = some y → ∃ x, l[i]? = some x ∧ f x = some y := by
  intro l
  induction l with
  | nil => intro ys h; simp only [optL, Option.some.injEq] at h; subst h; exact ⟨rfl, fun i y hy => by simp at hy⟩
  | cons x l ih =>
    intro ys h
    simp only [optL] at h
    split at h <;> first | (cases h; done) | skip
    rename_i y hy
    split at h <;> first | (cases h; done) | skip
    rename_i zs hz
    simp only [Option.some.injEq] at h; subst h
    obtain ⟨h1, h2⟩ := ih zs hz
    refine ⟨by simp [h1], fun i z hzz => ?_⟩
    cases i with
    | zero => simp only [List.getElem?_cons_zero, Option.some.injEq] at hzz; subst hzz; exact ⟨x, rfl, hy⟩
    | succ i => exact h2 i z (by simpa using hzz)
def catT : List (AV × List Nat) → List Nat
  | [] => []
  | y :: ys => y.2 ++ catT ys
theorem mem_catT : ∀ {ys : List (AV × List Nat)} {y : AV × List Nat}, y ∈ ys → ∀ b ∈ y.2, b ∈ catT ys := by
  intro ys
  induction ys with
  | nil => intro y h; cases h
  | cons z ys ih =>
    intro y h b hb
    simp only [catT, List.mem_append]
    rcases List.mem_cons.1 h with rfl | h
    · exact .inl hb
    · exact .inr (ih h b hb)
/-- Own rows, looked at. -/
def viewG (hl : List Blk) : Nat → AV → Option (AV × List Nat)
  | 0, _ => none
  | n + 1, x => match flatN true 5 x with
   | true => some (x, [])
   | false => if x.lt 0 = true then some (x, []) else match x with
    | .sl b g i k => match hget hl b with
      | .row _ g' _ sz XS => if g' = g ∧ i + k ≤ XS.length then
          match optL (viewG hl n) ((XS.drop i).take k) with
          | some ys => if (ys.all fun y => Nat.beq y.1.cells.length sz) = true then some (.sv false sz (ys.map Prod.fst), b :: catT ys) else none
          | none => none
        else none
      | .dead => none
    | .ptr b g i o => match hget hl b with
      | .row _ g' _ _ XS => if g' = g then match XS[i]? with
          | some e => match optL (viewG hl n) (e.cells.drop o) with
            | some ys => some (.rp true (ys.map Prod.fst), b :: catT ys)
            | none => none
          | none => none
        else none
      | .dead => none
    | .agg cs => match optL (viewG hl n) cs with
      | some ys => some (.agg (ys.map Prod.fst), catT ys)
      | none => none
    | .clo f cs => match optL (viewG hl n) cs with
      | some ys => some (.clo f (ys.map Prod.fst), catT ys)
      | none => none
    | _ => none
theorem viewG_sound {hl : List Blk} : ∀ (n : Nat) (x y : AV) (T0 : List Nat), viewG hl n x = some (y, T0) → ∀ (T names : List Nat), (∀ b ∈ T0, b ∈ T) → (∀ b ∈ T0, b ∉ names) →
    ArgView true (hget hl) T names x y ∧ ∀ (j : Nat) (z : AV), y.cells[j]? = some z → ∃ Z, x.cells[j]? = some Z ∧ ArgView true (hget hl) T names Z z := by
  intro n
  induction n with
  | zero => intro x y T0 h; simp [viewG] at h
  | succ n ih =>
    intro x y T0 h T names hT hN
    simp only [viewG] at h
    split at h
    · rename_i hf
      have hlt := (flatN_spec 5 _ hf).1
      simp only [Option.some.injEq, Prod.mk.injEq] at h
      obtain ⟨rfl, rfl⟩ := h
      exact ⟨.plain hlt, fun j z hz => ⟨z, hz, .plain (mem_cells hlt (List.mem_of_getElem? hz))⟩⟩
    split at h
    · rename_i hlt
      simp only [Option.some.injEq, Prod.mk.injEq] at h
      obtain ⟨rfl, rfl⟩ := h
      exact ⟨.plain hlt, fun j z hz => ⟨z, hz, .plain (mem_cells hlt (List.mem_of_getElem? hz))⟩⟩
    · have one : ∀ {x y : AV}, x.cells = [x] → y.cells = [y] → ArgView true (hget hl) T names x y → ArgView true (hget hl) T names x y ∧ ∀ (j : Nat) (z : AV), y.cells[j]? = some z → ∃ Z, x.cells[j]? = some Z ∧ ArgView true (hget hl) T names Z z := fun {x y} h1 h2 h3 => ⟨h3, fun j z hz => by
        rw [h2] at hz; rw [h1]
        cases j with
        | zero => simp only [List.getElem?_cons_zero, Option.some.injEq] at hz; subst hz; exact ⟨x, rfl, h3⟩
        | succ j => simp at hz⟩
      split at h <;> first | (cases h; done) | skip
      · rename_i b g i k _ hnl
        split at h <;> first | (cases h; done) | skip
        rename_i nil g' frz sz XS hb
        split at h <;> first | (cases h; done) | skip
        rename_i hcond
        obtain ⟨rfl, hfit⟩ := hcond
        split at h <;> first | (cases h; done) | skip
        rename_i ys hys
        split at h <;> first | (cases h; done) | skip
        rename_i hsz
        simp only [Option.some.injEq, Prod.mk.injEq] at h
        obtain ⟨rfl, rfl⟩ := h
        obtain ⟨hlen, hel⟩ := optL_spec _ _ hys
        refine one rfl rfl (ArgView.sl hb (hT b (by simp)) (hN b (by simp)) (by rw [List.length_map, hlen]; simp; omega) (fun e he => ?_) fun k' j z hz => ?_)
        · obtain ⟨p, hp, rfl⟩ := List.mem_map.1 he
          exact Nat.eq_of_beq_eq_true (List.all_eq_true.1 hsz p hp)
        · unfold cellAt at hz
          rw [List.getElem?_map] at hz
          cases hq : ys[k']? with
          | none => simp [hq] at hz
          | some p =>
            simp only [hq, Option.map_some, Option.bind_some] at hz
            obtain ⟨e, he, hv⟩ := hel k' p hq
            obtain ⟨-, h2⟩ := ih e p.1 p.2 hv T names (fun b' hb' => hT b' (by simp [mem_catT (List.mem_of_getElem? hq) b' hb'])) (fun b' hb' => hN b' (by simp [mem_catT (List.mem_of_getElem? hq) b' hb']))
            obtain ⟨Z, hZ, hv2⟩ := h2 j z hz
            rw [List.getElem?_take] at he
            split at he <;> first | (cases he; done) | skip
            rw [List.getElem?_drop] at he
            exact ⟨Z, by simp only [cellAt, he, Option.bind_some, hZ], hv2⟩
      · rename_i b g i o _ hnl
        split at h <;> first | (cases h; done) | skip
        rename_i nil g' frz sz XS hb
        split at h <;> first | (cases h; done) | skip
        rename_i hg
        subst hg
        split at h <;> first | (cases h; done) | skip
        rename_i e he
        split at h <;> first | (cases h; done) | skip
        rename_i ys hys
        simp only [Option.some.injEq, Prod.mk.injEq] at h
        obtain ⟨rfl, rfl⟩ := h
        obtain ⟨hlen, hel⟩ := optL_spec _ _ hys
        refine one rfl rfl (ArgView.ptr hb (hT b (by simp)) (hN b (by simp)) fun j z hz => ?_)
        rw [List.getElem?_map] at hz
        cases hq : ys[j]? with
        | none => simp [hq] at hz
        | some p =>
          simp only [hq, Option.map_some, Option.some.injEq] at hz
          subst hz
          obtain ⟨Z, hZ, hv⟩ := hel j p hq
          rw [List.getElem?_drop] at hZ
          exact ⟨Z, by simp only [cellAt, he, Option.bind_some, hZ], (ih Z p.1 p.2 hv T names (fun b' hb' => hT b' (by simp [mem_catT (List.mem_of_getElem? hq) b' hb'])) (fun b' hb' => hN b' (by simp [mem_catT (List.mem_of_getElem? hq) b' hb']))).1⟩
      · rename_i cs _ hnl
        split at h <;> first | (cases h; done) | skip
        rename_i ys hys
        simp only [Option.some.injEq, Prod.mk.injEq] at h
        obtain ⟨rfl, rfl⟩ := h
        obtain ⟨hlen, hel⟩ := optL_spec _ _ hys
        have key : ∀ (j : Nat) (z : AV), (ys.map Prod.fst)[j]? = some z → ∃ Z, cs[j]? = some Z ∧ ArgView true (hget hl) T names Z z := fun j z hz => by
          rw [List.getElem?_map] at hz
          cases hq : ys[j]? with
          | none => simp [hq] at hz
          | some p =>
            simp only [hq, Option.map_some, Option.some.injEq] at hz
            subst hz
            obtain ⟨Z, hZ, hv⟩ := hel j p hq
            exact ⟨Z, hZ, (ih Z p.1 p.2 hv T names (fun b' hb' => hT b' (mem_catT (List.mem_of_getElem? hq) b' hb')) (fun b' hb' => hN b' (mem_catT (List.mem_of_getElem? hq) b' hb'))).1⟩
        refine ⟨ArgView.agg (by simp [hlen]) fun i Y y hY hy => ?_, key⟩
        obtain ⟨Z, hZ, hv⟩ := key i y hy
        rw [hY] at hZ; cases hZ; exact hv
      · rename_i f cs _ hnl
        split at h <;> first | (cases h; done) | skip
        rename_i ys hys
        simp only [Option.some.injEq, Prod.mk.injEq] at h
        obtain ⟨rfl, rfl⟩ := h
        obtain ⟨hlen, hel⟩ := optL_spec _ _ hys
        refine one rfl rfl (ArgView.clo (by simp [hlen]) fun i Y y hY hy => ?_)
        rw [List.getElem?_map] at hy
        cases hq : ys[i]? with
        | none => simp [hq] at hy
        | some p =>
          simp only [hq, Option.map_some, Option.some.injEq] at hy
          subst hy
          obtain ⟨Z, hZ, hv⟩ := hel i p hq
          rw [hY] at hZ; cases hZ
          exact (ih Y p.1 p.2 hv T names (fun b' hb' => hT b' (mem_catT (List.mem_of_getElem? hq) b' hb')) (fun b' hb' => hN b' (mem_catT (List.mem_of_getElem? hq) b' hb'))).1
/-- Numbers from n on. -/
def upFrom : Nat → Nat → List Nat
  | _, 0 => []
  | n, k + 1 => n :: upFrom (n + 1) k
theorem mem_upFrom : ∀ (k n b : Nat), n ≤ b → b < n + k → b ∈ upFrom n k := by
  intro k
  induction k with
  | zero => intro n b h1 h2; omega
  | succ k ih =>
    intro n b h1 h2
    simp only [upFrom, List.mem_cons]
    by_cases h : b = n
    · exact .inl h
    · exact .inr (ih (n + 1) b (by omega) (by omega))
structure CRes where
  T : List Nat
  r : AV
  W : List (Nat × Blk)
def viewArgs (hl : List Blk) : List AV → Option (List AV × List Nat)
  | [] => some ([], [])
  | x :: xs => match viewG hl 6 x, viewArgs hl xs with
    | some (y, T), some (ys, T') => some (y :: ys, T ++ T')
    | _, _ => none
theorem viewArgs_spec {hl : List Blk} : ∀ (X args : List AV) (T0 : List Nat), viewArgs hl X = some (args, T0) → X.length = args.length ∧ ∀ (i : Nat) (Y y : AV), X[i]? = some Y → args[i]? = some y → ∀ (T : List Nat), (∀ b ∈ T0, b ∈ T) → ArgView true (hget hl) T [] Y y := by
  intro X
  induction X with
  | nil => intro args T0 h; simp only [viewArgs, Option.some.injEq, Prod.mk.injEq] at h; obtain ⟨rfl, rfl⟩ := h; exact ⟨rfl, fun i Y y h => by simp at h⟩
  | cons x X ih =>
    intro args T0 h
    simp only [viewArgs] at h
    split at h <;> first | (cases h; done) | skip
    rename_i y T ys T' h1 h2
    simp only [Option.some.injEq, Prod.mk.injEq] at h
    obtain ⟨rfl, rfl⟩ := h
    obtain ⟨h3, h4⟩ := ih ys T' h2
    refine ⟨by simp [h3], fun i Y z hY hz T'' hT => ?_⟩
    cases i with
    | zero =>
      simp only [List.getElem?_cons_zero, Option.some.injEq] at hY hz
      subst hY hz
      exact (viewG_sound 6 _ _ T h1 T'' [] (fun b hb => hT b (by simp [hb])) (fun b _ => by simp)).1
    | succ i => exact h4 i Y z (by simpa using hY) (by simpa using hz) T'' (fun b hb => hT b (by simp [hb]))
/-- A call: nm: are rows handed over as such? -/
def xCall (cx : XC) (nm : FuncId → Bool) (f : FuncId) (X : List AV) (hl : List Blk) : Option CRes :=
  if nm f = true then
    let names := (reach hl 0 (hl.length * 8 + 64) (refsL X []) []).map Prod.fst
    let τ := tau names
    let p : Nat → Nat → Bool := fun b _ => natIn b names
    let args := renL τ X
    let hs := names.map fun b => (hget hl b).ren τ
    if (allRL p true X && (names.all fun b => (hget hl b).allR p true && Nat.blt b hl.length) && Nodups names && hs.all fun b => b.lt hs.length) = true then
      match cx f args hs with
      | some (r, hr) => if Nat.ble hs.length hr.length = true then
          let W := frW (sigma names hl.length) 0 hr
          let T := names ++ upFrom hl.length (hr.length - hs.length)
          if (okW hl.length W && W.all (fun p => T.contains p.1)) = true then some ⟨T, r.ren (sigma names hl.length), W⟩ else none
        else none
      | none => none
    else none
  else match viewArgs hl X with
    | some (args, T0) => match cx f args [] with
      | some (r, hr) => match hr, flatN false 5 r with
       | [], true => some ⟨T0, r, []⟩
       | hr, _ => if (r.clean && hr.all Blk.clean) = true then
          let W := frW (sigma [] hl.length) 0 hr
          let T := T0 ++ upFrom hl.length hr.length
          if (okW hl.length W && W.all (fun p => T.contains p.1)) = true then some ⟨T, r.ren (sigma [] hl.length), W⟩ else none
        else none
      | none => none
    | none => none
theorem natIn_iff {k : Nat} : ∀ {l : List Nat}, natIn k l = true ↔ k ∈ l := by
  intro l
  induction l with
  | nil => simp [natIn]
  | cons a l ih =>
    simp only [natIn, Bool.or_eq_true, ih, List.mem_cons]
    constructor
    · rintro (h | h)
      · exact .inl (Nat.eq_of_beq_eq_true h).symm
      · exact .inr h
    · rintro (rfl | h)
      · exact .inl (Nat.beq_refl k)
      · exact .inr h
theorem sigma_tau {names : List Nat} {n b : Nat} (h : b ∈ names) : sigma names n (tau names b) = b := by
  unfold sigma tau
  have hlt : names.findIdx (· == b) < names.length := List.findIdx_lt_length_of_exists ⟨b, h, by simp⟩
  have := List.findIdx_getElem (p := (· == b)) (w := hlt)
  rw [List.getElem?_eq_getElem hlt]
  simpa using this
theorem xCall_sound {P : Program} {cx : XC} (hcx : cx.Ok P) {nm : FuncId → Bool} {f : FuncId} {X : List AV} {hl : List Blk} {q : CRes} (h : xCall cx nm f X hl = some q) :
    CallsL P f X (hget hl) q.T q.r q.W ∧ (okW hl.length q.W && q.W.all (fun p => q.T.contains p.1)) = true := by
  unfold xCall at h
  split at h
  · obtain ⟨names, hnames⟩ : ∃ names, names = (reach hl 0 (hl.length * 8 + 64) (refsL X []) []).map Prod.fst := ⟨_, rfl⟩
    simp only [← hnames] at h
    split at h <;> first | (cases h; done) | skip
    rename_i hcond
    simp only [Bool.and_eq_true, List.all_eq_true] at hcond
    obtain ⟨⟨⟨h1, h2⟩, h3⟩, h4⟩ := hcond
    split at h <;> first | (cases h; done) | skip
    rename_i r hr hrun
    split at h <;> first | (cases h; done) | skip
    rename_i hle
    split at h <;> first | (cases h; done) | skip
    rename_i hok
    simp only [Option.some.injEq] at h; subst h
    refine ⟨?_, hok⟩
    have hp : ∀ b, natIn b names = true → sigma names hl.length (tau names b) = b := fun b hb => sigma_tau (natIn_iff.1 hb)
    have hback : renL (sigma names hl.length) (renL (tau names) X) = X := renL_back (p := fun b => natIn b names) hp X h1
    have hlen : (names.map fun b => (hget hl b).ren (tau names)).length = names.length := by simp
    refine CallsF.frame false (hcx _ _ _ _ _ hrun) (n := hl.length) ⟨hlen.symm, Nat.le_of_ble_eq_true hle, nodups_nodup _ h3, fun x hx => ?_, fun i x hx => ?_, fun b hb _ => hget_dead _ _ hb, h4⟩ (fun x hx => List.mem_append_left _ hx) (fun b hb1 hb2 => List.mem_append_right _ (mem_upFrom _ _ _ hb1 hb2)) ?_ (fun i Y y hY hy => ?_) (fun hf => (by cases hf))
    · exact Nat.le_of_ble_eq_true (h2 x hx).2
    · have hi : (hget (names.map fun b => (hget hl b).ren (tau names)) i) = (hget hl x).ren (tau names) := by simp [hget, hx]
      rw [hi]
      exact (blkren_back (p := fun b => natIn b names) hp _ (h2 x (List.mem_of_getElem? hx)).1).symm
    · rw [renL_eq]; simp
    · have hY2 : Y = y.ren (sigma names hl.length) := by
        have : (renL (sigma names hl.length) (renL (tau names) X))[i]? = some (y.ren (sigma names hl.length)) := by rw [renL_eq, List.getElem?_map, hy]; rfl
        rw [hback, hY] at this
        exact Option.some.inj this
      subst hY2
      refine ArgView.same ?_
      -- what is renamed lies below the names
      have hlt : ∀ (x : AV), x.allR (fun b _ => natIn b names) true = true → (x.ren (tau names)).lt names.length = true := by
        intro x
        refine AV.rec (motive_1 := fun x => x.allR (fun b _ => natIn b names) true = true → (x.ren (tau names)).lt names.length = true) (motive_2 := fun l => allRL (fun b _ => natIn b names) true l = true → ltL names.length (renL (tau names) l) = true)
          ?_ ?_ ?_ ?_ ?_ ?_ ?_ ?_ ?_ ?_ ?_ ?_ ?_ ?_ ?_ ?_ ?_ ?_ x
        all_goals first
          | (intros; rfl)
          | (intro cs ih hx; exact ih hx)
          | (intro a b cs ih hx; simp only [AV.allR, Bool.true_and] at hx; exact ih hx)
          | (intro a cs ih hx; simp only [AV.allR, Bool.true_and] at hx; exact ih hx)
          | (intro b g i n hx; simp only [AV.ren, AV.lt, decide_eq_true_eq]; exact List.findIdx_lt_length_of_exists ⟨b, natIn_iff.1 hx, by simp⟩)
          | (intro hx; simp [AV.allR] at hx)
          | (intro x xs ih1 ih2 hx; simp only [allRL, Bool.and_eq_true] at hx; simp only [renL, ltL, Bool.and_eq_true]; exact ⟨ih1 hx.1, ih2 hx.2⟩)
      rw [renL_eq, List.getElem?_map] at hy
      cases hq : X[i]? with
      | none => simp [hq] at hy
      | some x =>
        simp only [hq, Option.map_some, Option.some.injEq] at hy
        subst hy
        exact hlt x (allRL_mem h1 (List.mem_of_getElem? hq))
  · split at h <;> first | (cases h; done) | skip
    rename_i args T0 hv
    split at h <;> first | (cases h; done) | skip
    rename_i r hr hrun
    obtain ⟨h1, h2⟩ := viewArgs_spec _ _ _ hv
    split at h
    · rename_i hf
      simp only [Option.some.injEq] at h; subst h
      obtain ⟨f1, f2, f3⟩ := flatN_spec 5 _ hf
      refine ⟨?_, rfl⟩
      have := CallsF.frame true (hcx _ _ _ _ _ hrun) (h := hget hl) (T := T0) (names := []) (n := hl.length) ⟨rfl, Nat.le_refl _, List.nodup_nil, fun x hx => (by cases hx), fun i x hx => (by simp at hx), fun b hb1 hb2 => (by simp at hb2; omega), fun b hb => (by cases hb)⟩ (fun x hx => (by cases hx))
        (fun b hb1 hb2 => (by simp at hb2; omega)) h1 (fun i Y y hY hy => h2 i Y y hY hy _ (fun b hb => hb)) (fun _ => ⟨f3 rfl, fun b hb => (by cases hb)⟩)
      rw [ren_id _ f1] at this
      exact this
    split at h <;> first | (cases h; done) | skip
    rename_i hclean
    simp only [] at h
    split at h <;> first | (cases h; done) | skip
    rename_i hok
    simp only [Option.some.injEq] at h; subst h
    refine ⟨?_, hok⟩
    simp only [Bool.and_eq_true, List.all_eq_true] at hclean
    exact CallsF.frame true (hcx _ _ _ _ _ hrun) (names := []) (n := hl.length) ⟨rfl, Nat.zero_le _, List.nodup_nil, fun x hx => (by cases hx), fun i x hx => (by simp at hx), fun b hb _ => hget_dead _ _ hb, fun b hb => (by cases hb)⟩ (fun x hx => (by cases hx))
      (fun b hb1 hb2 => List.mem_append_right _ (mem_upFrom _ _ _ hb1 hb2)) h1 (fun i Y y hY hy => h2 i Y y hY hy _ (fun b hb => List.mem_append_left _ hb)) (fun _ => hclean)
end Go.Am
end
section
set_option linter.unusedSimpArgs false
set_option linter.unusedVariables false
namespace Go.Am
open Go Go.RowKit

abbrev Tr := List (List Nat × List Nat × Nat)
def xOps (cx : XC) (nm : FuncId → Bool) : List COp → List (Nat × AV) → List Blk → Tr → Option (St × Tr)
  | [], al, hl, tr => some (⟨al, hl⟩, tr)
  | c :: cs, al, hl, tr => match wantedAV (get al) c.guard with
    | none => none
    | some false => xOps cx nm cs (setO al c.dst (.tup [])) hl (([], [], c.bef) :: tr)
    | some true => match c.op with
      | .call f xs => match f.ev (get al) with
        | .clo fid caps => match xCall cx nm fid (xs.map (·.ev (get al)) ++ caps) hl with
          | some q => xOps cx nm cs (setO al c.dst q.r) (hsetL hl q.W) ((q.T, q.W.map Prod.fst, c.bef) :: tr)
          | none => none
        | _ => none
      | op => match aop op (get al) (hget hl) hl.length with
        | none => none
        | some r => xOps cx nm cs (setO al c.dst r.v) (hsetL hl r.ups) ((op.touch (get al) ++ r.ups.map Prod.fst, r.ups.map Prod.fst, c.bef) :: tr)
theorem xOps_sound {P : Program} {cx : XC} (hcx : cx.Ok P) {nm : FuncId → Bool} : ∀ (cs : List COp) (al : List (Nat × AV)) (hl : List Blk) (tr : Tr) (s' : St) (tr' : Tr), xOps cx nm cs al hl tr = some (s', tr') → ∀ (K : St → Tr → Prop), K s' tr'.reverse → RunOps P cs al hl tr K := by
  intro cs
  induction cs with
  | nil =>
    intro al hl tr s' tr' h K hK
    simp only [xOps, Option.some.injEq, Prod.mk.injEq] at h
    obtain ⟨rfl, rfl⟩ := h
    exact hK
  | cons c cs ih =>
    intro al hl tr s' tr' h K hK
    simp only [xOps] at h
    simp only [RunOps]
    split at h
    · cases h
    · rename_i hw
      simp only [hw]
      exact ih _ _ _ _ _ h K hK
    · rename_i hw
      simp only [hw]
      split at h
      · rename_i f xs hop
        simp only [hop]
        split at h <;> first | (cases h; done) | skip
        rename_i fid caps hf
        split at h <;> first | (cases h; done) | skip
        rename_i q hq
        obtain ⟨h1, h2⟩ := xCall_sound hcx hq
        exact ⟨fid, caps, q.T, q.r, q.W, hf, h1, h2, ih _ _ _ _ _ h K hK⟩
      · rename_i hnc
        split at h
        · cases h
        · rename_i r hr
          have := ih _ _ _ _ _ h K hK
          split
          · rename_i f xs hop
            exact absurd hop (hnc f xs)
          · rw [hr]; exact this
abbrev XH := List AV → List Blk → Option (Option Exit × List Blk)
def XH.Ok (hx : XH) (Y : Hdl) : Prop := ∀ vs hl res hl', hx vs hl = some (res, hl') → ∀ Kont : Option Exit → List Blk → Prop, Kont res hl' → Y vs hl Kont
def xRunY (cx : XC) (nm : FuncId → Bool) (hx : XH) : List COp → List (Nat × AV) → List Blk → Option Exit → Option (St × Option Exit)
  | [], al, hl, st => some (⟨al, hl⟩, st)
  | c :: cs, al, hl, st => match wantedAV (get al) c.guard with
    | none => none
    | some false => xRunY cx nm hx cs (setO al c.dst (.tup [])) hl st
    | some true => match c.op with
      | .call f xs => match f.ev (get al) with
        | .yld => match st with
          | none => match hx (xs.map (·.ev (get al))) hl with
            | some (res, hl') => xRunY cx nm hx cs (setO al c.dst (.bool res.isNone)) hl' res
            | none => none
          | some _ => none
        | .clo fid caps => match xCall cx nm fid (xs.map (·.ev (get al)) ++ caps) hl with
          | some q => xRunY cx nm hx cs (setO al c.dst q.r) (hsetL hl q.W) st
          | none => none
        | _ => none
      | op => match aop op (get al) (hget hl) hl.length with
        | none => none
        | some r => xRunY cx nm hx cs (setO al c.dst r.v) (hsetL hl r.ups) st
theorem xRunY_sound {P : Program} {cx : XC} (hcx : cx.Ok P) {nm : FuncId → Bool} {hx : XH} {Y : Hdl} (hY : hx.Ok Y) : ∀ (cs : List COp) (al : List (Nat × AV)) (hl : List Blk) (st : Option Exit) (s' : St) (st' : Option Exit), xRunY cx nm hx cs al hl st = some (s', st') → ∀ (K : St → Option Exit → Prop), K s' st' → RunY P Y cs al hl st K := by
  intro cs
  induction cs with
  | nil =>
    intro al hl st s' st' h K hK
    simp only [xRunY, Option.some.injEq, Prod.mk.injEq] at h
    obtain ⟨rfl, rfl⟩ := h
    exact hK
  | cons c cs ih =>
    intro al hl st s' st' h K hK
    simp only [xRunY] at h
    simp only [RunY]
    split at h
    · cases h
    · rename_i hw
      simp only [hw]
      exact ih _ _ _ _ _ h K hK
    · rename_i hw
      simp only [hw]
      split at h
      · rename_i f xs hop
        simp only [hop]
        split at h <;> first | (cases h; done) | skip
        · rename_i hf
          split at h <;> first | (cases h; done) | skip
          split at h <;> first | (cases h; done) | skip
          rename_i res hl' hr
          exact .inl ⟨hf, rfl, hY _ _ _ _ hr _ (ih _ _ _ _ _ h K hK)⟩
        · rename_i fid caps hf
          split at h <;> first | (cases h; done) | skip
          rename_i q hq
          obtain ⟨h1, h2⟩ := xCall_sound hcx hq
          exact .inr ⟨fid, caps, q.T, q.r, q.W, hf, h1, h2, ih _ _ _ _ _ h K hK⟩
      · rename_i hnc
        split at h
        · cases h
        · rename_i r hr
          have := ih _ _ _ _ _ h K hK
          split
          · rename_i f xs hop
            exact absurd hop (hnc f xs)
          · rw [hr]; exact this
def iterX {σ : Type} (step : σ → Option (Exit × σ)) : Nat → σ → Option (Exit × σ)
  | 0, _ => none
  | n + 1, s => match step s with
    | none => none
    | some (e, s') => match e with
      | .normal => iterX step n s'
      | e => some (e, s')
def yAt : List COp → Nat
  | [] => 0
  | c :: cs => match c.op with
    | .call (.t _) _ => 0
    | _ => yAt cs + 1
/-- An iterator's code. -/
def xYC (cx : XC) (nm : FuncId → Bool) (hx : XH) (n : Nat) : CCode → St × Option Exit → Option (Exit × St × Option Exit)
  | .skip, s => some (.normal, s)
  | .region draw ops, s => match draw with
    | true => match Nat.ble (yAt ops) ops.length && fullFrom (yAt ops) ops with
      | true => match xOps cx nm (ops.take (yAt ops)) s.1.al s.1.hl [] with
        | some (s', tr) => match blkOk 0 tr.reverse with
          | true => match xRunY cx nm hx (ops.drop (yAt ops)) s'.al s'.hl s.2 with
            | some q => some (.normal, q)
            | none => none
          | false => none
        | none => none
      | false => none
    | false => match xRunY cx nm hx ops s.1.al s.1.hl s.2 with
      | some q => some (.normal, q)
      | none => none
  | .seq x y, s => match xYC cx nm hx n x s with
    | none => none
    | some (e, s') => match e with
      | .normal => xYC cx nm hx n y s'
      | e => some (e, s')
  | .cond c x y, s => match c.ev (get s.1.al) with
    | .bool true => xYC cx nm hx n x s
    | .bool false => xYC cx nm hx n y s
    | _ => none
  | .block id c, s => match xYC cx nm hx n c s with
    | some (.exit id', s') => if id' = id then some (.normal, s') else some (.exit id', s')
    | r => r
  | .loop c, s => iterX (xYC cx nm hx n c) n s
  | .rangeF _ _ _ _, _ => none
  | .exit id, s => some (.exit id, s)
  | .ret, s => some (.ret, s)
theorem iterY_sound {W : St → Option Exit → (Exit → St → Option Exit → Prop) → Prop} {step : St × Option Exit → Option (Exit × St × Option Exit)} (hW : ∀ s e s', step s = some (e, s') → ∀ K : Exit → St → Option Exit → Prop, K e s'.1 s'.2 → W s.1 s.2 K) :
    ∀ (n : Nat) (s : St × Option Exit) (e : Exit) (s' : St × Option Exit), iterX step n s = some (e, s') → ∀ K : Exit → St → Option Exit → Prop, K e s'.1 s'.2 → YLoop W s.1 s.2 K := by
  intro n
  induction n with
  | zero => intro s e s' h; simp [iterX] at h
  | succ n ih =>
    intro s e s' h K hK X hX
    simp only [iterX] at h
    split at h
    · cases h
    · rename_i e1 s1 hs
      split at h
      · exact hX _ _ (hW _ _ _ hs _ (ih _ _ _ h K hK X hX))
      · rename_i hne
        simp only [Option.some.injEq, Prod.mk.injEq] at h
        obtain ⟨rfl, rfl⟩ := h
        refine hX _ _ (hW _ _ _ hs _ ?_)
        cases e1 <;> first | exact hK | exact absurd rfl hne
theorem xYC_sound {P : Program} {cx : XC} (hcx : cx.Ok P) {nm : FuncId → Bool} {hx : XH} {Y : Hdl} (hY : hx.Ok Y) {n m0 : Nat} : ∀ (c : CCode) (s : St × Option Exit) (e : Exit) (s' : St × Option Exit), xYC cx nm hx n c s = some (e, s') → ∀ K : Exit → St → Option Exit → Prop, K e s'.1 s'.2 → YWp P m0 Y c s.1 s.2 K := by
  intro c
  induction c with
  | skip => intro s e s' h K hK; simp only [xYC, Option.some.injEq, Prod.mk.injEq] at h; obtain ⟨rfl, rfl⟩ := h; exact hK
  | exit id => intro s e s' h K hK; simp only [xYC, Option.some.injEq, Prod.mk.injEq] at h; obtain ⟨rfl, rfl⟩ := h; exact hK
  | ret => intro s e s' h K hK; simp only [xYC, Option.some.injEq, Prod.mk.injEq] at h; obtain ⟨rfl, rfl⟩ := h; exact hK
  | rangeF => intro s e s' h; simp [xYC] at h
  | region draw ops =>
    intro s e s' h K hK
    simp only [xYC] at h
    simp only [YWp]
    cases draw with
    | true =>
      simp only at h
      split at h <;> first | (cases h; done) | skip
      rename_i hq
      simp only [Bool.and_eq_true] at hq
      split at h <;> first | (cases h; done) | skip
      rename_i s1 tr hops
      split at h <;> first | (cases h; done) | skip
      rename_i hblk
      split at h <;> first | (cases h; done) | skip
      rename_i q hrun
      simp only [Option.some.injEq, Prod.mk.injEq] at h
      obtain ⟨rfl, rfl⟩ := h
      rw [if_pos rfl]
      exact ⟨yAt ops, Nat.le_of_ble_eq_true hq.1, hq.2, xOps_sound hcx _ _ _ _ _ _ hops _ ⟨hblk, xRunY_sound hcx hY _ _ _ _ _ _ hrun _ hK⟩⟩
    | false =>
      simp only at h
      split at h <;> first | (cases h; done) | skip
      rename_i q hrun
      simp only [Option.some.injEq, Prod.mk.injEq] at h
      obtain ⟨rfl, rfl⟩ := h
      rw [if_neg (by simp)]
      exact xRunY_sound hcx hY _ _ _ _ _ _ hrun _ hK
  | seq x y ihx ihy =>
    intro s e s' h K hK
    simp only [xYC] at h
    split at h <;> first | (cases h; done) | skip
    rename_i e1 s1 hx1
    refine ihx _ _ _ hx1 _ ?_
    split at h
    · exact ihy _ _ _ h K hK
    · rename_i hne
      simp only [Option.some.injEq, Prod.mk.injEq] at h
      obtain ⟨rfl, rfl⟩ := h
      cases e1 <;> first | exact hK | exact absurd rfl hne
  | cond c x y ihx ihy =>
    intro s e s' h K hK
    simp only [xYC] at h
    simp only [YWp]
    split at h
    · rename_i hb; (try simp only [hb]); exact ihx _ _ _ h K hK
    · rename_i hb; (try simp only [hb]); exact ihy _ _ _ h K hK
    · cases h
  | block id c ih =>
    intro s e s' h K hK
    simp only [xYC] at h
    split at h
    · rename_i id' s1 hc
      refine ih _ _ _ hc _ ?_
      simp only [yblockK]
      split at h <;> (rename_i he; simp only [Option.some.injEq, Prod.mk.injEq] at h; obtain ⟨rfl, rfl⟩ := h; (first | rw [if_pos he] | rw [if_neg he]); exact hK)
    · rename_i hne
      refine ih _ _ _ h _ ?_
      cases e <;> first | exact hK | exact absurd h (hne _ _)
  | loop c ih =>
    intro s e s' h K hK
    simp only [xYC] at h
    exact iterY_sound (fun s e s' hs K hK => .inr (ih s e s' hs K hK)) n s e s' h K hK
def exitOk : Option Exit → Bool
  | none => true
  | some .ret => true
  | some (.exit _) => true
  | _ => false
def endOk : Exit → Bool
  | .normal => true
  | .ret => true
  | _ => false
/-- A function's code. -/
def xC (cx : XC) (nm : FuncId → Bool) (T : FuncId → Option CFn) (n : Nat) : CCode → Bool → St → Option (Exit × St)
  | .skip, _, s => some (.normal, s)
  | .region draw ops, _, s => match xOps cx nm ops s.al s.hl [] with
    | some (s', tr) => match draw with
      | true => match blkOk 0 tr.reverse with
        | true => some (.normal, s')
        | false => none
      | false => some (.normal, s')
    | none => none
  | .seq x y, tp, s => match xC cx nm T n x tp s with
    | none => none
    | some (e, s') => match e with
      | .normal => xC cx nm T n y tp s'
      | e => some (e, s')
  | .cond c x y, tp, s => match c.ev (get s.al) with
    | .bool true => xC cx nm T n x tp s
    | .bool false => xC cx nm T n y tp s
    | _ => none
  | .block id c, tp, s => match xC cx nm T n c tp s with
    | some (.exit id', s') => if id' = id then some (.normal, s') else some (.exit id', s')
    | r => r
  | .loop c, tp, s => iterX (xC cx nm T n c tp) n s
  | .rangeF f ps x y, tp, s => match tp with
    | false => none
    | true => match f.ev (get s.al) with
      | .clo fid caps => match T fid with
        | some F => match Nat.ble (caps.length + 1) F.n with
          | true => match xYC cx nm (fun vs hl => match Nat.beq vs.length ps.length with
              | false => none
              | true => match xC cx nm T n x false ⟨setPs s.al ps vs, hl⟩ with
                | some (.normal, s1) => match xC cx nm T n y false s1 with
                  | some (.normal, s2) => some (none, s2.hl)
                  | some (.ret, s2) => some (some .ret, s2.hl)
                  | some (.exit id, s2) => some (some (.exit id), s2.hl)
                  | _ => none
                | _ => none) n F.code (⟨argsAl 0 (.yld :: caps), s.hl⟩, none) with
            | some (e, s', st') => match endOk e && (resRV s'.al s'.hl F.rvs).isSome && exitOk st' && Nat.ble s.hl.length s'.hl.length && s'.hl.all fun b => b.lt s'.hl.length with
              | true => some (st'.getD .normal, ⟨s.al, s'.hl⟩)
              | false => none
            | none => none
          | false => none
        | none => none
      | _ => none
  | .exit id, _, s => some (.exit id, s)
  | .ret, _, s => some (.ret, s)
def TOk (P : Program) (T : FuncId → Option CFn) : Prop := ∀ f F, T f = some F → compF P f = some F
theorem iterC_sound {W : St → (Exit → St → Prop) → Prop} {step : St → Option (Exit × St)} (hW : ∀ s e s', step s = some (e, s') → ∀ K : Exit → St → Prop, K e s' → W s K) :
    ∀ (n : Nat) (s : St) (e : Exit) (s' : St), iterX step n s = some (e, s') → ∀ K : Exit → St → Prop, K e s' → CLoop W s K := by
  intro n
  induction n with
  | zero => intro s e s' h; simp [iterX] at h
  | succ n ih =>
    intro s e s' h K hK X hX
    simp only [iterX] at h
    split at h
    · cases h
    · rename_i e1 s1 hs
      split at h
      · exact hX _ (hW _ _ _ hs _ (ih _ _ _ h K hK X hX))
      · rename_i hne
        simp only [Option.some.injEq, Prod.mk.injEq] at h
        obtain ⟨rfl, rfl⟩ := h
        refine hX _ (hW _ _ _ hs _ ?_)
        cases e1 <;> first | exact hK | exact absurd rfl hne
theorem xC_sound {P : Program} {cx : XC} (hcx : cx.Ok P) {nm : FuncId → Bool} {T : FuncId → Option CFn} (hT : TOk P T) {n : Nat} : ∀ (c : CCode) (tp : Bool) (s : St) (e : Exit) (s' : St), xC cx nm T n c tp s = some (e, s') → ∀ (m0 : Nat) (K : Exit → St → Prop), K e s' → CWp P c m0 tp s K := by
  intro c
  induction c with
  | skip => intro tp s e s' h m0 K hK; simp only [xC, Option.some.injEq, Prod.mk.injEq] at h; obtain ⟨rfl, rfl⟩ := h; exact hK
  | exit id => intro tp s e s' h m0 K hK; simp only [xC, Option.some.injEq, Prod.mk.injEq] at h; obtain ⟨rfl, rfl⟩ := h; exact hK
  | ret => intro tp s e s' h m0 K hK; simp only [xC, Option.some.injEq, Prod.mk.injEq] at h; obtain ⟨rfl, rfl⟩ := h; exact hK
  | region draw ops =>
    intro tp s e s' h m0 K hK
    simp only [xC] at h
    split at h <;> first | (cases h; done) | skip
    rename_i s1 tr hops
    simp only [CWp]
    refine xOps_sound hcx _ _ _ _ _ _ hops _ ?_
    cases draw with
    | true =>
      simp only at h
      split at h <;> first | (cases h; done) | skip
      rename_i hb
      simp only [Option.some.injEq, Prod.mk.injEq] at h
      obtain ⟨rfl, rfl⟩ := h
      exact ⟨fun _ => hb, hK⟩
    | false =>
      simp only [Option.some.injEq, Prod.mk.injEq] at h
      obtain ⟨rfl, rfl⟩ := h
      exact ⟨fun hf => (by cases hf), hK⟩
  | seq x y ihx ihy =>
    intro tp s e s' h m0 K hK
    simp only [xC] at h
    split at h <;> first | (cases h; done) | skip
    rename_i e1 s1 hx1
    refine ihx tp _ _ _ hx1 m0 _ ?_
    split at h
    · exact ihy tp _ _ _ h m0 K hK
    · rename_i hne
      simp only [Option.some.injEq, Prod.mk.injEq] at h
      obtain ⟨rfl, rfl⟩ := h
      cases e1 <;> first | exact hK | exact absurd rfl hne
  | cond c x y ihx ihy =>
    intro tp s e s' h m0 K hK
    simp only [xC] at h
    simp only [CWp]
    split at h
    · rename_i hb; (try simp only [hb]); exact ihx tp _ _ _ h m0 K hK
    · rename_i hb; (try simp only [hb]); exact ihy tp _ _ _ h m0 K hK
    · cases h
  | block id c ih =>
    intro tp s e s' h m0 K hK
    simp only [xC] at h
    split at h
    · rename_i id' s1 hc
      refine ih tp _ _ _ hc m0 _ ?_
      simp only [blockK]
      split at h <;> (rename_i he; simp only [Option.some.injEq, Prod.mk.injEq] at h; obtain ⟨rfl, rfl⟩ := h; (first | rw [if_pos he] | rw [if_neg he]); exact hK)
    · rename_i hne
      refine ih tp _ _ _ h m0 _ ?_
      cases e <;> first | exact hK | exact absurd h (hne _ _)
  | loop c ih =>
    intro tp s e s' h m0 K hK
    simp only [xC] at h
    exact iterC_sound (fun s e s' hs K hK => .inr (ih tp s e s' hs m0 K hK)) n s e s' h K hK
  | rangeF f ps x y ihx ihy =>
    intro tp s e s' h m0 K hK
    simp only [xC] at h
    cases tp with
    | false => simp at h
    | true =>
      simp only at h
      split at h <;> first | (cases h; done) | skip
      rename_i fid caps hf
      split at h <;> first | (cases h; done) | skip
      rename_i F hF
      split at h <;> first | (cases h; done) | skip
      rename_i hcaps
      split at h <;> first | (cases h; done) | skip
      rename_i e1 s1 st1 hrun
      split at h <;> first | (cases h; done) | skip
      rename_i hok
      simp only [Option.some.injEq, Prod.mk.injEq] at h
      obtain ⟨rfl, rfl⟩ := h
      simp only [Bool.and_eq_true, List.all_eq_true] at hok
      obtain ⟨⟨⟨⟨h1, h2⟩, h3⟩, h4⟩, h5⟩ := hok
      refine ⟨rfl, fid, caps, F, hf, hT _ _ hF, Nat.le_of_ble_eq_true hcaps, xYC_sound hcx (Y := fun vs hl Kont => vs.length = ps.length ∧ CWp P x hl.length false ⟨setPs s.al ps vs, hl⟩ (fun e s1 => e = .normal ∧ CWp P y s1.hl.length false s1 (bodyK Kont))) ?_ _ _ _ _ hrun _ ?_⟩
      · intro vs hl res hl' hh Kont hKo
        simp only at hh
        split at hh <;> first | (cases hh; done) | skip
        rename_i hlen
        split at hh <;> first | (cases hh; done) | skip
        rename_i s2 hx2
        refine ⟨Nat.eq_of_beq_eq_true hlen, ihx false _ _ _ hx2 _ _ ⟨rfl, ?_⟩⟩
        split at hh <;> first | (cases hh; done) | skip
        all_goals
          rename_i hy2
          simp only [Option.some.injEq, Prod.mk.injEq] at hh
          obtain ⟨rfl, rfl⟩ := hh
          exact ihy false _ _ _ hy2 _ _ hKo
      · refine ⟨?_, h2, ?_, s1.hl.length, Nat.le_of_ble_eq_true h4, by simpa using h5, by simpa using hK⟩
        · cases e1 <;> simp [endOk] at h1 ⊢
        · cases st1 with
          | none => exact .inl rfl
          | some q => cases q <;> simp [exitOk] at h3 ⊢
end Go.Am
end
section
namespace Go.Am
open Go Go.RowKit

inductive FT where
  | nil
  | leaf (k : Nat) (F : CFn)
  | node (m : Nat) (l r : FT)
def FT.look : FT → Nat → Option CFn
  | .nil, _ => none
  | .leaf k F, f => match Nat.beq f k with
    | true => some F
    | false => none
  | .node m l r, f => match Nat.blt f m with
    | true => l.look f
    | false => r.look f
def FT.Ok (P : Program) : FT → Prop
  | .nil => True
  | .leaf k F => compF P k = some F
  | .node _ l r => l.Ok P ∧ r.Ok P
theorem FT.tOk {P : Program} : ∀ (t : FT), t.Ok P → TOk P t.look := by
  intro t
  induction t with
  | nil => intro _ f F h; simp [FT.look] at h
  | leaf k G =>
    intro hk f F h
    simp only [FT.look] at h
    split at h <;> first | (cases h; done) | skip
    rename_i hb
    simp only [Option.some.injEq] at h; subst h
    rw [Nat.eq_of_beq_eq_true hb]
    exact hk
  | node m l r ihl ihr =>
    intro hk f F h
    simp only [FT.look] at h
    split at h
    · exact ihl hk.1 f F h
    · exact ihr hk.2 f F h
end Go.Am
end
