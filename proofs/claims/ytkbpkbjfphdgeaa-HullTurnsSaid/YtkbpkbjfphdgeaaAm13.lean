/- Going through with slots in the order in which they were filled.
   Conditions: none. -/
import Derived.Test.YtkbpkbjfphdgeaaAm12
set_option linter.unusedSimpArgs false
set_option linter.unusedVariables false
namespace Go.Am
open Go Go.RowKit

def consO (l : List (Nat × AV)) (d : Option Nat) (v : AV) : List (Nat × AV) := match d with
  | some d => (d, v) :: l
  | none => l

theorem get_consO {al l : List (Nat × AV)} (h : get al = get l) (d : Option Nat) (v : AV) : get (setO al d v) = get (consO l d v) := by
  cases d with
  | none => exact h
  | some d =>
    rw [get_setO]
    funext t
    simp only [updO, consO, get, upd]
    by_cases ht : d = t
    · subst ht; simp
    · rw [if_neg ht, if_neg (Ne.symm ht), h]

abbrev KX := List (Nat × AV) → List Blk → Tr → Prop

structure ROx (P : Program) (ops : List COp) (l : List (Nat × AV)) (hl : List Blk) (tr : Tr) (K : KX) : Prop where
  run : ∀ al, get al = get l → RO P ops al hl tr fun s tr' => ∃ l', get s.al = get l' ∧ K l' s.hl tr'

structure CWx (P : Program) (m0 : Nat) (tp : Bool) (c : CCode) (l : List (Nat × AV)) (hl : List Blk) (K : Exit → St → Prop) : Prop where
  run : ∀ al, get al = get l → CW P m0 tp c ⟨al, hl⟩ K

theorem aopA_congr {op : AOp} {al l : List (Nat × AV)} {hl : List Blk} (h : get al = get l) : aopA op al hl = aopA op l hl := by unfold aopA; rw [h]
theorem refA_congr {op : AOp} {al l : List (Nat × AV)} (h : get al = get l) : refA op al = refA op l := by rw [← touchA_eq, ← touchA_eq]; unfold touchA; rw [h]

def afterx (P : Program) (cs : List COp) (op : AOp) (dst : Option Nat) (bef : Nat) (l : List (Nat × AV)) (hl : List Blk) (tr : Tr) (K : KX) : Option Res → Prop
  | none => False
  | some r => ROx P cs (consO l dst r.v) (hsetL hl r.ups) ((refA op l ++ r.ups.map Prod.fst, r.ups.map Prod.fst, bef) :: tr) K

section
variable {P : Program} {K : KX}

theorem X_nil (l : List (Nat × AV)) (hl : List Blk) (tr : Tr) (h : K l hl tr.reverse) : ROx P [] l hl tr K := ⟨fun al hal => by rw [RunOps_nil]; exact ⟨l, hal, h⟩⟩

theorem X_op (op : AOp) (hc : isCall op = false) (dst : Option Nat) (bef : Nat) (cs : List COp) (l : List (Nat × AV)) (hl : List Blk) (tr : Tr) (h : afterx P cs op dst bef l hl tr K (aopA op l hl)) : ROx P (⟨op, dst, none, bef⟩ :: cs) l hl tr K := by
  refine ⟨fun al hal => ?_⟩
  rw [RunOps_op dst bef cs al hl tr op hc, aopA_congr hal]
  cases hr : aopA op l hl with
  | none => rw [hr] at h; exact h
  | some r =>
    rw [hr] at h
    simp only [after, refA_congr hal]
    exact h.run _ (get_consO hal dst r.v)

/-- Guards. -/
def ROgx (P : Program) (v : AV) (w : Bool) (op : AOp) (dst : Option Nat) (bef : Nat) (cs : List COp) (l : List (Nat × AV)) (hl : List Blk) (tr : Tr) (K : KX) : Prop :=
  match v with
  | .bool b => if b = w then ROx P (⟨op, dst, none, bef⟩ :: cs) l hl tr K else ROx P cs (consO l dst (.tup [])) hl (([], [], bef) :: tr) K
  | .tup [] => ROx P cs (consO l dst (.tup [])) hl (([], [], bef) :: tr) K
  | _ => False

theorem X_guard (op : AOp) (dst : Option Nat) (d : Nat) (w : Bool) (bef : Nat) (cs : List COp) (l : List (Nat × AV)) (hl : List Blk) (tr : Tr) (h : ROgx P (get l d) w op dst bef cs l hl tr K) : ROx P (⟨op, dst, some (d, w), bef⟩ :: cs) l hl tr K := by
  refine ⟨fun al hal => ?_⟩
  rw [RO_guard, hal]
  unfold ROgx at h
  unfold ROg
  split at h <;> first | exact h.elim | skip
  · rename_i b hb
    rw [hb]
    simp only
    split at h
    · rename_i hbw; rw [if_pos hbw]; exact h.run al hal
    · rename_i hbw; rw [if_neg hbw]; exact h.run _ (get_consO hal dst _)
  · rename_i hb
    rw [hb]
    exact h.run _ (get_consO hal dst _)

/-- A call. -/
structure RCx (P : Program) (f : Opd) (xs : List Opd) (dst : Option Nat) (bef : Nat) (l : List (Nat × AV)) (hl : List Blk) (tr : Tr) (next : List (Nat × AV) → List Blk → Tr → Prop) : Prop where
  run : ∃ (fid : FuncId) (caps : List AV) (T : List Nat) (r : AV) (W : List (Nat × Blk)), f.ev (get l) = .clo fid caps ∧ CallsL P fid (xs.map (·.ev (get l)) ++ caps) (hget hl) T r W ∧
    (okW hl.length W && W.all (fun p => T.contains p.1)) = true ∧ next (consO l dst r) (hsetL hl W) ((T, W.map Prod.fst, bef) :: tr)

theorem X_call (f : Opd) (xs : List Opd) (dst : Option Nat) (bef : Nat) (cs : List COp) (l : List (Nat × AV)) (hl : List Blk) (tr : Tr) (h : RCx P f xs dst bef l hl tr fun l hl tr => ROx P cs l hl tr K) : ROx P (⟨.call f xs, dst, none, bef⟩ :: cs) l hl tr K := by
  refine ⟨fun al hal => ?_⟩
  rw [RunOps_call]
  obtain ⟨fid, caps, T, r, W, h1, h2, h3, h4⟩ := h.run
  exact ⟨fid, caps, T, r, W, by rw [hal]; exact h1, by rw [hal]; exact h2, h3, h4.run _ (get_consO hal dst r)⟩

theorem RCx.view {f : Opd} {xs : List Opd} {dst : Option Nat} {bef : Nat} {l : List (Nat × AV)} {hl : List Blk} {tr : Tr} {next : List (Nat × AV) → List Blk → Tr → Prop}
    {fid : FuncId} {caps : List AV} (hf : evA l f = .clo fid caps) {X args : List AV} (hX : evsA l xs ++ caps = X) {T0 : List Nat} (hv : viewArgs hl X = some (args, T0)) {r : AV} (hC : CallsF P fid args [] r []) (hr : flatN false 5 r = true)
    (h : next (consO l dst r) hl ((T0, [], bef) :: tr)) : RCx P f xs dst bef l hl tr next := by
  obtain ⟨f1, f2, f3⟩ := flatN_spec 5 _ hr
  obtain ⟨h1, h2⟩ := viewArgs_spec _ _ _ hv
  refine ⟨fid, caps, T0, r, [], by rw [evA_eq]; exact hf, ?_, rfl, h⟩
  have := CallsF.frame true hC (h := hget hl) (T := T0) (names := []) (n := hl.length) ⟨rfl, Nat.le_refl _, List.nodup_nil, fun x hx => (by cases hx), fun i x hx => (by simp at hx), fun b hb1 hb2 => (by simp at hb2; omega), fun b hb => (by cases hb)⟩ (fun x hx => (by cases hx))
    (fun b hb1 hb2 => (by simp at hb2; omega)) h1 (fun i Y y hY hy => h2 i Y y hY hy _ (fun b hb => hb)) (fun _ => ⟨f3 rfl, fun b hb => (by cases hb)⟩)
  rw [ren_id _ f1] at this
  rw [evsA_eq, hX]
  exact this

theorem RCx.viewR {f : Opd} {xs : List Opd} {dst : Option Nat} {bef : Nat} {l : List (Nat × AV)} {hl : List Blk} {tr : Tr} {next : List (Nat × AV) → List Blk → Tr → Prop}
    {fid : FuncId} {caps : List AV} (hf : evA l f = .clo fid caps) {X args : List AV} (hX : evsA l xs ++ caps = X) {T0 : List Nat} (hv : viewArgs hl X = some (args, T0)) {r : AV} {b : Blk} (hC : CallsF P fid args [] r [b]) (hr : (r.clean && b.clean) = true)
    (h : next (consO l dst (r.ren (fun b => hl.length + b))) (hsetL hl [(hl.length, b.ren (fun b => hl.length + b))]) ((T0 ++ [hl.length], [hl.length], bef) :: tr)) : RCx P f xs dst bef l hl tr next := by
  obtain ⟨h1, h2⟩ := viewArgs_spec _ _ _ hv
  have hs : sigma [] hl.length = fun b => hl.length + b := by funext b; simp [sigma]
  refine ⟨fid, caps, T0 ++ [hl.length], r.ren (fun b => hl.length + b), [(hl.length, b.ren (fun b => hl.length + b))], by rw [evA_eq]; exact hf, ?_, ?_, h⟩
  · simp only [Bool.and_eq_true] at hr
    have := CallsF.frame true hC (h := hget hl) (T := T0 ++ [hl.length]) (names := []) (n := hl.length) ⟨rfl, Nat.zero_le _, List.nodup_nil, fun x hx => (by cases hx), fun i x hx => (by simp at hx), fun b hb _ => hget_dead _ _ hb, fun b hb => (by cases hb)⟩ (fun x hx => (by cases hx))
      (fun b hb1 hb2 => (by simp at hb2 ⊢; right; omega)) h1 (fun i Y y hY hy => h2 i Y y hY hy _ (fun b hb => List.mem_append_left _ hb)) (fun _ => ⟨hr.1, fun b' hb => (by rw [List.mem_singleton.1 hb]; exact hr.2)⟩)
    rw [hs] at this
    rw [evsA_eq, hX]
    exact this
  · simp [okW]

theorem RCx.one {f : Opd} {xs : List Opd} {dst : Option Nat} {bef : Nat} {l : List (Nat × AV)} {hl : List Blk} {tr : Tr} {next : List (Nat × AV) → List Blk → Tr → Prop}
    {fid : FuncId} {caps : List AV} (hf : evA l f = .clo fid caps) {X args : List AV} (hX : evsA l xs ++ caps = X) {b : Nat} {T0 : List Nat} (hv : ArgsB hl b T0 X args) {blk blk' : Blk} {r : AV} (hC : CallsF P fid args [blk] r [blk']) (hb : b < hl.length) (hblk : hget hl b = blk) (hl0 : blk.lt 0 = true)
    (hr : flatN false 5 r = true) (hl1 : blk'.lt 0 = true) (hcl : blk'.clean = true) (h : next (consO l dst r) (hsetL hl [(b, blk')]) ((b :: T0, [b], bef) :: tr)) : RCx P f xs dst bef l hl tr next := by
  obtain ⟨f1, f2, f3⟩ := flatN_spec 5 _ hr
  obtain ⟨h1, h2⟩ := hv.spec
  refine ⟨fid, caps, b :: T0, r, [(b, blk')], by rw [evA_eq]; exact hf, ?_, ?_, h⟩
  · have := CallsF.frame true hC (h := hget hl) (T := b :: T0) (names := [b]) (n := hl.length) ⟨rfl, Nat.le_refl _, by simp, fun x hx => (by rw [List.mem_singleton.1 hx]; exact hb), fun i x hx => (by
        cases i with
        | zero => simp only [List.getElem?_cons_zero, Option.some.injEq] at hx; subst hx; rw [hblk]; exact (ltB_zero hl0 _).symm
        | succ i => simp at hx), fun b hb1 hb2 => (by simp at hb2; omega), fun b' hb' => (by rw [List.mem_singleton.1 hb']; exact blt_mono (Nat.zero_le _) hl0)⟩ (fun x hx => (by rw [List.mem_singleton.1 hx]; simp))
      (fun b hb1 hb2 => (by simp at hb2; omega)) h1 (fun i Y y hY hy => h2 i Y y hY hy (fun b' hb' => List.mem_cons_of_mem _ hb')) (fun _ => ⟨f3 rfl, fun b' hb' => (by rw [List.mem_singleton.1 hb']; exact hcl)⟩)
    rw [ren_id _ f1] at this
    simp only [frW, ltB_zero hl1] at this
    rw [evsA_eq, hX]
    simpa [sigma] using this
  · simp [okW]; omega

theorem RCx.oneR {f : Opd} {xs : List Opd} {dst : Option Nat} {bef : Nat} {l : List (Nat × AV)} {hl : List Blk} {tr : Tr} {next : List (Nat × AV) → List Blk → Tr → Prop}
    {fid : FuncId} {caps : List AV} (hf : evA l f = .clo fid caps) {X args : List AV} (hX : evsA l xs ++ caps = X) {b : Nat} {T0 : List Nat} (hv : ArgsB hl b T0 X args) {blk blk' : Blk} {r : AV} (hC : CallsF P fid args [blk] r [blk']) (hb : b < hl.length) (hblk : hget hl b = blk) (hl0 : blk.lt 0 = true)
    (hr : r.clean = true) (hl1 : blk'.lt 0 = true) (hcl : blk'.clean = true) {r' : AV} (hr' : r.ren (sigma [b] hl.length) = r') (h : next (consO l dst r') (hsetL hl [(b, blk')]) ((b :: T0, [b], bef) :: tr)) : RCx P f xs dst bef l hl tr next := by
  obtain ⟨h1, h2⟩ := hv.spec
  subst hr'
  refine ⟨fid, caps, b :: T0, _, [(b, blk')], by rw [evA_eq]; exact hf, ?_, ?_, h⟩
  · have := CallsF.frame true hC (h := hget hl) (T := b :: T0) (names := [b]) (n := hl.length) ⟨rfl, Nat.le_refl _, by simp, fun x hx => (by rw [List.mem_singleton.1 hx]; exact hb), fun i x hx => (by
        cases i with
        | zero => simp only [List.getElem?_cons_zero, Option.some.injEq] at hx; subst hx; rw [hblk]; exact (ltB_zero hl0 _).symm
        | succ i => simp at hx), fun b hb1 hb2 => (by simp at hb2; omega), fun b' hb' => (by rw [List.mem_singleton.1 hb']; exact blt_mono (Nat.zero_le _) hl0)⟩ (fun x hx => (by rw [List.mem_singleton.1 hx]; simp))
      (fun b hb1 hb2 => (by simp at hb2; omega)) h1 (fun i Y y hY hy => h2 i Y y hY hy (fun b' hb' => List.mem_cons_of_mem _ hb')) (fun _ => ⟨hr, fun b' hb' => (by rw [List.mem_singleton.1 hb']; exact hcl)⟩)
    simp only [frW, ltB_zero hl1] at this
    rw [evsA_eq, hX]
    simpa [sigma] using this
  · simp [okW]; omega

end

section
variable {P : Program} {m0 : Nat} {tp : Bool} {K : Exit → St → Prop}

theorem CWx.rI {draw : Bool} {ops : List COp} {y : CCode} {l : List (Nat × AV)} {hl : List Blk} (h : ∀ K' : KX, (∀ l hl tr, (draw = true → blkOk 0 tr = true) → CWx P m0 tp y l hl K → K' l hl tr) → ROx P ops l hl [] K') : CWx P m0 tp (.seq (.region draw ops) y) l hl K := by
  refine ⟨fun al hal => CW.rI fun K' hK' => ?_⟩
  have := (h (fun l hl tr => (draw = true → blkOk 0 tr = true) ∧ CWx P m0 tp y l hl K) (fun l hl tr h1 h2 => ⟨h1, h2⟩)).run al hal
  rw [RO_eq] at this ⊢
  exact RunOps.mono _ _ _ _ (fun s tr ⟨l', e, h1, h2⟩ => hK' s tr h1 (h2.run s.al e)) this
theorem CWx.rE {draw : Bool} {ops : List COp} {l : List (Nat × AV)} {hl : List Blk} (h : ∀ K' : KX, (∀ l hl tr, (draw = true → blkOk 0 tr = true) → (∀ al, get al = get l → K .normal ⟨al, hl⟩) → K' l hl tr) → ROx P ops l hl [] K') : CWx P m0 tp (.region draw ops) l hl K := by
  refine ⟨fun al hal => CW.rE fun K' hK' => ?_⟩
  have := (h (fun l hl tr => (draw = true → blkOk 0 tr = true) ∧ ∀ al, get al = get l → K .normal ⟨al, hl⟩) (fun l hl tr h1 h2 => ⟨h1, h2⟩)).run al hal
  rw [RO_eq] at this ⊢
  exact RunOps.mono _ _ _ _ (fun s tr ⟨l', e, h1, h2⟩ => hK' s tr h1 (h2 s.al e)) this
theorem CWx.seq {x y : CCode} {l : List (Nat × AV)} {hl : List Blk} (h : CWx P m0 tp x l hl (thenK K fun s' => CW P m0 tp y s' K)) : CWx P m0 tp (.seq x y) l hl K := ⟨fun al hal => CW.seq (h.run al hal)⟩
theorem CWx.block {id : Nat} {c : CCode} {l : List (Nat × AV)} {hl : List Blk} (h : CWx P m0 tp c l hl (blockK id K)) : CWx P m0 tp (.block id c) l hl K := ⟨fun al hal => CW.block (h.run al hal)⟩
theorem CWx.condT {c : Opd} {x y : CCode} {l : List (Nat × AV)} {hl : List Blk} (hc : evA l c = .bool true) (h : CWx P m0 tp x l hl K) : CWx P m0 tp (.cond c x y) l hl K := ⟨fun al hal => CW.condT (by rw [← evA_eq, hal, evA_eq]; exact hc) (h.run al hal)⟩
theorem CWx.condF {c : Opd} {x y : CCode} {l : List (Nat × AV)} {hl : List Blk} (hc : evA l c = .bool false) (h : CWx P m0 tp y l hl K) : CWx P m0 tp (.cond c x y) l hl K := ⟨fun al hal => CW.condF (by rw [← evA_eq, hal, evA_eq]; exact hc) (h.run al hal)⟩
theorem CWx.skip {l : List (Nat × AV)} {hl : List Blk} (h : ∀ al, get al = get l → K .normal ⟨al, hl⟩) : CWx P m0 tp .skip l hl K := ⟨fun al hal => CW.skip (h al hal)⟩
theorem CWx.exit {id : Nat} {l : List (Nat × AV)} {hl : List Blk} (h : ∀ al, get al = get l → K (.exit id) ⟨al, hl⟩) : CWx P m0 tp (.exit id) l hl K := ⟨fun al hal => CW.exit (h al hal)⟩
theorem CWx.ret {l : List (Nat × AV)} {hl : List Blk} (h : ∀ al, get al = get l → K .ret ⟨al, hl⟩) : CWx P m0 tp .ret l hl K := ⟨fun al hal => CW.ret (h al hal)⟩
/-- On behind a piece. -/
theorem CWx.go {y : CCode} {l : List (Nat × AV)} {hl : List Blk} (h : CWx P m0 tp y l hl K) : ∀ al, get al = get l → CW P m0 tp y ⟨al, hl⟩ K := fun al hal => h.run al hal
theorem CW.ofx {y : CCode} {l : List (Nat × AV)} {hl : List Blk} (h : CWx P m0 tp y l hl K) : CW P m0 tp y ⟨l, hl⟩ K := h.run l rfl
theorem Fgt.ofx {al l : List (Nat × AV)} {hl : List Blk} {t : St} (hal : get al = get l) (h : Fgt m0 ⟨l, hl⟩ t) : Fgt m0 ⟨al, hl⟩ t := by
  obtain ⟨m, h0, h1, h2, h3⟩ := h.ex
  exact ⟨m, h0, fun p hp => by simp only [hal]; exact h1 p hp, h2, h3⟩
theorem finK_ext {rvs : List RV} {n : Nat} {r : AV} {hl' : List Blk} {e : Exit} {al l : List (Nat × AV)} {hl : List Blk} (hal : get al = get l) (h : finK rvs n r hl' e ⟨l, hl⟩) : finK rvs n r hl' e ⟨al, hl⟩ := by
  have hres : ∀ rvs : List RV, resRV al hl rvs = resRV l hl rvs := by
    intro rvs
    induction rvs with
    | nil => rfl
    | cons x xs ih => cases x <;> simp only [resRV, ih, hal]
  obtain ⟨h1, xs, sg, h2, h3⟩ := h
  exact ⟨h1, xs, sg, (hres rvs).trans h2, h3⟩
theorem CWx.loopF {ι : Type} {c : CCode} (μ : ι → Nat) (st : ι → St) (Q : ι → Prop)
    (h : ∀ i, Q i → CWx P m0 tp c (st i).al (st i).hl (thenK K fun s' => ∃ j, μ j < μ i ∧ Q j ∧ Fgt m0 s' (st j))) (i0 : ι) (hq : Q i0) {l : List (Nat × AV)} {hl : List Blk} (hs : Fgt m0 ⟨l, hl⟩ (st i0)) : CWx P m0 tp (.loop c) l hl K :=
  ⟨fun al hal => CW.loopF μ st Q (fun i hi => (h i hi).run (st i).al rfl) i0 hq _ (Fgt.ofx hal hs)⟩
theorem callsF_cwx (hm : P.follows .mixedOrders = true) {f : FuncId} {F : CFn} (hF : compF P f = some F) {args : List AV} {hl : List Blk} {r : AV} {hl' : List Blk} (hargs : args.length ≤ F.n) (h : CWx P hl.length true F.code (argsAl 0 args) hl (finK F.rvs hl.length r hl')) : CallsF P f args hl r hl' := callsF_cw hm hF hargs (h.run _ rfl)
end

end Go.Am
