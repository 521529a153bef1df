/- The same, computed.
   Conditions: none. -/
import Derived.Test.YtkbpkbjfphdgeaaAm13
section
set_option linter.unusedSimpArgs false
set_option linter.unusedVariables false
namespace Go.Am
open Go Go.RowKit

def RunX (P : Program) : List COp → List (Nat × AV) → List Blk → Tr → KX → Prop
  | [], l, hl, tr, K => K l hl tr.reverse
  | c :: cs, l, hl, tr, K => match wantedA l c.guard with
    | none => False
    | some false => RunX P cs (consO l c.dst (.tup [])) hl (([], [], c.bef) :: tr) K
    | some true => match c.op with
      | .call f xs => RCx P f xs c.dst c.bef l hl tr fun l hl tr => RunX P cs l hl tr K
      | op => match aopA op l hl with
        | none => False
        | some r => RunX P cs (consO l c.dst r.v) (hsetL hl r.ups) ((refA op l ++ r.ups.map Prod.fst, r.ups.map Prod.fst, c.bef) :: tr) K

structure RX (P : Program) (ops : List COp) (l : List (Nat × AV)) (hl : List Blk) (tr : Tr) (K : KX) : Prop where
  run : RunX P ops l hl tr K
theorem RX_eq (P : Program) (ops : List COp) (l : List (Nat × AV)) (hl : List Blk) (tr : Tr) (K : KX) : RX P ops l hl tr K = RunX P ops l hl tr K := propext ⟨fun h => h.run, fun h => ⟨h⟩⟩

variable {P : Program} {K : KX}

theorem RunX.sound : ∀ (cs : List COp) (l : List (Nat × AV)) (hl : List Blk) (tr : Tr), RunX P cs l hl tr K → ROx P cs l hl tr K := by
  intro cs
  induction cs with
  | nil => intro l hl tr h; exact X_nil l hl tr h
  | cons c cs ih =>
    intro l hl tr h
    obtain ⟨op, dst, guard, bef⟩ := c
    have plain : RunX P (⟨op, dst, none, bef⟩ :: cs) l hl tr K → ROx P (⟨op, dst, none, bef⟩ :: cs) l hl tr K := by
      intro h
      cases hc : isCall op with
      | true =>
        obtain ⟨f, xs, rfl⟩ : ∃ f xs, op = .call f xs := by cases op <;> first | (cases hc; done) | exact ⟨_, _, rfl⟩
        simp only [RunX, wantedA] at h
        obtain ⟨fid, caps, T, r, W, h1, h2, h3, h4⟩ := h.run
        exact X_call f xs dst bef cs l hl tr ⟨fid, caps, T, r, W, h1, h2, h3, ih _ _ _ h4⟩
      | false =>
        refine X_op op hc dst bef cs l hl tr ?_
        have h' : (match aopA op l hl with
          | none => False
          | some r => RunX P cs (consO l dst r.v) (hsetL hl r.ups) ((refA op l ++ r.ups.map Prod.fst, r.ups.map Prod.fst, bef) :: tr) K) := by
          cases op <;> first | (cases hc; done) | exact h
        cases hr : aopA op l hl with
        | none => rw [hr] at h'; exact h'.elim
        | some r => rw [hr] at h'; exact ih _ _ _ h'
    cases guard with
    | none => exact plain h
    | some q =>
      obtain ⟨d, w⟩ := q
      refine X_guard op dst d w bef cs l hl tr ?_
      unfold ROgx
      simp only [RunX, wantedA] at h
      generalize hg : get l d = v at h
      cases v <;> first | exact h.elim | skip
      · rename_i b
        simp only
        cases b <;> cases w <;> first
          | (rw [if_pos rfl]; exact plain h)
          | (rw [if_neg (by decide)]; exact ih _ _ _ h)
      · rename_i vs
        cases vs with
        | nil => exact ih _ _ _ h
        | cons => exact h.elim

def afterX (P : Program) (cs : List COp) (op : AOp) (dst : Option Nat) (bef : Nat) (l : List (Nat × AV)) (hl : List Blk) (tr : Tr) (K : KX) : Option Res → Prop
  | none => False
  | some r => RX P cs (consO l dst r.v) (hsetL hl r.ups) ((refA op l ++ r.ups.map Prod.fst, r.ups.map Prod.fst, bef) :: tr) K
theorem afterX_some (cs : List COp) (op : AOp) (dst : Option Nat) (bef : Nat) (l : List (Nat × AV)) (hl : List Blk) (tr : Tr) (v : AV) (W : List (Nat × Blk)) :
    afterX P cs op dst bef l hl tr K (some ⟨v, W⟩) = RX P cs (consO l dst v) (hsetL hl W) ((refA op l ++ W.map Prod.fst, W.map Prod.fst, bef) :: tr) K := rfl
theorem X_end (l : List (Nat × AV)) (hl : List Blk) (tr : Tr) : RX P [] l hl tr K = K l hl tr.reverse := by rw [RX_eq]; rfl
theorem X_cl (f : Opd) (xs : List Opd) (dst : Option Nat) (bef : Nat) (cs : List COp) (l : List (Nat × AV)) (hl : List Blk) (tr : Tr) :
    RX P (⟨.call f xs, dst, none, bef⟩ :: cs) l hl tr K = RCx P f xs dst bef l hl tr fun l hl tr => RX P cs l hl tr K := by simp only [RX_eq]; rfl

def gX (P : Program) (v : AV) (w : Bool) (op : AOp) (dst : Option Nat) (bef : Nat) (cs : List COp) (l : List (Nat × AV)) (hl : List Blk) (tr : Tr) (K : KX) : Prop :=
  match v with
  | .bool b => if b = w then RX P (⟨op, dst, none, bef⟩ :: cs) l hl tr K else RX P cs (consO l dst (.tup [])) hl (([], [], bef) :: tr) K
  | .tup [] => RX P cs (consO l dst (.tup [])) hl (([], [], bef) :: tr) K
  | _ => False
theorem X_g (op : AOp) (dst : Option Nat) (d : Nat) (w : Bool) (bef : Nat) (cs : List COp) (l : List (Nat × AV)) (hl : List Blk) (tr : Tr) :
    RX P (⟨op, dst, some (d, w), bef⟩ :: cs) l hl tr K = gX P (get l d) w op dst bef cs l hl tr K := by
  unfold gX
  simp only [RX_eq, RunX, wantedA]
  generalize get l d = v
  cases v <;> try rfl
  · rename_i b
    cases b <;> cases w <;> rfl
  · rename_i vs
    cases vs <;> rfl
theorem gX_yes {w : Bool} (b : Bool) (op : AOp) (dst : Option Nat) (bef : Nat) (cs : List COp) (l : List (Nat × AV)) (hl : List Blk) (tr : Tr) :
    gX P (.bool b) w op dst bef cs l hl tr K = if b = w then RX P (⟨op, dst, none, bef⟩ :: cs) l hl tr K else RX P cs (consO l dst (.tup [])) hl (([], [], bef) :: tr) K := rfl
theorem gX_tt (op : AOp) (dst : Option Nat) (bef : Nat) (cs : List COp) (l : List (Nat × AV)) (hl : List Blk) (tr : Tr) : gX P (.bool true) true op dst bef cs l hl tr K = RX P (⟨op, dst, none, bef⟩ :: cs) l hl tr K := rfl
theorem gX_ff (op : AOp) (dst : Option Nat) (bef : Nat) (cs : List COp) (l : List (Nat × AV)) (hl : List Blk) (tr : Tr) : gX P (.bool false) false op dst bef cs l hl tr K = RX P (⟨op, dst, none, bef⟩ :: cs) l hl tr K := rfl
theorem gX_tf (op : AOp) (dst : Option Nat) (bef : Nat) (cs : List COp) (l : List (Nat × AV)) (hl : List Blk) (tr : Tr) : gX P (.bool true) false op dst bef cs l hl tr K = RX P cs (consO l dst (.tup [])) hl (([], [], bef) :: tr) K := rfl
theorem gX_ft (op : AOp) (dst : Option Nat) (bef : Nat) (cs : List COp) (l : List (Nat × AV)) (hl : List Blk) (tr : Tr) : gX P (.bool false) true op dst bef cs l hl tr K = RX P cs (consO l dst (.tup [])) hl (([], [], bef) :: tr) K := rfl
theorem gX_no {w : Bool} (op : AOp) (dst : Option Nat) (bef : Nat) (cs : List COp) (l : List (Nat × AV)) (hl : List Blk) (tr : Tr) :
    gX P (.tup []) w op dst bef cs l hl tr K = RX P cs (consO l dst (.tup [])) hl (([], [], bef) :: tr) K := rfl

variable (dst : Option Nat) (bef : Nat) (cs : List COp) (l : List (Nat × AV)) (hl : List Blk) (tr : Tr)
theorem X_one (op : AOp) (h : isCall op = false) : RX P (⟨op, dst, none, bef⟩ :: cs) l hl tr K = afterX P cs op dst bef l hl tr K (aopA op l hl) := by
  cases op <;> first | (cases h; done) | skip
  all_goals
    rw [RX_eq]
    simp only [RunX, wantedA]
    unfold afterX
    simp only [RX_eq]
    try rfl
theorem X_mv (x : Opd) : RX P (⟨.mv x, dst, none, bef⟩ :: cs) l hl tr K = afterX P cs (.mv x) dst bef l hl tr K (aopA (.mv x) l hl) := X_one dst bef cs l hl tr _ rfl
theorem X_smv (x : Opd) : RX P (⟨.smv x, dst, none, bef⟩ :: cs) l hl tr K = afterX P cs (.smv x) dst bef l hl tr K (aopA (.smv x) l hl) := X_one dst bef cs l hl tr _ rfl
theorem X_newnil (sz : Nat) : RX P (⟨.newnil sz, dst, none, bef⟩ :: cs) l hl tr K = afterX P cs (.newnil sz) dst bef l hl tr K (aopA (.newnil sz) l hl) := X_one dst bef cs l hl tr _ rfl
theorem X_pick (c : Opd) (a : Opd) (b : Opd) : RX P (⟨.pick c a b, dst, none, bef⟩ :: cs) l hl tr K = afterX P cs (.pick c a b) dst bef l hl tr K (aopA (.pick c a b) l hl) := X_one dst bef cs l hl tr _ rfl
theorem X_alloc (z : AV) : RX P (⟨.alloc z, dst, none, bef⟩ :: cs) l hl tr K = afterX P cs (.alloc z) dst bef l hl tr K (aopA (.alloc z) l hl) := X_one dst bef cs l hl tr _ rfl
theorem X_box (x : Opd) : RX P (⟨.box x, dst, none, bef⟩ :: cs) l hl tr K = afterX P cs (.box x) dst bef l hl tr K (aopA (.box x) l hl) := X_one dst bef cs l hl tr _ rfl
theorem X_build (z : List AV) (ps : List (Nat × Nat × Opd)) : RX P (⟨.build z ps, dst, none, bef⟩ :: cs) l hl tr K = afterX P cs (.build z ps) dst bef l hl tr K (aopA (.build z ps) l hl) := X_one dst bef cs l hl tr _ rfl
theorem X_bsl (sz : Nat) (xs : List Opd) : RX P (⟨.bsl sz xs, dst, none, bef⟩ :: cs) l hl tr K = afterX P cs (.bsl sz xs) dst bef l hl tr K (aopA (.bsl sz xs) l hl) := X_one dst bef cs l hl tr _ rfl
theorem X_load (agg : Bool) (sz : Nat) (x : Opd) : RX P (⟨.load agg sz x, dst, none, bef⟩ :: cs) l hl tr K = afterX P cs (.load agg sz x) dst bef l hl tr K (aopA (.load agg sz x) l hl) := X_one dst bef cs l hl tr _ rfl
theorem X_store (sz : Nat) (x : Opd) (v : Opd) : RX P (⟨.store sz x v, dst, none, bef⟩ :: cs) l hl tr K = afterX P cs (.store sz x v) dst bef l hl tr K (aopA (.store sz x v) l hl) := X_one dst bef cs l hl tr _ rfl
theorem X_nchk (x : Opd) : RX P (⟨.nchk x, dst, none, bef⟩ :: cs) l hl tr K = afterX P cs (.nchk x) dst bef l hl tr K (aopA (.nchk x) l hl) := X_one dst bef cs l hl tr _ rfl
theorem X_bin (o : BinOp) (x : Opd) (y : Opd) : RX P (⟨.bin o x y, dst, none, bef⟩ :: cs) l hl tr K = afterX P cs (.bin o x y) dst bef l hl tr K (aopA (.bin o x y) l hl) := X_one dst bef cs l hl tr _ rfl
theorem X_eqv (neg : Bool) (agg : Bool) (ks : List SK) (x : Opd) (y : Opd) : RX P (⟨.eqv neg agg ks x y, dst, none, bef⟩ :: cs) l hl tr K = afterX P cs (.eqv neg agg ks x y) dst bef l hl tr K (aopA (.eqv neg agg ks x y) l hl) := X_one dst bef cs l hl tr _ rfl
theorem X_neg (x : Opd) : RX P (⟨.neg x, dst, none, bef⟩ :: cs) l hl tr K = afterX P cs (.neg x) dst bef l hl tr K (aopA (.neg x) l hl) := X_one dst bef cs l hl tr _ rfl
theorem X_not (x : Opd) : RX P (⟨.not x, dst, none, bef⟩ :: cs) l hl tr K = afterX P cs (.not x) dst bef l hl tr K (aopA (.not x) l hl) := X_one dst bef cs l hl tr _ rfl
theorem X_conv (k : IntKind) (x : Opd) : RX P (⟨.conv k x, dst, none, bef⟩ :: cs) l hl tr K = afterX P cs (.conv k x) dst bef l hl tr K (aopA (.conv k x) l hl) := X_one dst bef cs l hl tr _ rfl
theorem X_ext (x : Opd) (i : Nat) : RX P (⟨.ext x i, dst, none, bef⟩ :: cs) l hl tr K = afterX P cs (.ext x i) dst bef l hl tr K (aopA (.ext x i) l hl) := X_one dst bef cs l hl tr _ rfl
theorem X_faddr (x : Opd) (off : Nat) : RX P (⟨.faddr x off, dst, none, bef⟩ :: cs) l hl tr K = afterX P cs (.faddr x off) dst bef l hl tr K (aopA (.faddr x off) l hl) := X_one dst bef cs l hl tr _ rfl
theorem X_fld (x : Opd) (off : Nat) (agg : Bool) (sz : Nat) : RX P (⟨.fld x off agg sz, dst, none, bef⟩ :: cs) l hl tr K = afterX P cs (.fld x off agg sz) dst bef l hl tr K (aopA (.fld x off agg sz) l hl) := X_one dst bef cs l hl tr _ rfl
theorem X_iaddr (sz : Nat) (x : Opd) (i : Opd) : RX P (⟨.iaddr sz x i, dst, none, bef⟩ :: cs) l hl tr K = afterX P cs (.iaddr sz x i) dst bef l hl tr K (aopA (.iaddr sz x i) l hl) := X_one dst bef cs l hl tr _ rfl
theorem X_iaddrA (n : Nat) (sz : Nat) (x : Opd) (i : Opd) : RX P (⟨.iaddrA n sz x i, dst, none, bef⟩ :: cs) l hl tr K = afterX P cs (.iaddrA n sz x i) dst bef l hl tr K (aopA (.iaddrA n sz x i) l hl) := X_one dst bef cs l hl tr _ rfl
theorem X_idxA (n : Nat) (sz : Nat) (agg : Bool) (x : Opd) (i : Opd) : RX P (⟨.idxA n sz agg x i, dst, none, bef⟩ :: cs) l hl tr K = afterX P cs (.idxA n sz agg x i) dst bef l hl tr K (aopA (.idxA n sz agg x i) l hl) := X_one dst bef cs l hl tr _ rfl
theorem X_slc (sz : Nat) (x : Opd) (lo : Option Opd) (hi : Option Opd) : RX P (⟨.slc sz x lo hi, dst, none, bef⟩ :: cs) l hl tr K = afterX P cs (.slc sz x lo hi) dst bef l hl tr K (aopA (.slc sz x lo hi) l hl) := X_one dst bef cs l hl tr _ rfl
theorem X_mks (sz : Nat) (b : Nat) (z : AV) (n : Opd) : RX P (⟨.mks sz b z n, dst, none, bef⟩ :: cs) l hl tr K = afterX P cs (.mks sz b z n) dst bef l hl tr K (aopA (.mks sz b z n) l hl) := X_one dst bef cs l hl tr _ rfl
theorem X_mkf (f : FuncId) (caps : List Opd) : RX P (⟨.mkf f caps, dst, none, bef⟩ :: cs) l hl tr K = afterX P cs (.mkf f caps) dst bef l hl tr K (aopA (.mkf f caps) l hl) := X_one dst bef cs l hl tr _ rfl
theorem X_len (x : Opd) : RX P (⟨.len x, dst, none, bef⟩ :: cs) l hl tr K = afterX P cs (.len x) dst bef l hl tr K (aopA (.len x) l hl) := X_one dst bef cs l hl tr _ rfl
theorem X_lenS (x : Opd) : RX P (⟨.lenS x, dst, none, bef⟩ :: cs) l hl tr K = afterX P cs (.lenS x) dst bef l hl tr K (aopA (.lenS x) l hl) := X_one dst bef cs l hl tr _ rfl
theorem X_lenC (n : Nat) : RX P (⟨.lenC n, dst, none, bef⟩ :: cs) l hl tr K = afterX P cs (.lenC n) dst bef l hl tr K (aopA (.lenC n) l hl) := X_one dst bef cs l hl tr _ rfl
theorem X_append (sz : Nat) (b : Nat) (x : Opd) (y : Opd) : RX P (⟨.append sz b x y, dst, none, bef⟩ :: cs) l hl tr K = afterX P cs (.append sz b x y) dst bef l hl tr K (aopA (.append sz b x y) l hl) := X_one dst bef cs l hl tr _ rfl
theorem X_idxS (x i : Opd) : RX P (⟨.idxS x i, dst, none, bef⟩ :: cs) l hl tr K = afterX P cs (.idxS x i) dst bef l hl tr K (aopA (.idxS x i) l hl) := X_one dst bef cs l hl tr _ rfl
theorem X_slcM (sz : Nat) (x hi mx : Opd) : RX P (⟨.slcM sz x hi mx, dst, none, bef⟩ :: cs) l hl tr K = afterX P cs (.slcM sz x hi mx) dst bef l hl tr K (aopA (.slcM sz x hi mx) l hl) := X_one dst bef cs l hl tr _ rfl
theorem X_clear (sz : Nat) (z : AV) (x : Opd) : RX P (⟨.clear sz z x, dst, none, bef⟩ :: cs) l hl tr K = afterX P cs (.clear sz z x) dst bef l hl tr K (aopA (.clear sz z x) l hl) := X_one dst bef cs l hl tr _ rfl
theorem X_mx (xs : List Opd) : RX P (⟨.mx xs, dst, none, bef⟩ :: cs) l hl tr K = afterX P cs (.mx xs) dst bef l hl tr K (aopA (.mx xs) l hl) := X_one dst bef cs l hl tr _ rfl
theorem X_mn (xs : List Opd) : RX P (⟨.mn xs, dst, none, bef⟩ :: cs) l hl tr K = afterX P cs (.mn xs) dst bef l hl tr K (aopA (.mn xs) l hl) := X_one dst bef cs l hl tr _ rfl

section
variable {P : Program} {m0 : Nat} {tp : Bool} {K : Exit → St → Prop}
theorem CWx.r {draw : Bool} {ops : List COp} {y : CCode} {l : List (Nat × AV)} {hl : List Blk} (h : ∀ K' : KX, (∀ l hl tr, (draw = true → blkOk 0 tr = true) → CWx P m0 tp y l hl K → K' l hl tr) → RX P ops l hl [] K') : CWx P m0 tp (.seq (.region draw ops) y) l hl K :=
  CWx.rI fun K' hK' => RunX.sound _ _ _ _ (h K' hK').run
theorem CWx.e {draw : Bool} {ops : List COp} {l : List (Nat × AV)} {hl : List Blk} (h : ∀ K' : KX, (∀ l hl tr, (draw = true → blkOk 0 tr = true) → (∀ al, get al = get l → K .normal ⟨al, hl⟩) → K' l hl tr) → RX P ops l hl [] K') : CWx P m0 tp (.region draw ops) l hl K :=
  CWx.rE fun K' hK' => RunX.sound _ _ _ _ (h K' hK').run
end
end Go.Am
end

section
set_option linter.defProp false
namespace Go.Am
open Go

def amC := And.intro @aopA_mv (And.intro @aopA_smv (And.intro @aopA_newnil (And.intro @aopA_pick (And.intro @aopA_alloc (And.intro @aopA_box (And.intro @aopA_build (And.intro @aopA_bsl (And.intro @aopA_load (And.intro @aopA_store (And.intro @aopA_nchk (And.intro @aopA_bin (And.intro @aopA_eqv (And.intro @aopA_neg (And.intro @aopA_not (And.intro @aopA_conv (And.intro @aopA_ext (And.intro @aopA_faddr (And.intro @aopA_fld (And.intro @aopA_iaddr (And.intro @aopA_iaddrA (And.intro @aopA_idxA (And.intro @aopA_slc (And.intro @aopA_mks (And.intro @aopA_mkf (And.intro @aopA_len (And.intro @aopA_lenS (And.intro @aopA_lenC (And.intro @aopA_append (And.intro @aopA_mx (And.intro @aopA_mn (And.intro @evA_t (And.intro @evA_c (And.intro @List.length_cons.{0} (And.intro @List.length_nil.{0} (And.intro @List.nil_append.{0} (And.intro @List.cons_append.{0} (And.intro @List.append_nil.{0} (And.intro @List.reverse_cons.{0} (And.intro @List.reverse_nil.{0} (And.intro @List.getElem?_cons_zero.{0} (And.intro @List.getElem?_cons_succ.{0} (And.intro @List.getElem?_nil.{0} (And.intro @Nat.zero_add (And.intro @Nat.add_zero (And.intro @Bool.and_true (And.intro @Nat.lt_irrefl (And.intro @and_self (And.intro @Nat.le_refl (And.intro @true_and (And.intro @and_true (And.intro @Nat.zero_le (And.intro @Nat.lt_add_one (And.intro @aopA_idxS (And.intro @aopA_slcM (And.intro @aopA_clear (And.intro @ge_iff_le.{0} (And.intro @gt_iff_lt.{0} (And.intro @decide_true (And.intro @decide_false (And.intro @Bool.not_true (And.intro @Bool.not_false (And.intro @Bool.true_eq_false (@Bool.false_eq_true)))))))))))))))))))))))))))))))))))))))))))))))))))))))))))))))
def amR := And.intro @RunOps_nil (And.intro @R_mv (And.intro @R_smv (And.intro @R_newnil (And.intro @R_pick (And.intro @R_alloc (And.intro @R_box (And.intro @R_build (And.intro @R_bsl (And.intro @R_load (And.intro @R_store (And.intro @R_nchk (And.intro @R_bin (And.intro @R_eqv (And.intro @R_neg (And.intro @R_not (And.intro @R_conv (And.intro @R_ext (And.intro @R_faddr (And.intro @R_fld (And.intro @R_iaddr (And.intro @R_iaddrA (And.intro @R_idxA (And.intro @R_slc (And.intro @R_mks (And.intro @R_mkf (And.intro @R_len (And.intro @R_lenS (And.intro @R_lenC (And.intro @R_append (And.intro @R_mx (And.intro @R_mn (And.intro @after_some (And.intro @RO_guard (And.intro @ROg_yes (And.intro @ROg_no (And.intro @R_idxS (And.intro @R_slcM (And.intro @R_clear (@RunOps_call)))))))))))))))))))))))))))))))))))))))
def amX := And.intro @X_end (And.intro @X_mv (And.intro @X_smv (And.intro @X_newnil (And.intro @X_pick (And.intro @X_alloc (And.intro @X_box (And.intro @X_build (And.intro @X_bsl (And.intro @X_load (And.intro @X_store (And.intro @X_nchk (And.intro @X_bin (And.intro @X_eqv (And.intro @X_neg (And.intro @X_not (And.intro @X_conv (And.intro @X_ext (And.intro @X_faddr (And.intro @X_fld (And.intro @X_iaddr (And.intro @X_iaddrA (And.intro @X_idxA (And.intro @X_slc (And.intro @X_mks (And.intro @X_mkf (And.intro @X_len (And.intro @X_lenS (And.intro @X_lenC (And.intro @X_append (And.intro @X_mx (And.intro @X_mn (And.intro @afterX_some (And.intro @X_g (And.intro @gX_tt (And.intro @gX_ff (And.intro @gX_tf (And.intro @gX_ft (And.intro @gX_no (And.intro @X_idxS (And.intro @X_slcM (And.intro @X_clear (@X_cl))))))))))))))))))))))))))))))))))))))))))
end Go.Am
end
