/- More rules for going through: guards, loops, calls that look at own rows.
   Conditions: none. -/
import Derived.Test.YtkbpkbjfphdgeaaAm11
section
set_option linter.unusedSimpArgs false
set_option linter.unusedVariables false
namespace Go.Am
open Go Go.RowKit

variable {P : Program} {K : St → List (List Nat × List Nat × Nat) → Prop}

/-- An operation with a guard. -/
def ROg (P : Program) (v : AV) (w : Bool) (op : AOp) (dst : Option Nat) (bef : Nat) (cs : List COp) (al : List (Nat × AV)) (hl : List Blk) (tr : List (List Nat × List Nat × Nat)) (K : St → List (List Nat × List Nat × Nat) → Prop) : Prop :=
  match v with
  | .bool b => if b = w then RO P (⟨op, dst, none, bef⟩ :: cs) al hl tr K else RO P cs (setO al dst (.tup [])) hl (([], [], bef) :: tr) K
  | .tup [] => RO P cs (setO al dst (.tup [])) hl (([], [], bef) :: tr) K
  | _ => False

theorem RO_guard (op : AOp) (dst : Option Nat) (d : Nat) (w : Bool) (bef : Nat) (cs : List COp) (al : List (Nat × AV)) (hl : List Blk) (tr : List (List Nat × List Nat × Nat)) :
    RO P (⟨op, dst, some (d, w), bef⟩ :: cs) al hl tr K = ROg P (get al d) w op dst bef cs al hl tr K := by
  unfold ROg
  simp only [RO_eq]
  simp only [RunOps, wantedAV]
  generalize get al d = v
  cases v <;> try rfl
  · rename_i b
    cases b <;> cases w <;> rfl
  · rename_i vs
    cases vs <;> rfl

theorem ROg_yes {w : Bool} (b : Bool) (op : AOp) (dst : Option Nat) (bef : Nat) (cs : List COp) (al : List (Nat × AV)) (hl : List Blk) (tr : List (List Nat × List Nat × Nat)) :
    ROg P (.bool b) w op dst bef cs al hl tr K = if b = w then RO P (⟨op, dst, none, bef⟩ :: cs) al hl tr K else RO P cs (setO al dst (.tup [])) hl (([], [], bef) :: tr) K := rfl
theorem ROg_no {w : Bool} (op : AOp) (dst : Option Nat) (bef : Nat) (cs : List COp) (al : List (Nat × AV)) (hl : List Blk) (tr : List (List Nat × List Nat × Nat)) :
    ROg P (.tup []) w op dst bef cs al hl tr K = RO P cs (setO al dst (.tup [])) hl (([], [], bef) :: tr) K := rfl

/-- What is kept at a loop's head. -/
structure Fgt (m0 : Nat) (s t : St) : Prop where
  ex : ∃ m, m0 ≤ m ∧ (∀ p ∈ t.al, get s.al p.1 = p.2 ∧ (p.2.lt m || p.2.isY) = true) ∧ t.hl = s.hl.take m ∧ ∀ b ∈ t.hl, b.lt m = true

def keepB (s : List (Nat × AV)) (m : Nat) : List (Nat × AV) → Prop
  | [] => True
  | p :: ps => (get s p.1 = p.2 ∧ (p.2.lt m || p.2.isY) = true) ∧ keepB s m ps
theorem keepB_mem {s : List (Nat × AV)} {m : Nat} : ∀ {l : List (Nat × AV)}, keepB s m l → ∀ p ∈ l, get s p.1 = p.2 ∧ (p.2.lt m || p.2.isY) = true := by
  intro l
  induction l with
  | nil => intro _ p hp; cases hp
  | cons a l ih =>
    intro h p hp
    rcases List.mem_cons.1 hp with rfl | hp
    · exact h.1
    · exact ih h.2 p hp
def ltB (m : Nat) : List Blk → Prop
  | [] => True
  | b :: bs => b.lt m = true ∧ ltB m bs
theorem ltB_mem {m : Nat} : ∀ {l : List Blk}, ltB m l → ∀ b ∈ l, b.lt m = true := by
  intro l
  induction l with
  | nil => intro _ p hp; cases hp
  | cons a l ih =>
    intro h p hp
    rcases List.mem_cons.1 hp with rfl | hp
    · exact h.1
    · exact ih h.2 p hp
theorem Fgt.mk' {m0 : Nat} {sal tal : List (Nat × AV)} {shl thl : List Blk} (m : Nat) (h0 : m0 ≤ m) (h1 : keepB sal m tal) (h2 : thl = shl.take m) (h3 : ltB m thl) : Fgt m0 ⟨sal, shl⟩ ⟨tal, thl⟩ := ⟨m, h0, keepB_mem h1, h2, ltB_mem h3⟩

/-- A loop: each state at its head is one of a family; a measure falls. -/
theorem CW.loopF {ι : Type} {m0 : Nat} {tp : Bool} {c : CCode} {K : Exit → St → Prop} (μ : ι → Nat) (st : ι → St) (Q : ι → Prop)
    (h : ∀ i, Q i → CW P m0 tp c (st i) (thenK K fun s' => ∃ j, μ j < μ i ∧ Q j ∧ Fgt m0 s' (st j))) (i0 : ι) (hq : Q i0) (s : St) (hs : Fgt m0 s (st i0)) : CW P m0 tp (.loop c) s K := by
  refine ⟨fun X hX => ?_⟩
  have hstep : ∀ i, Q i → (∀ j, μ j < μ i → Q j → ∀ s, Fgt m0 s (st j) → X s) → ∀ s, Fgt m0 s (st i) → X s := by
    intro i hq ih s hs
    obtain ⟨m, h0, h1, h2, h3⟩ := hs.ex
    refine hX s (.inl ⟨m, (st i).al, ⟨h0, h1, by rw [← h2]; exact h3⟩, ?_⟩)
    rw [← h2]
    have hn : ∀ s', (∃ j, μ j < μ i ∧ Q j ∧ Fgt m0 s' (st j)) → X s' := by
      intro s' hh
      obtain ⟨j, hj, hqj, hf⟩ := hh
      exact ih j hj hqj s' hf
    have hw := (h i hq).run
    refine CWp.mono c m0 tp (st i) ?_ hw
    intro e s' he
    cases e <;> first | exact hn s' he | exact he
  have key : ∀ n i, μ i < n → Q i → ∀ s, Fgt m0 s (st i) → X s := by
    intro n
    induction n with
    | zero => intro i hi; omega
    | succ n ih => intro i hi hq s hs; exact hstep i hq (fun j hj hqj => ih j (by omega) hqj) s hs
  exact key (μ i0 + 1) i0 (Nat.lt_succ_self _) hq s hs

/-- A call of a function that is told on a heap of its own; own rows may be looked at. -/
theorem RunCall.view {f : Opd} {xs : List Opd} {dst : Option Nat} {bef : Nat} {al : List (Nat × AV)} {hl : List Blk} {tr : List (List Nat × List Nat × Nat)} {next : List (Nat × AV) → List Blk → List (List Nat × List Nat × Nat) → Prop}
    {fid : FuncId} {caps : List AV} (hf : f.ev (get al) = .clo fid caps) {X args : List AV} (hX : xs.map (·.ev (get al)) ++ caps = X) {T0 : List Nat} (hv : viewArgs hl X = some (args, T0)) {r : AV} (hC : CallsF P fid args [] r []) (hr : flatN false 5 r = true)
    (h : next (setO al dst r) hl ((T0, [], bef) :: tr)) : RunCall P f xs dst bef al hl tr next := by
  obtain ⟨f1, f2, f3⟩ := flatN_spec 5 _ hr
  obtain ⟨h1, h2⟩ := viewArgs_spec _ _ _ hv
  refine ⟨fid, caps, T0, r, [], hf, ?_, rfl, h⟩
  have := CallsF.frame true hC (h := hget hl) (T := T0) (names := []) (n := hl.length) ⟨rfl, Nat.le_refl _, List.nodup_nil, fun x hx => (by cases hx), fun i x hx => (by simp at hx), fun b hb1 hb2 => (by simp at hb2; omega), fun b hb => (by cases hb)⟩ (fun x hx => (by cases hx))
    (fun b hb1 hb2 => (by simp at hb2; omega)) h1 (fun i Y y hY hy => h2 i Y y hY hy _ (fun b hb => hb)) (fun _ => ⟨f3 rfl, fun b hb => (by cases hb)⟩)
  rw [ren_id _ f1] at this
  rw [hX]
  exact this

/-- The same of one that hands back a new row. -/
theorem RunCall.viewR {f : Opd} {xs : List Opd} {dst : Option Nat} {bef : Nat} {al : List (Nat × AV)} {hl : List Blk} {tr : List (List Nat × List Nat × Nat)} {next : List (Nat × AV) → List Blk → List (List Nat × List Nat × Nat) → Prop}
    {fid : FuncId} {caps : List AV} (hf : f.ev (get al) = .clo fid caps) {X args : List AV} (hX : xs.map (·.ev (get al)) ++ caps = X) {T0 : List Nat} (hv : viewArgs hl X = some (args, T0)) {r : AV} {b : Blk} (hC : CallsF P fid args [] r [b]) (hr : (r.clean && b.clean) = true)
    (h : next (setO al dst (r.ren (fun b => hl.length + b))) (hsetL hl [(hl.length, b.ren (fun b => hl.length + b))]) ((T0 ++ [hl.length], [hl.length], bef) :: tr)) : RunCall P f xs dst bef al hl tr next := by
  obtain ⟨h1, h2⟩ := viewArgs_spec _ _ _ hv
  have hs : sigma [] hl.length = fun b => hl.length + b := by funext b; simp [sigma]
  refine ⟨fid, caps, T0 ++ [hl.length], r.ren (fun b => hl.length + b), [(hl.length, b.ren (fun b => hl.length + b))], hf, ?_, ?_, h⟩
  · simp only [Bool.and_eq_true] at hr
    have := CallsF.frame true hC (h := hget hl) (T := T0 ++ [hl.length]) (names := []) (n := hl.length) ⟨rfl, Nat.zero_le _, List.nodup_nil, fun x hx => (by cases hx), fun i x hx => (by simp at hx), fun b hb _ => hget_dead _ _ hb, fun b hb => (by cases hb)⟩ (fun x hx => (by cases hx))
      (fun b hb1 hb2 => (by simp at hb2 ⊢; right; omega)) h1 (fun i Y y hY hy => h2 i Y y hY hy _ (fun b hb => List.mem_append_left _ hb)) (fun _ => ⟨hr.1, fun b' hb => (by rw [List.mem_singleton.1 hb]; exact hr.2)⟩)
    rw [hs] at this
    rw [hX]
    exact this
  · simp [okW]

theorem viewG_flat {hl : List Blk} {x : AV} (h : flatN true 5 x = true) (n : Nat) : viewG hl (n + 1) x = some (x, []) := by
  simp only [viewG, h]
theorem viewArgs_flat1 {hl : List Blk} {x : AV} (h : flatN true 5 x = true) : viewArgs hl [x] = some ([x], []) := by
  simp only [viewArgs, viewG_flat h, List.append_nil]
theorem viewArgs_flat2 {hl : List Blk} {x y : AV} (h : flatN true 5 x = true) (h' : flatN true 5 y = true) : viewArgs hl [x, y] = some ([x, y], []) := by
  simp only [viewArgs, viewG_flat h, viewG_flat h', List.append_nil]
theorem viewArgs_flat3 {hl : List Blk} {x y z : AV} (h : flatN true 5 x = true) (h' : flatN true 5 y = true) (h'' : flatN true 5 z = true) : viewArgs hl [x, y, z] = some ([x, y, z], []) := by
  simp only [viewArgs, viewG_flat h, viewG_flat h', viewG_flat h'', List.append_nil]

end Go.Am
end

section
set_option linter.unusedSimpArgs false
set_option linter.unusedVariables false
namespace Go.Am
open Go Go.RowKit

theorem allR_mono {p p' : Nat → Nat → Bool} (h : ∀ b g, p b g = true → p' b g = true) (x : AV) : x.allR p true = true → x.allR p' true = true := by
  refine AV.rec (motive_1 := fun x => x.allR p true = true → x.allR p' true = true) (motive_2 := fun l => allRL p true l = true → allRL p' true l = true) ?_ ?_ ?_ ?_ ?_ ?_ ?_ ?_ ?_ ?_ ?_ ?_ ?_ ?_ ?_ ?_ ?_ ?_ x
  all_goals first
    | (intros; rfl)
    | (intro cs ih hx; exact ih hx)
    | (intro a b cs ih hx; simp only [AV.allR, Bool.true_and] at hx ⊢; exact ih hx)
    | (intro a cs ih hx; simp only [AV.allR, Bool.true_and] at hx ⊢; exact ih hx)
    | (intro b g i n hx; exact h b g hx)
    | (intro hx; simp [AV.allR] at hx)
    | (intro x xs ih1 ih2 hx; simp only [allRL, Bool.and_eq_true] at hx ⊢; exact ⟨ih1 hx.1, ih2 hx.2⟩)

def noR : Nat → Nat → Bool := fun _ _ => false
theorem noR_mono {p : Nat → Nat → Bool} {x : AV} (h : x.allR noR true = true) : x.allR p true = true := allR_mono (fun b g h => by cases h) x h
theorem noRL_mono {p : Nat → Nat → Bool} : ∀ {l : List AV}, allRL noR true l = true → allRL p true l = true := by
  intro l
  induction l with
  | nil => intro _; rfl
  | cons x l ih => intro h; simp only [allRL, Bool.and_eq_true] at h ⊢; exact ⟨noR_mono h.1, ih h.2⟩
theorem noRB_mono {p : Nat → Nat → Bool} {b : Blk} (h : b.allR noR true = true) : b.allR p true = true := by
  cases b with
  | dead => rfl
  | row nil g frz sz xs => exact noRL_mono h
theorem mapRB_id {σ : Nat → Nat → Nat × Nat} {b : Blk} (h : b.allR noR true = true) : b.mapR σ = b := by
  cases b with
  | dead => rfl
  | row nil g frz sz xs => simp only [Blk.mapR]; rw [mapRL_id (q := true) xs h]

/-- Rows of the caller's that were changed; nothing else is handed back. -/
theorem finK_keep {rvs : List RV} {m0 : Nat} {r : AV} {hl' : List Blk} {e : Exit} {s : St} {xs : List AV} (he : e = .normal ∨ e = .ret) (hr : resRV s.al s.hl rvs = some xs) (ht : tupAV xs = r) (hr0 : r.allR noR true = true)
    (hm : m0 ≤ s.hl.length) (hl : s.hl.take m0 = hl') (hf : ∀ b ∈ hl', b.allR noR true = true) : finK rvs m0 r hl' e s := by
  subst ht hl
  refine ⟨he, xs, [], hr, ⟨hm, fun q hq => (by cases hq), List.nodup_nil, fun b hb => noRB_mono (hf b hb), fun q hq => (by cases hq), noR_mono hr0⟩, mapR_id (q := true) _ hr0, ?_⟩
  simp only [exHl, List.map_nil, List.append_nil]
  conv => rhs; rw [← List.map_id (s.hl.take m0)]
  exact List.map_congr_left fun b hb => mapRB_id (hf b hb)

/-- A new row is handed back. -/
theorem finK_new {rvs : List RV} {r : AV} {e : Exit} {s : St} {xs ys : List AV} {b g sz : Nat} {nil frz : Bool} (he : e = .normal ∨ e = .ret) (hr : resRV s.al s.hl rvs = some xs) (hb : hget s.hl b = .row nil g frz sz ys) (hys : allRL noR true ys = true)
    (hx : (tupAV xs).allR (sigP 0 [(b, g)]) true = true) (hrx : (tupAV xs).mapR (sigF 0 [(b, g)]) = r) : finK rvs 0 r [.row nil 0 frz sz ys] e s := by
  refine ⟨he, xs, [(b, g)], hr, ⟨Nat.zero_le _, fun q hq => ?_, ?_, fun b hb => (by simp at hb), fun q hq => ?_, hx⟩, hrx, ?_⟩
  · rw [List.mem_singleton.1 hq]; exact ⟨Nat.zero_le _, by simp only [hb, rowGen]⟩
  · simp
  · rw [List.mem_singleton.1 hq]; simp only [hb]; exact noRB_mono (b := .row nil g frz sz ys) hys
  · simp only [exHl, List.take_zero, List.map_nil, List.nil_append, List.map_cons, hb]
    rw [mapRB_id (b := .row nil g frz sz ys) hys]
    rfl

/-- What a value is handed over as, the row b being handed over as row 0. -/
inductive ArgB (hl : List Blk) (b : Nat) : List Nat → AV → AV → Prop where
  | row (g i n : Nat) : ArgB hl b [] (.sl b g i n) (.sl 0 g i n)
  | flat {x : AV} (h : flatN true 5 x = true) : ArgB hl b [] x x
  | view {x y : AV} {T0 : List Nat} (h : viewG hl 6 x = some (y, T0)) (hT : natIn b T0 = false) : ArgB hl b T0 x y

theorem ArgB.view' {hl : List Blk} {b : Nat} {T0 : List Nat} {x y : AV} (h : ArgB hl b T0 x y) {T : List Nat} (hT : ∀ b' ∈ T0, b' ∈ T) : ArgView true (hget hl) T [b] x y := by
  cases h with
  | row g i n =>
    have := ArgView.same (vw := true) (h := hget hl) (T := T) (names := [b]) (n := 0) (x := .sl 0 g i n) (by simp [AV.lt])
    simpa [AV.ren, sigma] using this
  | flat h => exact .plain (flatN_spec 5 _ h).1
  | view h hb => exact (viewG_sound 6 _ _ _ h T [b] hT (fun b' hb' hmem => by
      rw [List.mem_singleton.1 hmem] at hb'
      rw [natIn_iff.2 hb'] at hb; cases hb)).1

inductive ArgsB (hl : List Blk) (b : Nat) : List Nat → List AV → List AV → Prop where
  | nil : ArgsB hl b [] [] []
  | cons {T T' : List Nat} {x y : AV} {xs ys : List AV} (h : ArgB hl b T x y) (hs : ArgsB hl b T' xs ys) : ArgsB hl b (T ++ T') (x :: xs) (y :: ys)

theorem ArgsB.spec {hl : List Blk} {b : Nat} {T0 : List Nat} {X args : List AV} (h : ArgsB hl b T0 X args) : X.length = args.length ∧ ∀ (i : Nat) (Y y : AV), X[i]? = some Y → args[i]? = some y → ∀ {T : List Nat}, (∀ b' ∈ T0, b' ∈ T) → ArgView true (hget hl) T [b] Y y := by
  induction h with
  | nil => exact ⟨rfl, fun i Y y h => by simp at h⟩
  | cons h hs ih =>
    refine ⟨by simp [ih.1], fun i Y y hY hy T hT => ?_⟩
    cases i with
    | zero =>
      simp only [List.getElem?_cons_zero, Option.some.injEq] at hY hy
      subst hY hy
      exact h.view' fun b' hb' => hT b' (by simp [hb'])
    | succ i => exact ih.2 i Y y (by simpa using hY) (by simpa using hy) fun b' hb' => hT b' (by simp [hb'])

theorem ltB_zero {b : Blk} (h : b.lt 0 = true) (σ : Nat → Nat) : b.ren σ = b := by
  cases b with
  | dead => rfl
  | row nil g frz sz xs => simp only [Blk.ren]; rw [renL_id xs h]

theorem blt_mono {m m' : Nat} (hm : m ≤ m') {b : Blk} (h : b.lt m = true) : b.lt m' = true := by
  cases b with
  | dead => rfl
  | row nil g frz sz xs => exact ltL_mono hm xs h

/-- A call that may change one row of the caller's. -/
theorem RunCall.one {P : Program} {f : Opd} {xs : List Opd} {dst : Option Nat} {bef : Nat} {al : List (Nat × AV)} {hl : List Blk} {tr : List (List Nat × List Nat × Nat)} {next : List (Nat × AV) → List Blk → List (List Nat × List Nat × Nat) → Prop}
    {fid : FuncId} {caps : List AV} (hf : f.ev (get al) = .clo fid caps) {X args : List AV} (hX : xs.map (·.ev (get al)) ++ caps = X) {b : Nat} {T0 : List Nat} (hv : ArgsB hl b T0 X args) {blk blk' : Blk} {r : AV} (hC : CallsF P fid args [blk] r [blk']) (hb : b < hl.length) (hblk : hget hl b = blk) (hl0 : blk.lt 0 = true)
    (hr : flatN false 5 r = true) (hl1 : blk'.lt 0 = true) (hcl : blk'.clean = true) (h : next (setO al dst r) (hsetL hl [(b, blk')]) ((b :: T0, [b], bef) :: tr)) : RunCall P f xs dst bef al hl tr next := by
  obtain ⟨f1, f2, f3⟩ := flatN_spec 5 _ hr
  obtain ⟨h1, h2⟩ := hv.spec
  refine ⟨fid, caps, b :: T0, r, [(b, blk')], hf, ?_, ?_, h⟩
  · have := CallsF.frame true hC (h := hget hl) (T := b :: T0) (names := [b]) (n := hl.length) ⟨rfl, Nat.le_refl _, by simp, fun x hx => (by rw [List.mem_singleton.1 hx]; exact hb), fun i x hx => (by
        cases i with
        | zero => simp only [List.getElem?_cons_zero, Option.some.injEq] at hx; subst hx; rw [hblk]; exact (ltB_zero hl0 _).symm
        | succ i => simp at hx), fun b hb1 hb2 => (by simp at hb2; omega), fun b' hb' => (by rw [List.mem_singleton.1 hb']; exact blt_mono (Nat.zero_le _) hl0)⟩ (fun x hx => (by rw [List.mem_singleton.1 hx]; simp))
      (fun b hb1 hb2 => (by simp at hb2; omega)) h1 (fun i Y y hY hy => h2 i Y y hY hy (fun b' hb' => List.mem_cons_of_mem _ hb')) (fun _ => ⟨f3 rfl, fun b' hb' => (by rw [List.mem_singleton.1 hb']; exact hcl)⟩)
    rw [ren_id _ f1] at this
    simp only [frW, ltB_zero hl1] at this
    rw [hX]
    simpa [sigma] using this
  · simp [okW]; omega

/-- A closure over a variable in memory. -/
theorem viewG_clo {hl : List Blk} {b g sz : Nat} {nil frz : Bool} {f : FuncId} {y : AV} (hb : hget hl b = .row nil g frz sz [y]) (hy : flatN true 5 y = true) (hone : y.cells = [y]) : viewG hl 6 (.clo f [.ptr b g 0 0]) = some (.clo f [.rp true [y]], [b]) := by
  have h1 : viewG hl 4 y = some (y, []) := by simp only [viewG, hy]
  have h2 : viewG hl 5 (.ptr b g 0 0) = some (.rp true [y], [b]) := by
    unfold viewG
    simp only [flatN, AV.lt, Nat.not_lt_zero, decide_false, Bool.false_eq_true, if_false, hb, if_true, List.getElem?_cons_zero, hone, List.drop_zero, optL, h1, List.map_cons, List.map_nil, catT, List.append_nil]
  unfold viewG
  simp only [flatN, allB, AV.lt, ltL, Nat.not_lt_zero, decide_false, Bool.false_eq_true, Bool.false_and, if_false, optL, h2, List.map_cons, List.map_nil, catT, List.append_nil]

end Go.Am
end

section
set_option linter.unusedSimpArgs false
set_option linter.unusedVariables false
namespace Go.Am
open Go Go.RowKit

/-- What is handed back leads to rows of the caller's. -/
theorem finK_rows {rvs : List RV} {m0 : Nat} {r : AV} {hl' : List Blk} {e : Exit} {s : St} {xs : List AV} (he : e = .normal ∨ e = .ret) (hr : resRV s.al s.hl rvs = some xs) (ht : tupAV xs = r) (hr0 : r.allR (sigP m0 []) true = true) (hr1 : r.mapR (sigF m0 []) = r)
    (hm : m0 ≤ s.hl.length) (hl : s.hl.take m0 = hl') (hf : ∀ b ∈ hl', b.allR noR true = true) : finK rvs m0 r hl' e s := by
  subst ht hl
  refine ⟨he, xs, [], hr, ⟨hm, fun q hq => (by cases hq), List.nodup_nil, fun b hb => noRB_mono (hf b hb), fun q hq => (by cases hq), hr0⟩, hr1, ?_⟩
  simp only [exHl, List.map_nil, List.append_nil]
  conv => rhs; rw [← List.map_id (s.hl.take m0)]
  exact List.map_congr_left fun b hb => mapRB_id (hf b hb)

/-- A call that may change one row of the caller's and hands back a part of it. -/
theorem RunCall.oneR {P : Program} {f : Opd} {xs : List Opd} {dst : Option Nat} {bef : Nat} {al : List (Nat × AV)} {hl : List Blk} {tr : List (List Nat × List Nat × Nat)} {next : List (Nat × AV) → List Blk → List (List Nat × List Nat × Nat) → Prop}
    {fid : FuncId} {caps : List AV} (hf : f.ev (get al) = .clo fid caps) {X args : List AV} (hX : xs.map (·.ev (get al)) ++ caps = X) {b : Nat} {T0 : List Nat} (hv : ArgsB hl b T0 X args) {blk blk' : Blk} {r : AV} (hC : CallsF P fid args [blk] r [blk']) (hb : b < hl.length) (hblk : hget hl b = blk) (hl0 : blk.lt 0 = true)
    (hr : r.clean = true) (hl1 : blk'.lt 0 = true) (hcl : blk'.clean = true) {r' : AV} (hr' : r.ren (sigma [b] hl.length) = r') (h : next (setO al dst r') (hsetL hl [(b, blk')]) ((b :: T0, [b], bef) :: tr)) : RunCall P f xs dst bef al hl tr next := by
  obtain ⟨h1, h2⟩ := hv.spec
  subst hr'
  refine ⟨fid, caps, b :: T0, _, [(b, blk')], hf, ?_, ?_, h⟩
  · have := CallsF.frame true hC (h := hget hl) (T := b :: T0) (names := [b]) (n := hl.length) ⟨rfl, Nat.le_refl _, by simp, fun x hx => (by rw [List.mem_singleton.1 hx]; exact hb), fun i x hx => (by
        cases i with
        | zero => simp only [List.getElem?_cons_zero, Option.some.injEq] at hx; subst hx; rw [hblk]; exact (ltB_zero hl0 _).symm
        | succ i => simp at hx), fun b hb1 hb2 => (by simp at hb2; omega), fun b' hb' => (by rw [List.mem_singleton.1 hb']; exact blt_mono (Nat.zero_le _) hl0)⟩ (fun x hx => (by rw [List.mem_singleton.1 hx]; simp))
      (fun b hb1 hb2 => (by simp at hb2; omega)) h1 (fun i Y y hY hy => h2 i Y y hY hy (fun b' hb' => List.mem_cons_of_mem _ hb')) (fun _ => ⟨hr, fun b' hb' => (by rw [List.mem_singleton.1 hb']; exact hcl)⟩)
    simp only [frW, ltB_zero hl1] at this
    rw [hX]
    simpa [sigma] using this
  · simp [okW]; omega

end Go.Am
end
