/- One hull only: laws.
   Conditions: none. -/
import Derived.Test.YtkbpkbjfphdgeaaPart11
section
set_option linter.unusedVariables false
namespace Go.Hull

def dot (u v : Pt) : Int := u.1 * v.1 + u.2 * v.2
structure HullV (l : List Pt) (v : List Nat) : Prop where
  T : HullT l v
  nd : (v.map (P l)).Nodup
  fst : ∀ i ∈ v, ∀ k, k < i → P l k ≠ P l i
theorem P_mem {l : List Pt} {i : Nat} (h : i < l.length) : P l i ∈ l := by
  unfold P; rw [List.getD_eq_getElem?_getD, List.getElem?_eq_getElem h]; simp
theorem HullT.pmem {l : List Pt} {v : List Nat} (h : HullT l v) {i : Nat} (hi : i < v.length) : P l (v.getD i 0) ∈ l := P_mem (getD_lt h.mem hi)
theorem HullV.inj {l : List Pt} {v : List Nat} (h : HullV l v) {i k : Nat} (hi : i < v.length) (hk : k < v.length) (e : P l (v.getD i 0) = P l (v.getD k 0)) : i = k := by
  have hn := h.nd
  rw [List.nodup_iff_pairwise_ne, List.pairwise_iff_getElem] at hn
  have g : ∀ (i k : Nat) (hi : i < v.length) (hk : k < v.length), i < k → P l (v.getD i 0) ≠ P l (v.getD k 0) := fun i k hi hk hik => by
    have := hn i k (by simpa using hi) (by simpa using hk) hik
    simpa [List.getD_eq_getElem?_getD, List.getElem?_eq_getElem hi, List.getElem?_eq_getElem hk] using this
  rcases Nat.lt_trichotomy i k with h1 | h1 | h1
  · exact absurd e (g i k hi hk h1)
  · exact h1
  · exact absurd e.symm (g k i hk hi h1)
theorem dot_self_pos {u : Pt} (h : u ≠ (0, 0)) : 0 < dot u u := by
  obtain ⟨a, b⟩ := u
  simp only [dot]
  have h1 : 0 ≤ a * a := by rcases Int.le_total 0 a with h | h; exact Int.mul_nonneg h h; exact Int.mul_nonneg_of_nonpos_of_nonpos h h
  have h2 : 0 ≤ b * b := by rcases Int.le_total 0 b with h | h; exact Int.mul_nonneg h h; exact Int.mul_nonneg_of_nonpos_of_nonpos h h
  by_cases ha : a = 0
  · by_cases hb : b = 0
    · exact absurd (by rw [ha, hb]) h
    · have : b * b ≠ 0 := fun e => by rcases Int.mul_eq_zero.1 e with e | e <;> exact hb e
      omega
  · have : a * a ≠ 0 := fun e => by rcases Int.mul_eq_zero.1 e with e | e <;> exact ha e
    omega
theorem left_self1' (a c : Pt) : left a a c = 0 := by simp only [left, turn, sub]; grind
theorem sub_zero {p q : Pt} : sub p q = (0, 0) → p = q := fun h => by
  simp only [sub, Prod.mk.injEq] at h
  exact Prod.ext (by omega) (by omega)
end Go.Hull
end
section
set_option linter.unusedVariables false
namespace Go.Hull

theorem HullV.two_ne {l : List Pt} {v : List Nat} (h : HullV l v) (h2 : v.length = 2) : before (P l (v.getD 0 0)) (P l (v.getD 1 0)) = true := by
  rcases before_false (h.T.first _ (h.T.pmem (i := 1) (by omega))) with e | e
  · have := h.inj (i := 0) (k := 1) (by omega) (by omega) e; omega
  · exact e
/-- Firstness: of equal points the one that stands first is kept. -/
theorem insR_stable (l : List Pt) (x : Nat) : ∀ (r : List Nat), (∀ y ∈ r, y < x) → r.Pairwise (fun a b => P l a = P l b → b < a) → (insR (lessB l) x r).Pairwise (fun a b => P l a = P l b → b < a) := by
  intro r
  induction r with
  | nil => intro _ _; simp [insR]
  | cons y r ih =>
    intro hx h
    obtain ⟨h1, h2⟩ := List.pairwise_cons.1 h
    simp only [insR]
    split
    · rename_i hc
      refine List.pairwise_cons.2 ⟨fun z hz e => ?_, ih (fun z hz => hx z (by simp [hz])) h2⟩
      rcases (insR_mem _ x z r).1 hz with rfl | hz
      · rw [lessB_eq, e, before_irrefl] at hc; cases hc
      · exact h1 z hz e
    · exact List.pairwise_cons.2 ⟨fun z hz _ => hx z hz, h⟩
theorem fold_stable (l : List Pt) : ∀ (rest r : List Nat), (∀ y ∈ r, ∀ x ∈ rest, y < x) → rest.Pairwise (· < ·) → r.Pairwise (fun a b => P l a = P l b → b < a) → (rest.foldl (fun r x => insR (lessB l) x r) r).Pairwise (fun a b => P l a = P l b → b < a) := by
  intro rest
  induction rest with
  | nil => intro r _ _ h; exact h
  | cons x rest ih =>
    intro r h1 h2 h3
    obtain ⟨p1, p2⟩ := List.pairwise_cons.1 h2
    refine ih _ (fun y hy z hz => ?_) p2 (insR_stable l x r (fun y hy => h1 y hy x (by simp)) h3)
    rcases (insR_mem _ x y r).1 hy with rfl | hy
    · exact p1 z hz
    · exact h1 y hy z (by simp [hz])
theorem orderI_stable (l : List Pt) : (orderI l).Pairwise (fun a b => P l a = P l b → a < b) := by
  unfold orderI
  cases hr : List.range l.length with
  | nil => simp [insort, outer]
  | cons a rest =>
    rw [insort_eq, List.pairwise_reverse]
    have hp : (List.range l.length).Pairwise (· < ·) := List.pairwise_lt_range
    rw [hr] at hp
    obtain ⟨p1, p2⟩ := List.pairwise_cons.1 hp
    exact (fold_stable l rest [a] (fun y hy x hx => by rw [List.mem_singleton.1 hy]; exact p1 x hx) p2 (by simp)).imp fun {a b} h e => h e.symm
theorem squash_first (l : List Pt) : ∀ (r : List Nat) (a : Nat), (a :: r).Pairwise (fun x y => before (P l y) (P l x) = false) → (a :: r).Pairwise (fun x y => P l x = P l y → x < y) →
    ∀ y ∈ a :: squash (sameB l) a r, ∀ x ∈ a :: r, P l x = P l y → y ≤ x := by
  intro r
  induction r with
  | nil =>
    intro a _ _ y hy x hx _
    simp only [squash, List.mem_singleton] at hy hx
    omega
  | cons b r ih =>
    intro a h g y hy x hx e
    obtain ⟨h1, h2⟩ := List.pairwise_cons.1 h
    obtain ⟨g1, g2⟩ := List.pairwise_cons.1 g
    have ib := ih b h2 g2
    have ha : ∀ x ∈ a :: b :: r, P l x = P l a → a ≤ x := fun x hx e => by
      rcases List.mem_cons.1 hx with rfl | hx
      · exact Nat.le_refl _
      · exact Nat.le_of_lt (g1 x hx e.symm)
    rcases List.mem_cons.1 hy with rfl | hy
    · exact ha x hx e
    · have sp := squash_spec l (b :: r) a h
      have lt := (List.pairwise_cons.1 sp.1).1 y hy
      rcases List.mem_cons.1 hx with rfl | hx
      · rw [e, before_irrefl] at lt; cases lt
      · simp only [squash] at hy
        split at hy
        · exact ib y (List.mem_cons_of_mem _ hy) x hx e
        · exact ib y hy x hx e
theorem distI_first (l : List Pt) : ∀ y ∈ distI l, ∀ k, k < y → P l k ≠ P l y := by
  have hs := orderI_sorted l
  have ht := orderI_stable l
  have hm : ∀ i, i ∈ orderI l ↔ i < l.length := fun i => by unfold orderI; rw [insort_mem, List.mem_range]
  have hd := (dist l).mem
  unfold distI compI at hd ⊢
  cases ho : orderI l with
  | nil => intro y hy; simp [compact] at hy
  | cons a r =>
    rw [ho] at hs ht hm hd
    rw [compact_take] at hd ⊢
    intro y hy k hk e
    have := squash_first l r a hs ht y hy k ((hm k).2 (by have := hd y hy; omega)) e
    omega
theorem chainS_sub {l : List Pt} {d : Nat → Prop} : ∀ (ord st : List Nat), (∀ x ∈ ord, d x) → (∀ x ∈ st, d x) → ∀ x ∈ ord.foldl (fun st i => i :: pop l i st) st, d x := by
  intro ord
  induction ord with
  | nil => intro st _ h; exact h
  | cons o ord ih =>
    intro st h1 h2
    refine ih _ (fun x hx => h1 x (by simp [hx])) fun x hx => ?_
    rcases List.mem_cons.1 hx with rfl | hx
    · exact h1 _ (by simp)
    · have : ∀ (st : List Nat), (∀ x ∈ st, d x) → ∀ x ∈ pop l o st, d x := by
        intro st
        induction st with
        | nil => intro h; exact h
        | cons b st ih =>
          intro h
          cases st with
          | nil => exact h
          | cons a r =>
            simp only [pop]
            split
            · exact ih fun x hx => h x (List.mem_cons_of_mem _ hx)
            · exact h
      exact this st h2 x hx
theorem hullI_sub {l : List Pt} (hl : 0 < l.length) : ∀ x ∈ hullI l, x ∈ distI l := by
  intro x hx
  unfold hullI at hx
  split at hx
  · exact hx
  · rw [revI_eq hl] at hx
    rcases List.mem_append.1 hx with h | h
    · exact chainS_sub _ _ (fun x hx => hx) (by simp) x (List.mem_reverse.1 (List.mem_of_mem_take h))
    · exact chainS_sub (d := (· ∈ distI l)) _ _ (fun x hx => List.mem_reverse.1 hx) (by simp) x (List.mem_reverse.1 (List.mem_of_mem_take h))
theorem hullV (l : List Pt) (hl : 0 < l.length) : HullV l (hullI l) := by
  obtain ⟨h1, h2⟩ := hullTN l hl
  exact ⟨h1, h2, fun i hi k hk => distI_first l i (hullI_sub hl i hi) k hk⟩
/-- Moved points. -/
def addP (d p : Pt) : Pt := (p.1 + d.1, p.2 + d.2)
theorem left_add (d a b c : Pt) : left (addP d a) (addP d b) (addP d c) = left a b c := by simp only [left, turn, sub, addP]; grind
theorem before_add (d a b : Pt) : before (addP d a) (addP d b) = before a b := by
  have : ∀ x y : Bool, (x = true ↔ y = true) → x = y := by decide
  apply this
  rw [before_iff, before_iff]
  simp only [Lp, sub, addP]; omega
theorem addP_inj {d a b : Pt} (h : addP d a = addP d b) : a = b := by
  simp only [addP, Prod.mk.injEq] at h
  exact Prod.ext (by omega) (by omega)
theorem P_add (d : Pt) (l : List Pt) {i : Nat} (hi : i < l.length) : P (l.map (addP d)) i = addP d (P l i) := by
  simp [P, List.getD_eq_getElem?_getD, List.getElem?_eq_getElem hi]
theorem HullV.moved {l : List Pt} {v : List Nat} (h : HullV l v) (d : Pt) : HullV (l.map (addP d)) v := by
  have T := h.T
  have e : ∀ i, i < v.length → P (l.map (addP d)) (v.getD i 0) = addP d (P l (v.getD i 0)) := fun i hi => P_add d l (getD_lt T.mem hi)
  have md : ∀ k, k % v.length < v.length := fun k => Nat.mod_lt _ T.ne
  have pm : ∀ {Q : Pt → Prop}, (∀ p ∈ l, Q (addP d p)) → ∀ p ∈ l.map (addP d), Q p := fun {Q} hq p hp => by
    obtain ⟨a, ha, rfl⟩ := List.mem_map.1 hp
    exact hq a ha
  refine ⟨⟨T.ne, by rw [List.length_map]; exact T.le, fun x hx => by rw [List.length_map]; exact T.mem x hx, pm fun p hp => ?_, fun h2 i hi => pm fun p hp => ?_, fun h2 i hi => ?_, fun h2 i hi => pm fun p hp => ?_, fun h2 => pm fun p hp => ?_, fun h1 => pm fun p hp => ?_⟩, ?_, fun i hi k hk hh => ?_⟩
  · rw [e 0 T.ne, before_add]; exact T.first p hp
  · rw [e i hi, e _ (md _), left_add]; exact T.big h2 i hi p hp
  · rw [e i hi, e _ (md _), e _ (md _), left_add]; exact T.turns h2 i hi
  · rw [e i (by omega), e _ (md _), left_add]; exact T.two h2 i hi p hp
  · rw [e 1 (by omega), before_add]; exact T.two' h2 p hp
  · rw [e 0 (by omega), T.one h1 p hp]
  · have : v.map (P (l.map (addP d))) = (v.map (P l)).map (addP d) := by
      rw [List.map_map]
      exact List.map_congr_left fun x hx => P_add d l (T.mem x hx)
    rw [this, List.nodup_iff_pairwise_ne, List.pairwise_map]
    exact (List.nodup_iff_pairwise_ne.1 h.nd).imp fun {a b} hab hh => hab (addP_inj hh)
  · have hil := T.mem i hi
    rw [P_add d l hil, P_add d l (by omega)] at hh
    exact h.fst i hi k hk (addP_inj hh)
theorem getD_range {n i : Nat} (h : i < n) : (List.range n).getD i 0 = i := by
  rw [List.getD_eq_getElem?_getD, List.getElem?_range h]; rfl
theorem HullV.alone {l : List Pt} {v : List Nat} (h : HullV l v) : HullV (v.map (P l)) (List.range v.length) := by
  have T := h.T
  have al : (v.map (P l)).length = v.length := List.length_map ..
  have e : ∀ i, i < v.length → P (v.map (P l)) ((List.range v.length).getD i 0) = P l (v.getD i 0) := fun i hi => by
    rw [getD_range hi]; exact getD_map_P l v hi
  have md : ∀ k, k % v.length < v.length := fun k => Nat.mod_lt _ T.ne
  have pm : ∀ p ∈ v.map (P l), p ∈ l := fun p hp => by
    obtain ⟨a, ha, rfl⟩ := List.mem_map.1 hp
    exact P_mem (T.mem a ha)
  have rl : (List.range v.length).length = v.length := List.length_range
  refine ⟨⟨by rw [rl]; exact T.ne, by rw [rl, al]; exact Nat.le_refl _, fun x hx => by rw [al]; exact List.mem_range.1 hx, fun p hp => ?_, fun h2 i hi p hp => ?_, fun h2 i hi => ?_, fun h2 i hi p hp => ?_, fun h2 p hp => ?_, fun h1 p hp => ?_⟩, ?_, fun i hi k hk hh => ?_⟩
  · rw [e 0 T.ne]; exact T.first p (pm p hp)
  · rw [rl] at h2 hi ⊢; rw [e i hi, e _ (md _)]; exact T.big h2 i hi p (pm p hp)
  · rw [rl] at h2 hi ⊢; rw [e i hi, e _ (md _), e _ (md _)]; exact T.turns h2 i hi
  · rw [rl] at h2 ⊢; rw [e i (by omega), e _ (md _)]; exact T.two h2 i hi p (pm p hp)
  · rw [rl] at h2; rw [e 1 (by omega)]; exact T.two' h2 p (pm p hp)
  · rw [rl] at h1; rw [e 0 (by omega)]; exact T.one h1 p (pm p hp)
  · have : (List.range v.length).map (P (v.map (P l))) = v.map (P l) := by
      refine List.ext_getElem (by simp) fun i h1 h2 => ?_
      have hi : i < v.length := by simpa using h2
      have := getD_map_P l v hi
      simp only [List.getElem_map, List.getElem_range]
      have gv : v.getD i 0 = v[i] := by rw [List.getD_eq_getElem?_getD, List.getElem?_eq_getElem hi]; rfl
      rw [gv] at this
      exact this
    rw [this]; exact h.nd
  · have hi' := List.mem_range.1 hi
    have e1 := e i hi'
    have e2 := e k (by omega)
    rw [getD_range hi'] at e1
    rw [getD_range (by omega)] at e2
    rw [e1, e2] at hh
    have := h.inj (i := k) (k := i) (by omega) hi' hh
    omega
end Go.Hull
end
section
set_option linter.unusedSimpArgs false
set_option linter.unusedVariables false
set_option maxHeartbeats 2000000
namespace Go.Hull
open Go Go.Am Go.Proofs

theorem viewG_pts {hl : List Blk} {b g i k : Nat} {nil frz : Bool} {xs : List Pt} (hb : hget hl b = .row nil g frz 2 (xs.map pt)) (h : i + k ≤ xs.length) : viewG hl 6 (.sl b g i k) = some (pts ((xs.drop i).take k), [b]) := by
  have he : ((xs.map pt).drop i).take k = ((xs.drop i).take k).map pt := by rw [List.map_take, List.map_drop]
  have h1 : optL (viewG hl 5) (((xs.drop i).take k).map pt) = some ((((xs.drop i).take k).map pt).map fun x => (x, [])) := optL_self _ fun x hx => by
    obtain ⟨n, -, rfl⟩ := List.mem_map.1 hx
    exact viewG_flat rfl 4
  have h2 : (((((xs.drop i).take k).map pt).map fun x => (x, ([] : List Nat))).all fun y => Nat.beq y.1.cells.length 2) = true := by
    rw [List.all_eq_true]
    intro y hy
    obtain ⟨x, hx, rfl⟩ := List.mem_map.1 hy
    obtain ⟨n, -, rfl⟩ := List.mem_map.1 hx
    rfl
  have hc : True ∧ i + k ≤ (xs.map pt).length := ⟨trivial, by rw [List.length_map]; exact h⟩
  unfold viewG
  simp only [flatN, AV.lt, Nat.not_lt_zero, decide_false, Bool.false_eq_true, if_false, hb]
  rw [if_pos hc]
  simp only [he, h1, h2, if_true, catT_nil]
  simp only [List.map_map, Function.comp_def, pts]
theorem chk1 (p : Pt) : chk [p] = if okP p = true then 0 else 2 := by simp [chk]
theorem c54 (p : Pt) : CallsF Try.prog 54 [pt p] [] (.bool (okP p)) [] := by
  have k := c50 [p] (by simp)
  rw [chk1] at k
  refine callsF_cwx hm hf54 (by simp [cf54]) ?_
  simp only [cf54, argsAl]
  unfold pt
  refine CWx.r fun K hK => ?_
  simp (maxSteps := 4000000) only [amC, amX, dr3, dr4, AV.elem, AV.cells, AV.one, loadAV, faddrAV, binAV, storeAV, AV.putCells, AV.ref, if_true, if_false, Nat.reduceEqDiff, Nat.reduceAdd, Nat.reduceLT, Nat.reduceLeDiff, reduceCtorEq, ↓reduceIte, pickAV, lenAV, intAV, slcA, slcAV, iaddrAV, extAV, fldAV, eqCell, contAV, appendAV, maxI, minI, Option.some.injEq, catT, AV.cells, AV.elem, AV.one, List.all_cons, List.all_nil]
  refine hK _ _ _ nofun ?_
  clear hK K
  refine CWx.r fun K hK => ?_
  simp (maxSteps := 4000000) only [amC, amX, dr3, dr4, AV.elem, AV.cells, AV.one, loadAV, faddrAV, binAV, storeAV, AV.putCells, AV.ref, if_true, if_false, Nat.reduceEqDiff, Nat.reduceAdd, Nat.reduceLT, Nat.reduceLeDiff, reduceCtorEq, ↓reduceIte, pickAV, lenAV, intAV, slcA, slcAV, iaddrAV, extAV, fldAV, eqCell, contAV, appendAV, maxI, minI, Option.some.injEq, catT, AV.cells, AV.elem, AV.one, List.all_cons, List.all_nil, beq_self_eq_true, Bool.and_self]
  refine RCx.view (fid := 50) (caps := []) (args := [pts [p]]) (T0 := [1]) rfl rfl ?_ k rfl ?_
  · exact viewArgs1 (viewG_pts (b := 1) (xs := [p]) (g := 0) (i := 0) (k := 1) (nil := false) (frz := false) rfl (by simp))
  by_cases h : okP p = true
  · simp (maxSteps := 4000000) only [amC, amX, dr3, dr4, AV.elem, AV.cells, AV.one, loadAV, faddrAV, binAV, storeAV, AV.putCells, AV.ref, if_true, if_false, Nat.reduceEqDiff, Nat.reduceAdd, Nat.reduceLT, Nat.reduceLeDiff, reduceCtorEq, ↓reduceIte, pickAV, lenAV, intAV, slcA, slcAV, iaddrAV, extAV, fldAV, eqCell, contAV, appendAV, maxI, minI, Option.some.injEq, catT, h, show ((0 : Int) == 0) = true from rfl]
    refine hK _ _ _ nofun ?_
    clear hK K
    rw [h]
    exact CWx.ret fun al hal => finK_ext hal (finK_pure (.inr rfl) (xs := [.bool true]) (by simp [resRV, Am.get]) rfl rfl)
  · simp (maxSteps := 4000000) only [amC, amX, dr3, dr4, AV.elem, AV.cells, AV.one, loadAV, faddrAV, binAV, storeAV, AV.putCells, AV.ref, if_true, if_false, Nat.reduceEqDiff, Nat.reduceAdd, Nat.reduceLT, Nat.reduceLeDiff, reduceCtorEq, ↓reduceIte, pickAV, lenAV, intAV, slcA, slcAV, iaddrAV, extAV, fldAV, eqCell, contAV, appendAV, maxI, minI, Option.some.injEq, catT, h, show ((2 : Int) == 0) = false from rfl]
    refine hK _ _ _ nofun ?_
    clear hK K
    have h' : okP p = false := by simpa using h
    rw [h']
    exact CWx.ret fun al hal => finK_ext hal (finK_pure (.inr rfl) (xs := [.bool false]) (by simp [resRV, Am.get]) rfl rfl)
theorem c56' {u v : Pt} (hu : smallV u) (hv : smallV v) : CallsF Try.prog 56 [pt u, pt v] [] (.int .i64 (dot u v)) [] := by
  obtain ⟨⟨a1, a2⟩, a3, a4⟩ := hu
  obtain ⟨⟨b1, b2⟩, b3, b4⟩ := hv
  have m1 := mul_bd a1 a2 b1 b2
  have m2 := mul_bd a3 a4 b3 b4
  have e1 := wr (u.1 * v.1) (by omega) (by omega)
  have e2 := wr (u.2 * v.2) (by omega) (by omega)
  have e3 := wr (u.1 * v.1 + u.2 * v.2) (by omega) (by omega)
  refine callsF_cwx hm hf56 (by simp [cf56]) ?_
  simp only [cf56, argsAl]
  unfold pt
  refine CWx.r fun K hK => ?_
  simp (maxSteps := 4000000) only [amC, amX, dr3, dr4, AV.elem, AV.cells, AV.one, loadAV, faddrAV, binAV, storeAV, AV.putCells, AV.ref, if_true, if_false, Nat.reduceEqDiff, Nat.reduceAdd, Nat.reduceLT, Nat.reduceLeDiff, reduceCtorEq, ↓reduceIte, pickAV, lenAV, intAV, slcA, slcAV, iaddrAV, extAV, fldAV, eqCell, contAV, appendAV, maxI, minI, Option.some.injEq, catT, AV.cells, AV.elem, AV.one, List.all_cons, List.all_nil]
  refine hK _ _ _ nofun ?_
  clear hK K
  refine CWx.r fun K hK => ?_
  simp (maxSteps := 4000000) only [amC, amX, dr3, dr4, AV.elem, AV.cells, AV.one, loadAV, faddrAV, binAV, storeAV, AV.putCells, AV.ref, if_true, if_false, Nat.reduceEqDiff, Nat.reduceAdd, Nat.reduceLT, Nat.reduceLeDiff, reduceCtorEq, ↓reduceIte, pickAV, lenAV, intAV, slcA, slcAV, iaddrAV, extAV, fldAV, eqCell, contAV, appendAV, maxI, minI, Option.some.injEq, catT, AV.cells, e1, e2, e3]
  refine hK _ _ _ nofun ?_
  clear hK K
  exact CWx.ret fun al hal => finK_ext hal (finK_pure (.inr rfl) (xs := [.int .i64 (dot u v)]) (by simp [resRV, Am.get, dot]) rfl rfl)
end Go.Hull
end
section
set_option linter.unusedSimpArgs false
set_option linter.unusedVariables false
set_option maxHeartbeats 4000000
namespace Go.Hull
open Go Go.Am Go.Proofs

/-- On which side of its i-th side a point is. -/
def sideI (l : List Pt) (p : Pt) (i : Nat) : Int := left (P l ((hullI l).getD i 0)) (P l ((hullI l).getD ((i + 1) % (hullI l).length) 0)) p
def outI (l : List Pt) (p : Pt) (i : Nat) : Int := if (List.range i).any (fun j => decide (sideI l p j = 0)) = true then 0 else 1
def onB (l : List Pt) (p : Pt) : Bool := decide (left (P l ((hullI l).getD 0 0)) (P l ((hullI l).getD ((hullI l).length - 1) 0)) p = 0) && decide (dot (sub (P l ((hullI l).getD 0 0)) p) (sub (P l ((hullI l).getD ((hullI l).length - 1) 0)) p) ≤ 0)
def locI (l : List Pt) (p : Pt) : Int :=
  if (hullI l).length ≤ 2 then (if onB l p = true then 0 else -1)
  else if (List.range (hullI l).length).any (fun j => decide (sideI l p j < 0)) = true then -1 else outI l p (hullI l).length
def locR (l : List Pt) (p : Pt) : Int × Int := if chk l ≠ 0 then (0, chk l) else if okP p = false then (0, 2) else if l.length = 0 then (0, 13) else (locI l p, 0)
theorem outI_succ (l : List Pt) (p : Pt) (i : Nat) : outI l p (i + 1) = if sideI l p i = 0 then 0 else outI l p i := by
  unfold outI
  rw [List.range_succ, List.any_append]
  by_cases h : sideI l p i = 0
  · simp [h]
  · simp [h]
theorem c15 (l : List Pt) (p : Pt) (hn : l.length < 4611686018427387904) (h20 : chk l = 0 → l.length < 20) :
    CallsF Try.prog 15 [pts l, pt p] [] (.tup [.int .i64 (locR l p).1, .int .i64 (locR l p).2]) [] := by
  have k50 := c50 l hn
  have k54 := c54 p
  refine callsF_cwx hm hf15 (by simp [cf15]) ?_
  simp only [cf15, argsAl]
  unfold pt
  refine CWx.r fun K hK => ?_
  simp (maxSteps := 4000000) only [amC, amX, dr3, dr4, AV.elem, AV.cells, AV.one, loadAV, faddrAV, binAV, storeAV, AV.putCells, AV.ref, if_true, if_false, Nat.reduceEqDiff, Nat.reduceAdd, Nat.reduceLT, Nat.reduceLeDiff, reduceCtorEq, ↓reduceIte, pickAV, lenAV, intAV, slcA, slcAV, iaddrAV, extAV, fldAV, eqCell, contAV, appendAV, maxI, minI, Option.some.injEq, catT, AV.cells, AV.elem, AV.one, List.all_cons, List.all_nil]
  refine hK _ _ _ nofun ?_
  clear hK K
  refine CWx.seq ?_
  refine CWx.r fun K hK => ?_
  simp (maxSteps := 4000000) only [amC, amX, dr3, dr4, AV.elem, AV.cells, AV.one, loadAV, faddrAV, binAV, storeAV, AV.putCells, AV.ref, if_true, if_false, Nat.reduceEqDiff, Nat.reduceAdd, Nat.reduceLT, Nat.reduceLeDiff, reduceCtorEq, ↓reduceIte, pickAV, lenAV, intAV, slcA, slcAV, iaddrAV, extAV, fldAV, eqCell, contAV, appendAV, maxI, minI, Option.some.injEq, catT]
  refine RCx.view (fid := 50) (caps := []) rfl rfl (viewArgs_flat1 (flat_pts l 2)) k50 rfl ?_
  by_cases hc : chk l = 0
  · rw [hc]
    simp (maxSteps := 4000000) only [amC, amX, dr3, dr4, AV.elem, AV.cells, AV.one, loadAV, faddrAV, binAV, storeAV, AV.putCells, AV.ref, if_true, if_false, Nat.reduceEqDiff, Nat.reduceAdd, Nat.reduceLT, Nat.reduceLeDiff, reduceCtorEq, ↓reduceIte, pickAV, lenAV, intAV, slcA, slcAV, iaddrAV, extAV, fldAV, eqCell, contAV, appendAV, maxI, minI, Option.some.injEq, catT]
    refine hK _ _ _ nofun ?_
    clear hK K
    refine CWx.r fun K hK => ?_
    simp (maxSteps := 4000000) only [amC, amX, dr3, dr4, AV.elem, AV.cells, AV.one, loadAV, faddrAV, binAV, storeAV, AV.putCells, AV.ref, if_true, if_false, Nat.reduceEqDiff, Nat.reduceAdd, Nat.reduceLT, Nat.reduceLeDiff, reduceCtorEq, ↓reduceIte, pickAV, lenAV, intAV, slcA, slcAV, iaddrAV, extAV, fldAV, eqCell, contAV, appendAV, maxI, minI, Option.some.injEq, catT, show ((0 : Int) != 0) = false from rfl]
    refine hK _ _ _ nofun ?_
    clear hK K
    refine CWx.condF rfl (CWx.skip (CWx.go ?_))
    refine CWx.seq ?_
    refine CWx.block ?_
    refine CWx.r fun K hK => ?_
    simp (maxSteps := 4000000) only [amC, amX, dr3, dr4, AV.elem, AV.cells, AV.one, loadAV, faddrAV, binAV, storeAV, AV.putCells, AV.ref, if_true, if_false, Nat.reduceEqDiff, Nat.reduceAdd, Nat.reduceLT, Nat.reduceLeDiff, reduceCtorEq, ↓reduceIte, pickAV, lenAV, intAV, slcA, slcAV, iaddrAV, extAV, fldAV, eqCell, contAV, appendAV, maxI, minI, Option.some.injEq, catT, AV.cells]
    refine RCx.view (fid := 54) (caps := []) rfl rfl rfl k54 rfl ?_
    by_cases hp : okP p = true
    · simp (maxSteps := 4000000) only [amC, amX, dr3, dr4, AV.elem, AV.cells, AV.one, loadAV, faddrAV, binAV, storeAV, AV.putCells, AV.ref, if_true, if_false, Nat.reduceEqDiff, Nat.reduceAdd, Nat.reduceLT, Nat.reduceLeDiff, reduceCtorEq, ↓reduceIte, pickAV, lenAV, intAV, slcA, slcAV, iaddrAV, extAV, fldAV, eqCell, contAV, appendAV, maxI, minI, Option.some.injEq, catT, hp]
      refine hK _ _ _ nofun ?_
      clear hK K
      refine CWx.condF rfl ?_
      by_cases hl0 : l.length = 0
      · have hl0' : ((l.length : Int) == 0) = true := by rw [hl0]; rfl
        refine CWx.r fun K hK => ?_
        simp (maxSteps := 4000000) only [amC, amX, dr3, dr4, AV.elem, AV.cells, AV.one, loadAV, faddrAV, binAV, storeAV, AV.putCells, AV.ref, if_true, if_false, Nat.reduceEqDiff, Nat.reduceAdd, Nat.reduceLT, Nat.reduceLeDiff, reduceCtorEq, ↓reduceIte, pickAV, lenAV, intAV, slcA, slcAV, iaddrAV, extAV, fldAV, eqCell, contAV, appendAV, maxI, minI, Option.some.injEq, catT, pts, List.length_map, hl0']
        refine hK _ _ _ nofun ?_
        clear hK K
        refine CWx.condT rfl ?_
        refine CWx.r fun K hK => ?_
        simp (maxSteps := 4000000) only [amC, amX, dr3, dr4, AV.elem, AV.cells, AV.one, loadAV, faddrAV, binAV, storeAV, AV.putCells, AV.ref, if_true, if_false, Nat.reduceEqDiff, Nat.reduceAdd, Nat.reduceLT, Nat.reduceLeDiff, reduceCtorEq, ↓reduceIte, pickAV, lenAV, intAV, slcA, slcAV, iaddrAV, extAV, fldAV, eqCell, contAV, appendAV, maxI, minI, Option.some.injEq, catT]
        refine hK _ _ _ nofun ?_
        clear hK K
        have hr : locR l p = (0, 13) := by unfold locR; rw [if_neg (by simp [hc]), if_neg (by simp [hp]), if_pos hl0]
        rw [hr]
        exact CWx.ret fun al hal => finK_ext hal (finK_pure (.inr rfl) (xs := [.int .i64 0, .int .i64 13]) (by simp [resRV, Am.get]) rfl rfl)
      · have hl0' : ((l.length : Int) == 0) = false := beq_eq_false_iff_ne.2 (by omega)
        have hok : l.all okP = true := by
          unfold chk at hc
          split at hc
          · cases hc
          · by_cases h : l.all okP = true
            · exact h
            · rw [if_neg h] at hc; cases hc
        have hr : locR l p = (locI l p, 0) := by unfold locR; rw [if_neg (by simp [hc]), if_neg (by simp [hp]), if_neg hl0]
        rw [hr]
        have T := hullT l (by omega)
        obtain ⟨zs, z1, z2, z3⟩ := c51 l (by omega) (h20 hc) hok
        obtain ⟨v, hv⟩ : ∃ v, v = hullI l := ⟨_, rfl⟩
        obtain ⟨n, hnv⟩ : ∃ n, n = v.length := ⟨_, rfl⟩
        rw [← hv] at T z1 z2 z3
        rw [← hnv] at z1 z2 z3
        have n0 : 0 < n := by rw [hnv]; exact T.ne
        have n8 : n ≤ l.length := by rw [hnv]; exact T.le
        have l20 := h20 hc
        have zv : ∀ k, k < n → zs.getD k 0 = v.getD k 0 := fun k hk => take_getD' z1 hk
        have vm : ∀ k, k < n → v.getD k 0 < l.length := fun k hk => getD_lt T.mem (by omega)
        refine CWx.r fun K hK => ?_
        simp (maxSteps := 4000000) only [amC, amX, dr3, dr4, AV.elem, AV.cells, AV.one, loadAV, faddrAV, binAV, storeAV, AV.putCells, AV.ref, if_true, if_false, Nat.reduceEqDiff, Nat.reduceAdd, Nat.reduceLT, Nat.reduceLeDiff, reduceCtorEq, ↓reduceIte, pickAV, lenAV, intAV, slcA, slcAV, iaddrAV, extAV, fldAV, eqCell, contAV, appendAV, maxI, minI, Option.some.injEq, catT, pts, List.length_map, hl0']
        refine hK _ _ _ nofun ?_
        clear hK K
        refine CWx.condF rfl (CWx.skip (CWx.go ?_))
        refine CWx.r fun K hK => ?_
        simp (maxSteps := 4000000) only [amC, amX, dr3, dr4, AV.elem, AV.cells, AV.one, loadAV, faddrAV, binAV, storeAV, AV.putCells, AV.ref, if_true, if_false, Nat.reduceEqDiff, Nat.reduceAdd, Nat.reduceLT, Nat.reduceLeDiff, reduceCtorEq, ↓reduceIte, pickAV, lenAV, intAV, slcA, slcAV, iaddrAV, extAV, fldAV, eqCell, contAV, appendAV, maxI, minI, Option.some.injEq, catT]
        refine RCx.viewR (fid := 51) (caps := []) rfl rfl (viewArgs_flat1 (flat_pts l 2)) z3 (by simp [AV.clean, cleanL, Blk.clean, cleanL_ix]) ?_
        simp (maxSteps := 4000000) only [amC, amX, dr3, dr4, AV.elem, AV.cells, AV.one, loadAV, faddrAV, binAV, storeAV, AV.putCells, AV.ref, if_true, if_false, Nat.reduceEqDiff, Nat.reduceAdd, Nat.reduceLT, Nat.reduceLeDiff, reduceCtorEq, ↓reduceIte, pickAV, lenAV, intAV, slcA, slcAV, iaddrAV, extAV, fldAV, eqCell, contAV, appendAV, maxI, minI, Option.some.injEq, catT, AV.ren, renL, Blk.ren, renL_id (ix zs) (ltL_ix _ _)]
        refine hK _ _ _ nofun ?_
        clear hK K
        refine CWx.seq ?_
        by_cases n2 : (n : Int) ≤ 2
        · refine CWx.r fun K hK => ?_
          simp (maxSteps := 4000000) only [amC, amX, dr3, dr4, AV.elem, AV.cells, AV.one, loadAV, faddrAV, binAV, storeAV, AV.putCells, AV.ref, if_true, if_false, Nat.reduceEqDiff, Nat.reduceAdd, Nat.reduceLT, Nat.reduceLeDiff, reduceCtorEq, ↓reduceIte, pickAV, lenAV, intAV, slcA, slcAV, iaddrAV, extAV, fldAV, eqCell, contAV, appendAV, maxI, minI, Option.some.injEq, catT, n2]
          refine hK _ _ _ nofun ?_
          clear hK K
          refine CWx.condT rfl ?_
          have e0 : 0 < zs.length := by omega
          have z0 := ix_get zs e0
          rw [zv 0 n0] at z0
          obtain ⟨m, hm⟩ : ∃ m, m = n - 1 := ⟨_, rfl⟩
          have zm := ix_get zs (show m < zs.length by omega)
          rw [zv m (by omega)] at zm
          obtain ⟨a, ha⟩ : ∃ a, a = v.getD 0 0 := ⟨_, rfl⟩
          obtain ⟨b, hb⟩ : ∃ b, b = v.getD m 0 := ⟨_, rfl⟩
          have am : a < l.length := by rw [ha]; exact vm 0 n0
          have bm : b < l.length := by rw [hb]; exact vm m (by omega)
          have am' : (a : Int) < (l.length : Int) := by omega
          have bm' : (b : Int) < (l.length : Int) := by omega
          have pa := get_pts (getp am)
          have pb := get_pts (getp bm)
          rw [← ha] at z0
          rw [← hb] at zm
          have w1 : IntKind.i64.wrap ((n : Int) - 1) = (m : Int) := by rw [wr _ (by omega) (by omega)]; omega
          have n0' : (0 : Int) < (n : Int) := by omega
          have mn' : (m : Int) < (n : Int) := by omega
          have oa := all_ok hok am
          have ob := all_ok hok bm
          have hon : onB l p = (decide (left (l.getD a (0, 0)) (l.getD b (0, 0)) p = 0) && decide (dot (sub (l.getD a (0, 0)) p) (sub (l.getD b (0, 0)) p) ≤ 0)) := by
            unfold onB P
            rw [← hv, ← hnv, ← hm, ← ha, ← hb]
          have hli : locI l p = if onB l p = true then 0 else -1 := by unfold locI; rw [← hv, ← hnv, if_pos (by omega)]
          rw [hli, hon]
          refine CWx.r fun K hK => ?_
          simp (maxSteps := 4000000) only [amC, amX, dr3, dr4, AV.elem, AV.cells, AV.one, loadAV, faddrAV, binAV, storeAV, AV.putCells, AV.ref, if_true, if_false, Nat.reduceEqDiff, Nat.reduceAdd, Nat.reduceLT, Nat.reduceLeDiff, reduceCtorEq, ↓reduceIte, pickAV, lenAV, intAV, slcA, slcAV, iaddrAV, extAV, fldAV, eqCell, contAV, appendAV, maxI, minI, Option.some.injEq, catT, pts, n0', mn', am', bm', w1, Int.natCast_nonneg, Int.toNat_natCast, Int.toNat_zero, Int.le_refl, List.length_map, z0, zm, pa, pb, pt, AV.cells, AV.elem, AV.one, List.all_cons, List.all_nil]
          refine hK _ _ _ (fun _ => rfl) ?_
          clear hK K
          refine CWx.seq ?_
          have k55 := c55' oa ob hp
          by_cases h1 : left (l.getD a (0, 0)) (l.getD b (0, 0)) p = 0
          · rw [h1] at k55
            have k57a := c57' oa hp
            have k57b := c57' ob hp
            have k56 := c56' (sub_small oa hp) (sub_small ob hp)
            by_cases h2 : dot (sub (l.getD a (0, 0)) p) (sub (l.getD b (0, 0)) p) ≤ 0
            · refine CWx.r fun K hK => ?_
              simp (maxSteps := 4000000) only [amC, amX, dr3, dr4, AV.elem, AV.cells, AV.one, loadAV, faddrAV, binAV, storeAV, AV.putCells, AV.ref, if_true, if_false, Nat.reduceEqDiff, Nat.reduceAdd, Nat.reduceLT, Nat.reduceLeDiff, reduceCtorEq, ↓reduceIte, pickAV, lenAV, intAV, slcA, slcAV, iaddrAV, extAV, fldAV, eqCell, contAV, appendAV, maxI, minI, Option.some.injEq, catT, AV.cells]
              refine RCx.view (fid := 55) (caps := []) rfl rfl rfl k55 rfl ?_
              simp (maxSteps := 4000000) only [amC, amX, dr3, dr4, AV.elem, AV.cells, AV.one, loadAV, faddrAV, binAV, storeAV, AV.putCells, AV.ref, if_true, if_false, Nat.reduceEqDiff, Nat.reduceAdd, Nat.reduceLT, Nat.reduceLeDiff, reduceCtorEq, ↓reduceIte, pickAV, lenAV, intAV, slcA, slcAV, iaddrAV, extAV, fldAV, eqCell, contAV, appendAV, maxI, minI, Option.some.injEq, catT, show ((0 : Int) == 0) = true from rfl, AV.cells]
              refine RCx.view (fid := 57) (caps := []) rfl rfl rfl k57a rfl ?_
              simp (maxSteps := 4000000) only [amC, amX, dr3, dr4, AV.elem, AV.cells, AV.one, loadAV, faddrAV, binAV, storeAV, AV.putCells, AV.ref, if_true, if_false, Nat.reduceEqDiff, Nat.reduceAdd, Nat.reduceLT, Nat.reduceLeDiff, reduceCtorEq, ↓reduceIte, pickAV, lenAV, intAV, slcA, slcAV, iaddrAV, extAV, fldAV, eqCell, contAV, appendAV, maxI, minI, Option.some.injEq, catT, AV.cells]
              refine RCx.view (fid := 57) (caps := []) rfl rfl rfl k57b rfl ?_
              simp (maxSteps := 4000000) only [amC, amX, dr3, dr4, AV.elem, AV.cells, AV.one, loadAV, faddrAV, binAV, storeAV, AV.putCells, AV.ref, if_true, if_false, Nat.reduceEqDiff, Nat.reduceAdd, Nat.reduceLT, Nat.reduceLeDiff, reduceCtorEq, ↓reduceIte, pickAV, lenAV, intAV, slcA, slcAV, iaddrAV, extAV, fldAV, eqCell, contAV, appendAV, maxI, minI, Option.some.injEq, catT, AV.cells]
              refine RCx.view (fid := 56) (caps := []) rfl rfl rfl k56 rfl ?_
              simp (maxSteps := 4000000) only [amC, amX, dr3, dr4, AV.elem, AV.cells, AV.one, loadAV, faddrAV, binAV, storeAV, AV.putCells, AV.ref, if_true, if_false, Nat.reduceEqDiff, Nat.reduceAdd, Nat.reduceLT, Nat.reduceLeDiff, reduceCtorEq, ↓reduceIte, pickAV, lenAV, intAV, slcA, slcAV, iaddrAV, extAV, fldAV, eqCell, contAV, appendAV, maxI, minI, Option.some.injEq, catT, h2]
              refine hK _ _ _ (fun _ => rfl) ?_
              clear hK K
              refine CWx.condT rfl ?_
              refine CWx.r fun K hK => ?_
              simp (maxSteps := 4000000) only [amC, amX, dr3, dr4, AV.elem, AV.cells, AV.one, loadAV, faddrAV, binAV, storeAV, AV.putCells, AV.ref, if_true, if_false, Nat.reduceEqDiff, Nat.reduceAdd, Nat.reduceLT, Nat.reduceLeDiff, reduceCtorEq, ↓reduceIte, pickAV, lenAV, intAV, slcA, slcAV, iaddrAV, extAV, fldAV, eqCell, contAV, appendAV, maxI, minI, Option.some.injEq, catT]
              refine hK _ _ _ nofun ?_
              clear hK K
              rw [show (if (decide (left (l.getD a (0, 0)) (l.getD b (0, 0)) p = 0) && decide (dot (sub (l.getD a (0, 0)) p) (sub (l.getD b (0, 0)) p) ≤ 0)) = true then (0 : Int) else -1) = 0 by rw [decide_eq_true h1, decide_eq_true h2]; rfl]
              exact CWx.ret fun al hal => finK_ext hal (finK_pure (.inr rfl) (xs := [.int .i64 0, .int .i64 0]) (by simp [resRV, Am.get]) rfl rfl)
            · refine CWx.r fun K hK => ?_
              simp (maxSteps := 4000000) only [amC, amX, dr3, dr4, AV.elem, AV.cells, AV.one, loadAV, faddrAV, binAV, storeAV, AV.putCells, AV.ref, if_true, if_false, Nat.reduceEqDiff, Nat.reduceAdd, Nat.reduceLT, Nat.reduceLeDiff, reduceCtorEq, ↓reduceIte, pickAV, lenAV, intAV, slcA, slcAV, iaddrAV, extAV, fldAV, eqCell, contAV, appendAV, maxI, minI, Option.some.injEq, catT, AV.cells]
              refine RCx.view (fid := 55) (caps := []) rfl rfl rfl k55 rfl ?_
              simp (maxSteps := 4000000) only [amC, amX, dr3, dr4, AV.elem, AV.cells, AV.one, loadAV, faddrAV, binAV, storeAV, AV.putCells, AV.ref, if_true, if_false, Nat.reduceEqDiff, Nat.reduceAdd, Nat.reduceLT, Nat.reduceLeDiff, reduceCtorEq, ↓reduceIte, pickAV, lenAV, intAV, slcA, slcAV, iaddrAV, extAV, fldAV, eqCell, contAV, appendAV, maxI, minI, Option.some.injEq, catT, show ((0 : Int) == 0) = true from rfl, AV.cells]
              refine RCx.view (fid := 57) (caps := []) rfl rfl rfl k57a rfl ?_
              simp (maxSteps := 4000000) only [amC, amX, dr3, dr4, AV.elem, AV.cells, AV.one, loadAV, faddrAV, binAV, storeAV, AV.putCells, AV.ref, if_true, if_false, Nat.reduceEqDiff, Nat.reduceAdd, Nat.reduceLT, Nat.reduceLeDiff, reduceCtorEq, ↓reduceIte, pickAV, lenAV, intAV, slcA, slcAV, iaddrAV, extAV, fldAV, eqCell, contAV, appendAV, maxI, minI, Option.some.injEq, catT, AV.cells]
              refine RCx.view (fid := 57) (caps := []) rfl rfl rfl k57b rfl ?_
              simp (maxSteps := 4000000) only [amC, amX, dr3, dr4, AV.elem, AV.cells, AV.one, loadAV, faddrAV, binAV, storeAV, AV.putCells, AV.ref, if_true, if_false, Nat.reduceEqDiff, Nat.reduceAdd, Nat.reduceLT, Nat.reduceLeDiff, reduceCtorEq, ↓reduceIte, pickAV, lenAV, intAV, slcA, slcAV, iaddrAV, extAV, fldAV, eqCell, contAV, appendAV, maxI, minI, Option.some.injEq, catT, AV.cells]
              refine RCx.view (fid := 56) (caps := []) rfl rfl rfl k56 rfl ?_
              simp (maxSteps := 4000000) only [amC, amX, dr3, dr4, AV.elem, AV.cells, AV.one, loadAV, faddrAV, binAV, storeAV, AV.putCells, AV.ref, if_true, if_false, Nat.reduceEqDiff, Nat.reduceAdd, Nat.reduceLT, Nat.reduceLeDiff, reduceCtorEq, ↓reduceIte, pickAV, lenAV, intAV, slcA, slcAV, iaddrAV, extAV, fldAV, eqCell, contAV, appendAV, maxI, minI, Option.some.injEq, catT, h2]
              refine hK _ _ _ (fun _ => rfl) ?_
              clear hK K
              refine CWx.condF rfl (CWx.skip (CWx.go ?_))
              refine CWx.r fun K hK => ?_
              simp (maxSteps := 4000000) only [amC, amX, dr3, dr4, AV.elem, AV.cells, AV.one, loadAV, faddrAV, binAV, storeAV, AV.putCells, AV.ref, if_true, if_false, Nat.reduceEqDiff, Nat.reduceAdd, Nat.reduceLT, Nat.reduceLeDiff, reduceCtorEq, ↓reduceIte, pickAV, lenAV, intAV, slcA, slcAV, iaddrAV, extAV, fldAV, eqCell, contAV, appendAV, maxI, minI, Option.some.injEq, catT]
              refine hK _ _ _ nofun ?_
              clear hK K
              rw [show (if (decide (left (l.getD a (0, 0)) (l.getD b (0, 0)) p = 0) && decide (dot (sub (l.getD a (0, 0)) p) (sub (l.getD b (0, 0)) p) ≤ 0)) = true then (0 : Int) else -1) = -1 by rw [decide_eq_false h2, Bool.and_false]; rfl]
              exact CWx.ret fun al hal => finK_ext hal (finK_pure (.inr rfl) (xs := [.int .i64 (-1), .int .i64 0]) (by simp [resRV, Am.get]) rfl rfl)
          · have h1' : (left (l.getD a (0, 0)) (l.getD b (0, 0)) p == 0) = false := beq_eq_false_iff_ne.2 h1
            refine CWx.r fun K hK => ?_
            simp (maxSteps := 4000000) only [amC, amX, dr3, dr4, AV.elem, AV.cells, AV.one, loadAV, faddrAV, binAV, storeAV, AV.putCells, AV.ref, if_true, if_false, Nat.reduceEqDiff, Nat.reduceAdd, Nat.reduceLT, Nat.reduceLeDiff, reduceCtorEq, ↓reduceIte, pickAV, lenAV, intAV, slcA, slcAV, iaddrAV, extAV, fldAV, eqCell, contAV, appendAV, maxI, minI, Option.some.injEq, catT, AV.cells]
            refine RCx.view (fid := 55) (caps := []) rfl rfl rfl k55 rfl ?_
            simp (maxSteps := 4000000) only [amC, amX, dr3, dr4, AV.elem, AV.cells, AV.one, loadAV, faddrAV, binAV, storeAV, AV.putCells, AV.ref, if_true, if_false, Nat.reduceEqDiff, Nat.reduceAdd, Nat.reduceLT, Nat.reduceLeDiff, reduceCtorEq, ↓reduceIte, pickAV, lenAV, intAV, slcA, slcAV, iaddrAV, extAV, fldAV, eqCell, contAV, appendAV, maxI, minI, Option.some.injEq, catT, h1', AV.cells]
            refine hK _ _ _ (fun _ => rfl) ?_
            clear hK K
            refine CWx.condF rfl (CWx.skip (CWx.go ?_))
            refine CWx.r fun K hK => ?_
            simp (maxSteps := 4000000) only [amC, amX, dr3, dr4, AV.elem, AV.cells, AV.one, loadAV, faddrAV, binAV, storeAV, AV.putCells, AV.ref, if_true, if_false, Nat.reduceEqDiff, Nat.reduceAdd, Nat.reduceLT, Nat.reduceLeDiff, reduceCtorEq, ↓reduceIte, pickAV, lenAV, intAV, slcA, slcAV, iaddrAV, extAV, fldAV, eqCell, contAV, appendAV, maxI, minI, Option.some.injEq, catT]
            refine hK _ _ _ nofun ?_
            clear hK K
            rw [show (if (decide (left (l.getD a (0, 0)) (l.getD b (0, 0)) p = 0) && decide (dot (sub (l.getD a (0, 0)) p) (sub (l.getD b (0, 0)) p) ≤ 0)) = true then (0 : Int) else -1) = -1 by rw [decide_eq_false h1]; rfl]
            exact CWx.ret fun al hal => finK_ext hal (finK_pure (.inr rfl) (xs := [.int .i64 (-1), .int .i64 0]) (by simp [resRV, Am.get]) rfl rfl)
        · refine CWx.r fun K hK => ?_
          simp (maxSteps := 4000000) only [amC, amX, dr3, dr4, AV.elem, AV.cells, AV.one, loadAV, faddrAV, binAV, storeAV, AV.putCells, AV.ref, if_true, if_false, Nat.reduceEqDiff, Nat.reduceAdd, Nat.reduceLT, Nat.reduceLeDiff, reduceCtorEq, ↓reduceIte, pickAV, lenAV, intAV, slcA, slcAV, iaddrAV, extAV, fldAV, eqCell, contAV, appendAV, maxI, minI, Option.some.injEq, catT, n2]
          refine hK _ _ _ nofun ?_
          clear hK K
          refine CWx.condF rfl (CWx.skip (CWx.go ?_))
          refine CWx.r fun K hK => ?_
          simp (maxSteps := 4000000) only [amC, amX, dr3, dr4, AV.elem, AV.cells, AV.one, loadAV, faddrAV, binAV, storeAV, AV.putCells, AV.ref, if_true, if_false, Nat.reduceEqDiff, Nat.reduceAdd, Nat.reduceLT, Nat.reduceLeDiff, reduceCtorEq, ↓reduceIte, pickAV, lenAV, intAV, slcA, slcAV, iaddrAV, extAV, fldAV, eqCell, contAV, appendAV, maxI, minI, Option.some.injEq, catT]
          refine hK _ _ _ nofun ?_
          clear hK K
          refine CWx.seq ?_
          refine CWx.r fun K hK => ?_
          simp (maxSteps := 4000000) only [amC, amX, dr3, dr4, AV.elem, AV.cells, AV.one, loadAV, faddrAV, binAV, storeAV, AV.putCells, AV.ref, if_true, if_false, Nat.reduceEqDiff, Nat.reduceAdd, Nat.reduceLT, Nat.reduceLeDiff, reduceCtorEq, ↓reduceIte, pickAV, lenAV, intAV, slcA, slcAV, iaddrAV, extAV, fldAV, eqCell, contAV, appendAV, maxI, minI, Option.some.injEq, catT]
          refine hK _ _ _ nofun ?_
          clear hK K
          refine CWx.block ?_
          refine CWx.loopF (fun i : Nat => n - i) (fun i => ⟨[(0, pts l), (3, .ptr 0 0 0 0), (7, .sl 1 0 0 n), (10, .int .i64 (outI l p i)), (62, .sl 1 0 0 n), (63, .int .i64 (n : Int)), (64, .int .i64 (i : Int))], [.row false 0 false 2 [pt p], .row false 0 false 1 (ix zs)]⟩)
            (fun i => i ≤ n ∧ ∀ j, j < i → ¬ sideI l p j < 0) (fun i hi => ?_) 0 ⟨Nat.zero_le _, fun j hj => by omega⟩ (Fgt.mk' 2 (by simp) (by simp [keepB, Am.get, AV.lt, ltL, lt_pts, pts, ltL_pt, outI]) rfl ⟨rfl, by simp only [Blk.lt, ltL_ix], trivial⟩)
          by_cases h : (i : Int) < (n : Int)
          · refine CWx.r fun K hK => ?_
            simp (maxSteps := 4000000) only [amC, amX, dr3, dr4, AV.elem, AV.cells, AV.one, loadAV, faddrAV, binAV, storeAV, AV.putCells, AV.ref, if_true, if_false, Nat.reduceEqDiff, Nat.reduceAdd, Nat.reduceLT, Nat.reduceLeDiff, reduceCtorEq, ↓reduceIte, pickAV, lenAV, intAV, slcA, slcAV, iaddrAV, extAV, fldAV, eqCell, contAV, appendAV, maxI, minI, Option.some.injEq, catT, h]
            refine hK _ _ _ nofun ?_
            clear hK K
            refine CWx.seq ?_
            refine CWx.condT rfl (CWx.skip (CWx.go ?_))
            refine CWx.seq ?_
            refine CWx.block ?_
            have hin : i < n := by omega
            have hzi := ix_get zs (show i < zs.length by omega)
            rw [zv i hin] at hzi
            refine CWx.r fun K hK => ?_
            simp (maxSteps := 4000000) only [amC, amX, dr3, dr4, AV.elem, AV.cells, AV.one, loadAV, faddrAV, binAV, storeAV, AV.putCells, AV.ref, if_true, if_false, Nat.reduceEqDiff, Nat.reduceAdd, Nat.reduceLT, Nat.reduceLeDiff, reduceCtorEq, ↓reduceIte, pickAV, lenAV, intAV, slcA, slcAV, iaddrAV, extAV, fldAV, eqCell, contAV, appendAV, maxI, minI, Option.some.injEq, catT, h, Int.natCast_nonneg, Int.toNat_natCast, hzi, AV.cells]
            refine hK _ _ _ nofun ?_
            clear hK K
            have hn00 : ¬ ((n : Int) = 0) := by omega
            obtain ⟨j, hj⟩ : ∃ j, j = (i + 1) % n := ⟨_, rfl⟩
            have hjn : j < n := by rw [hj]; exact Nat.mod_lt _ n0
            have w1 : IntKind.i64.wrap ((i : Int) + 1) = ((i + 1 : Nat) : Int) := wrap_nat i (by omega)
            have r1 : Int.tmod ((i + 1 : Nat) : Int) (n : Int) = (j : Int) := by rw [tmod_nat, ← hj]
            have hzj := ix_get zs (show j < zs.length by omega)
            rw [zv j hjn] at hzj
            have jn : (j : Int) < (n : Int) := by omega
            obtain ⟨a, ha⟩ : ∃ a, a = v.getD i 0 := ⟨_, rfl⟩
            obtain ⟨b, hb⟩ : ∃ b, b = v.getD j 0 := ⟨_, rfl⟩
            have am : a < l.length := by rw [ha]; exact vm i hin
            have bm : b < l.length := by rw [hb]; exact vm j hjn
            have am' : (a : Int) < (l.length : Int) := by omega
            have bm' : (b : Int) < (l.length : Int) := by omega
            have pa := get_pts (getp am)
            have pb := get_pts (getp bm)
            rw [← hb] at hzj
            rw [← ha]
            have k55 := c55' (all_ok hok am) (all_ok hok bm) hp
            have hs : sideI l p i = left (l.getD a (0, 0)) (l.getD b (0, 0)) p := by
              unfold sideI P
              rw [← hv, ← hnv, ← hj, ← ha, ← hb]
            rw [← hs] at k55
            refine CWx.r fun K hK => ?_
            simp (maxSteps := 4000000) only [amC, amX, dr3, dr4, AV.elem, AV.cells, AV.one, loadAV, faddrAV, binAV, storeAV, AV.putCells, AV.ref, if_true, if_false, Nat.reduceEqDiff, Nat.reduceAdd, Nat.reduceLT, Nat.reduceLeDiff, reduceCtorEq, ↓reduceIte, pickAV, lenAV, intAV, slcA, slcAV, iaddrAV, extAV, fldAV, eqCell, contAV, appendAV, maxI, minI, Option.some.injEq, catT, pts, w1, hn00, r1, jn, am', bm', Int.natCast_nonneg, Int.toNat_natCast, List.length_map, hzj, pa, pb, pt, AV.cells]
            refine RCx.view (fid := 55) (caps := []) rfl rfl rfl k55 rfl ?_
            simp (maxSteps := 4000000) only [amC, amX, dr3, dr4, AV.elem, AV.cells, AV.one, loadAV, faddrAV, binAV, storeAV, AV.putCells, AV.ref, if_true, if_false, Nat.reduceEqDiff, Nat.reduceAdd, Nat.reduceLT, Nat.reduceLeDiff, reduceCtorEq, ↓reduceIte, pickAV, lenAV, intAV, slcA, slcAV, iaddrAV, extAV, fldAV, eqCell, contAV, appendAV, maxI, minI, Option.some.injEq, catT]
            refine hK _ _ _ (fun _ => rfl) ?_
            clear hK K
            refine CWx.seq ?_
            by_cases h1 : sideI l p i < 0
            · refine CWx.r fun K hK => ?_
              simp (maxSteps := 4000000) only [amC, amX, dr3, dr4, AV.elem, AV.cells, AV.one, loadAV, faddrAV, binAV, storeAV, AV.putCells, AV.ref, if_true, if_false, Nat.reduceEqDiff, Nat.reduceAdd, Nat.reduceLT, Nat.reduceLeDiff, reduceCtorEq, ↓reduceIte, pickAV, lenAV, intAV, slcA, slcAV, iaddrAV, extAV, fldAV, eqCell, contAV, appendAV, maxI, minI, Option.some.injEq, catT, h1]
              refine hK _ _ _ nofun ?_
              clear hK K
              refine CWx.condT rfl ?_
              refine CWx.r fun K hK => ?_
              simp (maxSteps := 4000000) only [amC, amX, dr3, dr4, AV.elem, AV.cells, AV.one, loadAV, faddrAV, binAV, storeAV, AV.putCells, AV.ref, if_true, if_false, Nat.reduceEqDiff, Nat.reduceAdd, Nat.reduceLT, Nat.reduceLeDiff, reduceCtorEq, ↓reduceIte, pickAV, lenAV, intAV, slcA, slcAV, iaddrAV, extAV, fldAV, eqCell, contAV, appendAV, maxI, minI, Option.some.injEq, catT]
              refine hK _ _ _ nofun ?_
              clear hK K
              have hli : locI l p = -1 := by
                unfold locI
                rw [← hv, ← hnv, if_neg (by omega), if_pos]
                exact List.any_eq_true.2 ⟨i, List.mem_range.2 hin, by simpa using h1⟩
              rw [hli]
              exact CWx.ret fun al hal => finK_ext hal (finK_pure (.inr rfl) (xs := [.int .i64 (-1), .int .i64 0]) (by simp [resRV, Am.get]) rfl rfl)
            · have q : ∀ j, j < i + 1 → ¬ sideI l p j < 0 := fun j hj => by
                by_cases e : j = i
                · rw [e]; exact h1
                · exact hi.2 j (by omega)
              refine CWx.r fun K hK => ?_
              simp (maxSteps := 4000000) only [amC, amX, dr3, dr4, AV.elem, AV.cells, AV.one, loadAV, faddrAV, binAV, storeAV, AV.putCells, AV.ref, if_true, if_false, Nat.reduceEqDiff, Nat.reduceAdd, Nat.reduceLT, Nat.reduceLeDiff, reduceCtorEq, ↓reduceIte, pickAV, lenAV, intAV, slcA, slcAV, iaddrAV, extAV, fldAV, eqCell, contAV, appendAV, maxI, minI, Option.some.injEq, catT, h1]
              refine hK _ _ _ nofun ?_
              clear hK K
              refine CWx.condF rfl (CWx.skip (CWx.go ?_))
              by_cases h2 : sideI l p i = 0
              · have h2' : (sideI l p i == 0) = true := by simp [h2]
                have ho : outI l p (i + 1) = 0 := by rw [outI_succ, if_pos h2]
                refine CWx.r fun K hK => ?_
                simp (maxSteps := 4000000) only [amC, amX, dr3, dr4, AV.elem, AV.cells, AV.one, loadAV, faddrAV, binAV, storeAV, AV.putCells, AV.ref, if_true, if_false, Nat.reduceEqDiff, Nat.reduceAdd, Nat.reduceLT, Nat.reduceLeDiff, reduceCtorEq, ↓reduceIte, pickAV, lenAV, intAV, slcA, slcAV, iaddrAV, extAV, fldAV, eqCell, contAV, appendAV, maxI, minI, Option.some.injEq, catT, h2']
                refine hK _ _ _ nofun ?_
                clear hK K
                refine CWx.condT rfl ?_
                refine CWx.e fun K hK => ?_
                simp (maxSteps := 4000000) only [amC, amX, dr3, dr4, AV.elem, AV.cells, AV.one, loadAV, faddrAV, binAV, storeAV, AV.putCells, AV.ref, if_true, if_false, Nat.reduceEqDiff, Nat.reduceAdd, Nat.reduceLT, Nat.reduceLeDiff, reduceCtorEq, ↓reduceIte, pickAV, lenAV, intAV, slcA, slcAV, iaddrAV, extAV, fldAV, eqCell, contAV, appendAV, maxI, minI, Option.some.injEq, catT]
                refine hK _ _ _ nofun ?_
                clear hK K
                refine CWx.go ?_
                refine CWx.e fun K hK => ?_
                simp (maxSteps := 4000000) only [amC, amX, dr3, dr4, AV.elem, AV.cells, AV.one, loadAV, faddrAV, binAV, storeAV, AV.putCells, AV.ref, if_true, if_false, Nat.reduceEqDiff, Nat.reduceAdd, Nat.reduceLT, Nat.reduceLeDiff, reduceCtorEq, ↓reduceIte, pickAV, lenAV, intAV, slcA, slcAV, iaddrAV, extAV, fldAV, eqCell, contAV, appendAV, maxI, minI, Option.some.injEq, catT, wrap_nat i (by omega)]
                refine hK _ _ _ nofun ?_
                clear hK K
                intro al hal
                exact ⟨i + 1, by omega, ⟨by omega, q⟩, Fgt.ofx hal (Fgt.mk' 2 (by simp) (by simp [keepB, Am.get, AV.lt, ltL, lt_pts, pts, ltL_pt, ho]) rfl ⟨rfl, by simp only [Blk.lt, ltL_ix], trivial⟩)⟩
              · have h2' : (sideI l p i == 0) = false := beq_eq_false_iff_ne.2 h2
                have ho : outI l p (i + 1) = outI l p i := by rw [outI_succ, if_neg h2]
                refine CWx.r fun K hK => ?_
                simp (maxSteps := 4000000) only [amC, amX, dr3, dr4, AV.elem, AV.cells, AV.one, loadAV, faddrAV, binAV, storeAV, AV.putCells, AV.ref, if_true, if_false, Nat.reduceEqDiff, Nat.reduceAdd, Nat.reduceLT, Nat.reduceLeDiff, reduceCtorEq, ↓reduceIte, pickAV, lenAV, intAV, slcA, slcAV, iaddrAV, extAV, fldAV, eqCell, contAV, appendAV, maxI, minI, Option.some.injEq, catT, h2']
                refine hK _ _ _ nofun ?_
                clear hK K
                refine CWx.condF rfl (CWx.skip (CWx.go ?_))
                refine CWx.e fun K hK => ?_
                simp (maxSteps := 4000000) only [amC, amX, dr3, dr4, AV.elem, AV.cells, AV.one, loadAV, faddrAV, binAV, storeAV, AV.putCells, AV.ref, if_true, if_false, Nat.reduceEqDiff, Nat.reduceAdd, Nat.reduceLT, Nat.reduceLeDiff, reduceCtorEq, ↓reduceIte, pickAV, lenAV, intAV, slcA, slcAV, iaddrAV, extAV, fldAV, eqCell, contAV, appendAV, maxI, minI, Option.some.injEq, catT, wrap_nat i (by omega)]
                refine hK _ _ _ nofun ?_
                clear hK K
                intro al hal
                exact ⟨i + 1, by omega, ⟨by omega, q⟩, Fgt.ofx hal (Fgt.mk' 2 (by simp) (by simp [keepB, Am.get, AV.lt, ltL, lt_pts, pts, ltL_pt, ho]) rfl ⟨rfl, by simp only [Blk.lt, ltL_ix], trivial⟩)⟩
          · refine CWx.r fun K hK => ?_
            simp (maxSteps := 4000000) only [amC, amX, dr3, dr4, AV.elem, AV.cells, AV.one, loadAV, faddrAV, binAV, storeAV, AV.putCells, AV.ref, if_true, if_false, Nat.reduceEqDiff, Nat.reduceAdd, Nat.reduceLT, Nat.reduceLeDiff, reduceCtorEq, ↓reduceIte, pickAV, lenAV, intAV, slcA, slcAV, iaddrAV, extAV, fldAV, eqCell, contAV, appendAV, maxI, minI, Option.some.injEq, catT, h]
            refine hK _ _ _ nofun ?_
            clear hK K
            refine CWx.seq ?_
            refine CWx.condF rfl (CWx.exit (CWx.go ?_))
            refine CWx.r fun K hK => ?_
            simp (maxSteps := 4000000) only [amC, amX, dr3, dr4, AV.elem, AV.cells, AV.one, loadAV, faddrAV, binAV, storeAV, AV.putCells, AV.ref, if_true, if_false, Nat.reduceEqDiff, Nat.reduceAdd, Nat.reduceLT, Nat.reduceLeDiff, reduceCtorEq, ↓reduceIte, pickAV, lenAV, intAV, slcA, slcAV, iaddrAV, extAV, fldAV, eqCell, contAV, appendAV, maxI, minI, Option.some.injEq, catT]
            refine hK _ _ _ nofun ?_
            clear hK K
            have hin : i = n := by omega
            have hli : locI l p = outI l p i := by
              unfold locI
              rw [← hv, ← hnv, if_neg (by omega), if_neg, hin]
              intro ha
              obtain ⟨j, hj, hj2⟩ := List.any_eq_true.1 ha
              exact hi.2 j (by have := List.mem_range.1 hj; omega) (by simpa using hj2)
            rw [hli]
            exact CWx.ret fun al hal => finK_ext hal (finK_pure (.inr rfl) (xs := [.int .i64 (outI l p i), .int .i64 0]) (by simp [resRV, Am.get]) rfl rfl)
    · simp (maxSteps := 4000000) only [amC, amX, dr3, dr4, AV.elem, AV.cells, AV.one, loadAV, faddrAV, binAV, storeAV, AV.putCells, AV.ref, if_true, if_false, Nat.reduceEqDiff, Nat.reduceAdd, Nat.reduceLT, Nat.reduceLeDiff, reduceCtorEq, ↓reduceIte, pickAV, lenAV, intAV, slcA, slcAV, iaddrAV, extAV, fldAV, eqCell, contAV, appendAV, maxI, minI, Option.some.injEq, catT, hp]
      refine hK _ _ _ nofun ?_
      clear hK K
      refine CWx.condT rfl ?_
      refine CWx.r fun K hK => ?_
      simp (maxSteps := 4000000) only [amC, amX, dr3, dr4, AV.elem, AV.cells, AV.one, loadAV, faddrAV, binAV, storeAV, AV.putCells, AV.ref, if_true, if_false, Nat.reduceEqDiff, Nat.reduceAdd, Nat.reduceLT, Nat.reduceLeDiff, reduceCtorEq, ↓reduceIte, pickAV, lenAV, intAV, slcA, slcAV, iaddrAV, extAV, fldAV, eqCell, contAV, appendAV, maxI, minI, Option.some.injEq, catT]
      refine hK _ _ _ nofun ?_
      clear hK K
      have hp' : okP p = false := by simpa using hp
      have hr : locR l p = (0, 2) := by unfold locR; rw [if_neg (by simp [hc]), if_pos hp']
      rw [hr]
      exact CWx.ret fun al hal => finK_ext hal (finK_pure (.inr rfl) (xs := [.int .i64 0, .int .i64 2]) (by simp [resRV, Am.get]) rfl rfl)
  · have hc' : (chk l != 0) = true := by simpa using hc
    simp (maxSteps := 4000000) only [amC, amX, dr3, dr4, AV.elem, AV.cells, AV.one, loadAV, faddrAV, binAV, storeAV, AV.putCells, AV.ref, if_true, if_false, Nat.reduceEqDiff, Nat.reduceAdd, Nat.reduceLT, Nat.reduceLeDiff, reduceCtorEq, ↓reduceIte, pickAV, lenAV, intAV, slcA, slcAV, iaddrAV, extAV, fldAV, eqCell, contAV, appendAV, maxI, minI, Option.some.injEq, catT]
    refine hK _ _ _ nofun ?_
    clear hK K
    refine CWx.r fun K hK => ?_
    simp (maxSteps := 4000000) only [amC, amX, dr3, dr4, AV.elem, AV.cells, AV.one, loadAV, faddrAV, binAV, storeAV, AV.putCells, AV.ref, if_true, if_false, Nat.reduceEqDiff, Nat.reduceAdd, Nat.reduceLT, Nat.reduceLeDiff, reduceCtorEq, ↓reduceIte, pickAV, lenAV, intAV, slcA, slcAV, iaddrAV, extAV, fldAV, eqCell, contAV, appendAV, maxI, minI, Option.some.injEq, catT, hc']
    refine hK _ _ _ nofun ?_
    clear hK K
    refine CWx.condT rfl ?_
    refine CWx.r fun K hK => ?_
    simp (maxSteps := 4000000) only [amC, amX, dr3, dr4, AV.elem, AV.cells, AV.one, loadAV, faddrAV, binAV, storeAV, AV.putCells, AV.ref, if_true, if_false, Nat.reduceEqDiff, Nat.reduceAdd, Nat.reduceLT, Nat.reduceLeDiff, reduceCtorEq, ↓reduceIte, pickAV, lenAV, intAV, slcA, slcAV, iaddrAV, extAV, fldAV, eqCell, contAV, appendAV, maxI, minI, Option.some.injEq, catT]
    refine hK _ _ _ nofun ?_
    clear hK K
    have hr : locR l p = (0, chk l) := by unfold locR; rw [if_pos hc]
    rw [hr]
    exact CWx.ret fun al hal => finK_ext hal (finK_pure (.inr rfl) (xs := [.int .i64 0, .int .i64 (chk l)]) (by simp [resRV, Am.get]) rfl rfl)
end Go.Hull
end
section
set_option linter.unusedSimpArgs false
set_option linter.unusedVariables false
set_option maxHeartbeats 4000000
namespace Go.Hull
open Go Go.Am Go.Proofs

theorem viewG_ixT {hl : List Blk} {b g k : Nat} {nil frz : Bool} {xs v : List Nat} (hb : hget hl b = .row nil g frz 1 (ix xs)) (hv : xs.take k = v) (h : k ≤ xs.length) : viewG hl 6 (.sl b g 0 k) = some (ixV v, [b]) := by
  have := viewG_ix (i := 0) (k := k) hb (by omega)
  rw [List.drop_zero, hv] at this
  exact this
theorem viewG_ptsL {hl : List Blk} {b g k : Nat} {nil frz : Bool} {xs : List Pt} (hb : hget hl b = .row nil g frz 2 (xs.map pt)) (h : k = xs.length) : viewG hl 6 (.sl b g 0 k) = some (pts xs, [b]) := by
  have := viewG_pts (i := 0) (k := k) hb (by omega)
  rw [List.drop_zero, List.take_of_length_le (by omega)] at this
  exact this
theorem ltL_append (m : Nat) (a b : List AV) : ltL m (a ++ b) = (ltL m a && ltL m b) := by
  induction a with
  | nil => rfl
  | cons x a ih => simp only [List.cons_append, ltL, ih, Bool.and_assoc]
theorem flat_sv (vol : Bool) (v : List Nat) : flatN true 5 (.sv vol 1 (ix v)) = true := by
  simp only [flatN]
  induction v with
  | nil => rfl
  | cons n v ih => exact ih
theorem len_pts (l : List Pt) : lenAV (pts l) = some (.int .i64 (l.length : Int)) := by simp [pts, lenAV]
theorem ia_pts (h : Nat → Blk) (l : List Pt) (k : Int) (hk : 0 ≤ k ∧ k < (l.length : Int)) : iaddrAV h 2 k (pts l) = some (.rp false [.int .i64 (P l k.toNat).1, .int .i64 (P l k.toNat).2]) := by
  have h1 : k.toNat < l.length := by omega
  simp only [pts, iaddrAV, List.length_map, true_and, if_pos hk, get_pts (getp h1), Option.map_some, AV.cells, pt, P]
theorem ia_ptsD (h : Nat → Blk) (l : List Pt) (n : Nat) (k : Int) (hk : 0 ≤ k ∧ k < ((l.length - n : Nat) : Int)) : iaddrAV h 2 k (pts (l.drop n)) = some (.rp false [.int .i64 (P l (n + k.toNat)).1, .int .i64 (P l (n + k.toNat)).2]) := by
  rw [ia_pts h (l.drop n) k ⟨hk.1, by rw [List.length_drop]; exact hk.2⟩]
  simp only [P, List.getD_eq_getElem?_getD, List.getElem?_drop]
theorem cells_pt (p : Pt) : (pt p).cells = [.int .i64 p.1, .int .i64 p.2] := rfl
theorem ref_pts (l : List Pt) : (pts l).ref = [] := rfl
theorem ref_pt (p : Pt) : (pt p).ref = [] := rfl
theorem ref_ixV (v : List Nat) : (ixV v).ref = [] := rfl
theorem cont_ixV (h : Nat → Blk) (v : List Nat) : contAV h 1 (ixV v) = some (ix v) := rfl
theorem cont_pts (h : Nat → Blk) (l : List Pt) : contAV h 2 (pts l) = some (l.map pt) := rfl
theorem eqvA_pt (neg : Bool) (p q : Pt) : eqvA neg true [.i, .i] (pt p) (pt q) = some { v := .bool (if neg then !(decide (p = q)) else decide (p = q)) } := by
  have h : (p.1 == q.1 && (p.2 == q.2 && true)) = decide (p = q) := by
    obtain ⟨a, b⟩ := p
    obtain ⟨c, d⟩ := q
    simp [Prod.mk.injEq, ← Bool.decide_and]
    by_cases h1 : a = c <;> by_cases h2 : b = d <;> simp [h1, h2]
  simp only [eqvA, pt, eqCells, eqCell, if_true, Option.map_some]
  rw [h]
theorem put_pt (p : Pt) (a b : Int) : (pt p).putCells 0 [.int .i64 a, .int .i64 b] = pt (a, b) := rfl
theorem put_pt0 (p : Pt) (a : Int) : (pt p).putCells 0 [.int .i64 a] = pt (a, p.2) := rfl
theorem put_pt1 (p : Pt) (a : Int) : (pt p).putCells 1 [.int .i64 a] = pt (p.1, a) := rfl
theorem elem_pt (p : Pt) : (pt p).elem = true := rfl
theorem pair_eta (p : Pt) : (p.1, p.2) = p := rfl
theorem fold_pt2 (a b : Int) : AV.agg [.int .i64 a, .int .i64 b] = pt (a, b) := rfl
theorem elem_pts (l : List Pt) : (pts l).elem = true := rfl
theorem cells_pts (l : List Pt) : (pts l).cells = [pts l] := rfl
theorem elem_ixV (l : List Nat) : (ixV l).elem = true := rfl
theorem cells_ixV (l : List Nat) : (ixV l).cells = [ixV l] := rfl
theorem len_ixV (v : List Nat) : lenAV (ixV v) = some (.int .i64 (v.length : Int)) := by simp [ixV, lenAV, ix_length]
theorem ia_ixV (h : Nat → Blk) (v : List Nat) (k : Int) (hk : 0 ≤ k ∧ k < (v.length : Int)) : iaddrAV h 1 k (ixV v) = some (.rp false [.int .i64 ((v.getD k.toNat 0 : Nat) : Int)]) := by
  have h1 : k.toNat < v.length := by omega
  simp only [ixV, iaddrAV, ix_length, true_and, if_pos hk, ix_get v h1, Option.map_some, AV.cells, pt, P]
theorem ixg (v : List Nat) (k : Nat) (h : k < v.length) : (ix v)[k]? = some (.int .i64 ((v.getD k 0 : Nat) : Int)) := ix_get v h
theorem ptsg (l : List Pt) (k : Nat) (h : k < l.length) : (l.map pt)[k]? = some (pt (P l k)) := get_pts (getp h)
theorem one_ix (n : Nat) : AV.one (.int .i64 (n : Int)) = true := rfl
theorem ix_nil : ix [] = [] := rfl
theorem ix_snoc (xs : List Nat) (n : Nat) : ix xs ++ [AV.int .i64 (n : Int)] = ix (xs ++ [n]) := by simp [ix]
theorem pts_snoc (l : List Pt) (p : Pt) : l.map pt ++ [pt p] = (l ++ [p]).map pt := by simp
theorem slc_ixV (h : List Blk) (v : List Nat) (a : Nat) (ha : a ≤ v.length) : slcA h 1 (some (a : Int)) none (ixV v) = some ⟨ixV (v.drop a), []⟩ := by
  simp only [slcA, ixV, slcAV, if_true, Option.getD_some, Option.getD_none, ix_length]
  rw [if_pos (by omega)]
  simp only [Option.map_some, Int.toNat_natCast, ix_drop, ix_take]
  rw [List.take_of_length_le (by simp)]
theorem slc_pts (h : List Blk) (v : List Pt) (a : Nat) (ha : a ≤ v.length) : slcA h 2 (some (a : Int)) none (pts v) = some ⟨pts (v.drop a), []⟩ := by
  simp only [slcA, pts, slcAV, if_true, Option.getD_some, Option.getD_none, List.length_map]
  rw [if_pos (by omega)]
  simp only [Option.map_some, Int.toNat_natCast]
  rw [← List.map_drop, List.take_of_length_le (by simp; try omega)]
theorem map_take' {α β : Type} (f : α → β) (l : List α) (n : Nat) : (l.map f).take n = (l.take n).map f := List.map_take.symm
theorem map_drop' {α β : Type} (f : α → β) (l : List α) (n : Nat) : (l.map f).drop n = (l.drop n).map f := List.map_drop.symm
set_option linter.defProp false
def enc0 := And.intro @put_pt (And.intro @put_pt0 (And.intro @put_pt1 (And.intro @ref_pts (And.intro @ref_pt (And.intro @ref_ixV (And.intro @eqvA_pt (And.intro @cont_ixV (And.intro @cont_pts (And.intro @len_pts (And.intro @ia_ptsD (And.intro @ia_pts (And.intro @cells_pt (And.intro @elem_pt (And.intro @fold_pt2 (And.intro @pair_eta (And.intro @len_ixV (And.intro @ia_ixV (And.intro @ix_length (And.intro @ix_append (And.intro @ix_take (And.intro @ix_drop (And.intro @wr62 (And.intro @natAdd1 (And.intro @natAddN (And.intro @natSub1 (And.intro @natSubN (And.intro @tmodN (And.intro @tdivN (And.intro @toNat_cast (And.intro @Int.toNat_zero (And.intro @Int.natCast_nonneg (And.intro @ixg (And.intro @ptsg (And.intro @appB (And.intro @List.isEmpty_nil.{0} (And.intro @List.isEmpty_cons.{0} (And.intro @elem_pts (And.intro @cells_pts (And.intro @elem_ixV (And.intro @cells_ixV (And.intro @Bool.or_self (And.intro @Bool.false_or (And.intro @Bool.or_false (And.intro @or_true (And.intro @true_or (And.intro @Bool.false_and (And.intro @not_true_eq_false (And.intro @not_false_eq_true (And.intro @one_ix (And.intro @gX_tt (And.intro @gX_ff (And.intro @gX_tf (And.intro @gX_ft (And.intro @beq_self_eq_true.{0} (And.intro @all_ix (And.intro @ix_snoc (And.intro @pts_snoc (And.intro @bne_self_eq_false.{0} (@List.take_take.{0})))))))))))))))))))))))))))))))))))))))))))))))))))))))))))
def enc1 := And.intro @Nat.min_self (And.intro @List.length_map.{0,0} (And.intro @List.length_take.{0} (And.intro @slc_ixV (And.intro @slc_pts (And.intro @map_take' (@map_drop'))))))
def topN (l : List Pt) (d : Pt) : Nat → Int
  | 0 => dot (P l 0) d
  | i + 1 => maxI (topN l d i) (dot (P l i) d)
theorem ok_small {p : Pt} (h : okP p = true) : smallV p := by
  obtain ⟨⟨a, b⟩, c, d⟩ := okP_iff.1 h
  exact ⟨⟨by omega, by omega⟩, by omega, by omega⟩
theorem c61 (l : List Pt) (d : Pt) (hl : 0 < l.length) (hn : l.length < 4611686018427387904) (hs : ∀ p ∈ l, smallV p) (hd : smallV d) :
    CallsF Try.prog 61 [pts l, pt d] [] (.int .i64 (topN l d l.length)) [] := by
  have hsm : ∀ k, k < l.length → smallV (P l k) := fun k hk => hs _ (P_mem hk)
  refine callsF_cwx hm hf61 (by simp [cf61]) ?_
  simp only [cf61, argsAl]
  repeat' first
    | (refine hK _ _ _ (by first | exact fun h => Bool.noConfusion h | exact fun _ => rfl) ?_; clear hK K)
    | (refine CWx.r fun K hK => ?_; simp (maxSteps := 4000000) (disch := omega) only [dr0, dr1, dr2, dr3, dr4, if_true, if_false, Option.some.injEq, Nat.reduceEqDiff, Int.reduceToNat, Nat.reduceSub, Nat.reduceAdd, Nat.reduceMul, Nat.reduceLT, Nat.reduceLeDiff, reduceCtorEq, ↓reduceIte, catT, enc0, enc1, if_pos, if_neg])
    | refine CWx.go ?_
    | (apply RCx.view (fid := 56) (caps := []) rfl rfl; (focus ((simp only [evsA, evA_t, evA_c, Am.get, Nat.reduceEqDiff, ↓reduceIte, List.nil_append, List.cons_append, List.append_nil]; repeat' first | exact viewArgs_nil | apply viewArgs_cons | exact viewG_flat (flat_pts _ _) _ | exact viewG_flat (flat_ixV _ _) _ | exact viewG_flat (flat_sv _ _) _ | exact viewG_ixT rfl (by assumption) (by omega) | exact viewG_ptsL rfl (by first | omega | (simp; done) | (simp; omega)) | exact viewG_ix rfl (by first | omega | (simp; omega)) | exact viewG_flat rfl _; done))); (focus (refine c56' (hsm _ ?_) hd <;> first | omega | assumption)); (focus rfl); simp (maxSteps := 4000000) (disch := omega) only [dr0, dr1, dr2, dr3, dr4, if_true, if_false, Option.some.injEq, Nat.reduceEqDiff, Int.reduceToNat, Nat.reduceSub, Nat.reduceAdd, Nat.reduceMul, Nat.reduceLT, Nat.reduceLeDiff, reduceCtorEq, ↓reduceIte, catT, enc0, enc1, if_pos, if_neg])
    | (refine gX_split (fun hb => ?_) (fun hb => ?_) <;> (try simp only [hb]) <;> (try simp only [bset0, reduceCtorEq] at hb) <;> simp (maxSteps := 4000000) (disch := omega) only [dr0, dr1, dr2, dr3, dr4, if_true, if_false, Option.some.injEq, Nat.reduceEqDiff, Int.reduceToNat, Nat.reduceSub, Nat.reduceAdd, Nat.reduceMul, Nat.reduceLT, Nat.reduceLeDiff, reduceCtorEq, ↓reduceIte, catT, enc0, enc1, if_pos, if_neg])
    | (refine CWx.br rfl (fun hb => ?_) (fun hb => ?_) <;> first | exact Bool.noConfusion hb | (first | (simp only [bset0, reduceCtorEq] at hb; done) | ((try simp only [bset0, reduceCtorEq] at hb); first | contradiction | skip)))
    | (refine CWx.e fun K hK => ?_; simp (maxSteps := 4000000) (disch := omega) only [dr0, dr1, dr2, dr3, dr4, if_true, if_false, Option.some.injEq, Nat.reduceEqDiff, Int.reduceToNat, Nat.reduceSub, Nat.reduceAdd, Nat.reduceMul, Nat.reduceLT, Nat.reduceLeDiff, reduceCtorEq, ↓reduceIte, catT, enc0, enc1, if_pos, if_neg])
    | (refine CWx.block (id := 0) ?_; refine CWx.loopK (ι := Nat) [3, 13, 14] (fun i => l.length - i) (fun i => [(15, .int .i64 (i : Int)), (5, .int .i64 (topN l d i))]) (fun i => [.row false 0 false 2 [pt d]]) (fun i => i ≤ l.length) (fun i => by simp only [keepA, Am.get, List.cons_append, List.nil_append, Nat.reduceEqDiff, ↓reduceIte]; exact rfl) (0) ?_ ?_ (fun i hi => ?_); (focus ((try dsimp only) <;> (first | trivial | omega | (refine ⟨?_, ?_⟩ <;> first | omega | trivial | simp_all) | simp_all); done)); (focus (refine Fgt.mk' 1 (by simp) ?_ ?_ ?_ <;> simp [-List.map_take, -List.map_map, AV.isY, ltL_append, ix_nil, keepB, Am.get, AV.lt, ltL, lt_pts, lt_pt, lt_ixV, ltL_ix, ltL_pt, Blk.lt, ltB, topN]; done)); have Hi := hi; (skip))
    | refine CWx.seq ?_
    | refine CWx.block (id := 1) ?_
    | refine CWx.skip ?_
    | refine CWx.exit ?_
    | (refine CWx.ret fun al hal => finK_ext hal (finK_pure (.inr rfl) (by simp only [resRV, Am.get, Nat.reduceEqDiff, ↓reduceIte]; exact rfl) ?_ ?_); (focus (first | (rfl; done) | ((simp only [tupAV]; congr <;> omega); done) | (simp [tupAV, *]; done))); (focus (first | rfl | (simp [AV.allR, allRL, allRL_ix]; done))))
    | (intro al hal; refine ⟨i + 1, ?_, ?_, Fgt.ofx hal ?_⟩; (focus (first | omega | (dsimp only; omega))); (focus ((try dsimp only) <;> (first | trivial | omega | (refine ⟨?_, ?_⟩ <;> first | omega | trivial | simp_all) | simp_all); done)); (focus (refine Fgt.mk' 1 (by simp) ?_ ?_ ?_ <;> simp [-List.map_take, -List.map_map, AV.isY, ltL_append, ix_nil, keepB, Am.get, AV.lt, ltL, lt_pts, lt_pt, lt_ixV, ltL_ix, ltL_pt, Blk.lt, ltB, topN, topN]; done)))
theorem hullI_nil : hullI [] = [] := rfl
theorem hull_mem {l : List Pt} : ∀ x ∈ hullI l, x < l.length := by
  by_cases hl : 0 < l.length
  · exact (hullT l hl).mem
  · obtain rfl : l = [] := List.eq_nil_of_length_eq_zero (by omega)
    intro x hx; rw [hullI_nil] at hx; cases hx
theorem hull_le {l : List Pt} : (hullI l).length ≤ l.length := by
  by_cases hl : 0 < l.length
  · exact (hullT l hl).le
  · obtain rfl : l = [] := List.eq_nil_of_length_eq_zero (by omega)
    exact Nat.le_refl _
theorem chk_ok {l : List Pt} (h : chk l = 0) : l.all okP = true := by
  unfold chk at h
  split at h
  · cases h
  · by_cases h' : l.all okP = true
    · exact h'
    · rw [if_neg h'] at h; cases h
theorem ok_P {l : List Pt} (h : l.all okP = true) : ∀ k, k < l.length → okP (P l k) = true := fun k hk => all_ok h hk
theorem ren_row_ix (σ : Nat → Nat) (n f : Bool) (g s : Nat) (zs : List Nat) : (Blk.row n g f s (ix zs)).ren σ = .row n g f s (ix zs) := by simp only [Blk.ren, renL_id (ix zs) (ltL_ix _ _)]
theorem clean_ix (n f : Bool) (g s : Nat) (zs : List Nat) : (Blk.row n g f s (ix zs)).clean = true := by simp only [Blk.clean, cleanL_ix]
theorem allUp {A : Nat → Prop} {i : Nat} (h : ∀ j, j < i → A j) (hi : A i) : ∀ j, j < i + 1 → A j := fun j hj => by
  by_cases e : j = i
  · rw [e]; exact hi
  · exact h j (by omega)
end Go.Hull
end
section
set_option linter.unusedSimpArgs false
set_option linter.unusedVariables false
set_option linter.defProp false
namespace Go.Am
open Go Go.RowKit

abbrev KY := List (Nat × AV) → List Blk → Option Exit → Prop
structure YCx (P : Program) (Y : Hdl) (f : Opd) (xs : List Opd) (dst : Option Nat) (bef : Nat) (l : List (Nat × AV)) (hl : List Blk) (st : Option Exit) (next : KY) : Prop where
  run : (evA l f = .yld ∧ st = none ∧ Y (evsA l xs) hl (fun res hl' => next (consO l dst (.bool res.isNone)) hl' res)) ∨ RCx P f xs dst bef l hl [] fun l hl _ => next l hl st
def RunYX (P : Program) (Y : Hdl) : List COp → List (Nat × AV) → List Blk → Option Exit → KY → Prop
  | [], l, hl, st, K => K l hl st
  | c :: cs, l, hl, st, K => match wantedA l c.guard with
    | none => False
    | some false => RunYX P Y cs (consO l c.dst (.tup [])) hl st K
    | some true => match c.op with
      | .call f xs => YCx P Y f xs c.dst c.bef l hl st fun l hl st => RunYX P Y cs l hl st K
      | op => match aopA op l hl with
        | none => False
        | some r => RunYX P Y cs (consO l c.dst r.v) (hsetL hl r.ups) st K
structure RYX (P : Program) (Y : Hdl) (ops : List COp) (l : List (Nat × AV)) (hl : List Blk) (st : Option Exit) (K : KY) : Prop where
  run : RunYX P Y ops l hl st K
theorem RunYX.sound {P : Program} {Y : Hdl} (hY : Y.Mono) : ∀ (cs : List COp) (l : List (Nat × AV)) (hl : List Blk) (st : Option Exit) (K : KY), RunYX P Y cs l hl st K → ∀ al, get al = get l → RunY P Y cs al hl st fun s' st' => ∃ l', get s'.al = get l' ∧ K l' s'.hl st' := by
  intro cs
  induction cs with
  | nil => intro l hl st K h al hal; exact ⟨l, hal, h⟩
  | cons c cs ih =>
    intro l hl st K h al hal
    obtain ⟨op, dst, guard, bef⟩ := c
    have key : ∀ b, wantedA l guard = some b → wantedAV (get al) guard = some b := fun b hb => by
      unfold wantedA at hb
      unfold wantedAV
      cases guard with
      | none => exact hb
      | some q => obtain ⟨d, w⟩ := q; simp only [hal]; exact hb
    simp only [RunYX] at h
    simp only [RunY]
    cases hw : wantedA l guard with
    | none => rw [hw] at h; exact h.elim
    | some b =>
      rw [hw] at h
      rw [key b hw]
      cases b with
      | false => exact ih _ _ _ _ h _ (get_consO hal dst _)
      | true =>
        cases hc : isCall op with
        | true =>
          obtain ⟨f, xs, rfl⟩ : ∃ f xs, op = .call f xs := by cases op <;> first | (cases hc; done) | exact ⟨_, _, rfl⟩
          rcases h.run with ⟨h1, h2, h3⟩ | h1
          · refine .inl ⟨by rw [hal, evA_eq]; exact h1, h2, ?_⟩
            have : xs.map (·.ev (get al)) = evsA l xs := by rw [hal]; exact evsA_eq l xs
            simp only [this]
            exact hY _ _ _ _ (fun r hl' h4 => ih _ _ _ _ h4 _ (get_consO hal dst _)) h3
          · obtain ⟨fid, caps, T, r, W, h1, h2, h3, h4⟩ := h1.run
            exact .inr ⟨fid, caps, T, r, W, by rw [hal]; exact h1, by rw [hal]; exact h2, h3, ih _ _ _ _ h4 _ (get_consO hal dst r)⟩
        | false =>
          have h' : (match aopA op l hl with
            | none => False
            | some r => RunYX P Y cs (consO l dst r.v) (hsetL hl r.ups) st K) := by
            cases op <;> first | (cases hc; done) | exact h
          have e : aop op (get al) (hget hl) hl.length = aopA op l hl := by unfold aopA; rw [hal]
          have goal : (match aop op (get al) (hget hl) hl.length with
            | none => False
            | some r => RunY P Y cs (setO al dst r.v) (hsetL hl r.ups) st fun s' st' => ∃ l', get s'.al = get l' ∧ K l' s'.hl st') := by
            rw [e]
            cases hr : aopA op l hl with
            | none => rw [hr] at h'; exact h'.elim
            | some r => rw [hr] at h'; exact ih _ _ _ _ h' _ (get_consO hal dst r.v)
          cases op <;> first | (cases hc; done) | exact goal
structure CY (P : Program) (m0 : Nat) (Y : Hdl) (c : CCode) (s : St) (st : Option Exit) (K : Exit → St → Option Exit → Prop) : Prop where
  run : Y.Mono → YWp P m0 Y c s st K
structure CYx (P : Program) (m0 : Nat) (Y : Hdl) (c : CCode) (l : List (Nat × AV)) (hl : List Blk) (st : Option Exit) (K : Exit → St → Option Exit → Prop) : Prop where
  run : ∀ al, get al = get l → CY P m0 Y c ⟨al, hl⟩ st K
section
variable {P : Program} {m0 : Nat} {Y : Hdl} {K : Exit → St → Option Exit → Prop} {st : Option Exit}
theorem CY.seq {x y : CCode} {s : St} (h : CY P m0 Y x s st (ythenK K fun s' st' => CY P m0 Y y s' st' K)) : CY P m0 Y (.seq x y) s st K :=
  ⟨fun hY => YWp.mono hY x s st (fun e s' t h => by cases e <;> first | exact CY.run h hY | exact h) (h.run hY)⟩
theorem CYx.seq {x y : CCode} {l : List (Nat × AV)} {hl : List Blk} (h : CYx P m0 Y x l hl st (ythenK K fun s' st' => CY P m0 Y y s' st' K)) : CYx P m0 Y (.seq x y) l hl st K := ⟨fun al hal => CY.seq (h.run al hal)⟩
theorem CYx.block {id : Nat} {c : CCode} {l : List (Nat × AV)} {hl : List Blk} (h : CYx P m0 Y c l hl st (yblockK id K)) : CYx P m0 Y (.block id c) l hl st K := ⟨fun al hal => ⟨fun hY => (h.run al hal).run hY⟩⟩
theorem CYx.skip {l : List (Nat × AV)} {hl : List Blk} (h : ∀ al, get al = get l → K .normal ⟨al, hl⟩ st) : CYx P m0 Y .skip l hl st K := ⟨fun al hal => ⟨fun _ => h al hal⟩⟩
theorem CYx.exit {id : Nat} {l : List (Nat × AV)} {hl : List Blk} (h : ∀ al, get al = get l → K (.exit id) ⟨al, hl⟩ st) : CYx P m0 Y (.exit id) l hl st K := ⟨fun al hal => ⟨fun _ => h al hal⟩⟩
theorem CYx.ret {l : List (Nat × AV)} {hl : List Blk} (h : ∀ al, get al = get l → K .ret ⟨al, hl⟩ st) : CYx P m0 Y .ret l hl st K := ⟨fun al hal => ⟨fun _ => h al hal⟩⟩
theorem CYx.go {y : CCode} {l : List (Nat × AV)} {hl : List Blk} (h : CYx P m0 Y y l hl st K) : ∀ al, get al = get l → CY P m0 Y y ⟨al, hl⟩ st K := fun al hal => h.run al hal
theorem CYx.br {c : Opd} {x y : CCode} {l : List (Nat × AV)} {hl : List Blk} {b : Bool} (hc : evA l c = .bool b) (h1 : b = true → CYx P m0 Y x l hl st K) (h2 : b = false → CYx P m0 Y y l hl st K) : CYx P m0 Y (.cond c x y) l hl st K := ⟨fun al hal => ⟨fun hY => by
  have e : c.ev (get al) = .bool b := by rw [hal, evA_eq]; exact hc
  cases b with
  | true => simp only [YWp, e]; exact ((h1 rfl).run al hal).run hY
  | false => simp only [YWp, e]; exact ((h2 rfl).run al hal).run hY⟩⟩
theorem CYx.r {ops : List COp} {y : CCode} {l : List (Nat × AV)} {hl : List Blk} (h : ∀ K' : KY, (∀ l hl st, CYx P m0 Y y l hl st K → K' l hl st) → RYX P Y ops l hl st K') : CYx P m0 Y (.seq (.region false ops) y) l hl st K := ⟨fun al hal => ⟨fun hY => by
  have := RunYX.sound hY _ _ _ _ _ (h (fun l hl st => CYx P m0 Y y l hl st K) (fun l hl st h => h)).run al hal
  simp only [YWp, Bool.false_eq_true, if_false]
  exact RunY.mono hY _ _ _ _ (fun s t ⟨l', e, h1⟩ => (h1.run s.al e).run hY) this⟩⟩
theorem CYx.e {ops : List COp} {l : List (Nat × AV)} {hl : List Blk} (h : ∀ K' : KY, (∀ l hl st, (∀ al, get al = get l → K .normal ⟨al, hl⟩ st) → K' l hl st) → RYX P Y ops l hl st K') : CYx P m0 Y (.region false ops) l hl st K := ⟨fun al hal => ⟨fun hY => by
  have := RunYX.sound hY _ _ _ _ _ (h (fun l hl st => ∀ al, get al = get l → K .normal ⟨al, hl⟩ st) (fun l hl st h => h)).run al hal
  simp only [YWp, Bool.false_eq_true, if_false]
  exact RunY.mono hY _ _ _ _ (fun s t ⟨l', e, h1⟩ => h1 s.al e) this⟩⟩
/-- A loop in an iterator; what was yielded hasn't ended the loop outside. -/
theorem CYx.loopK {ι : Type} {c : CCode} {l : List (Nat × AV)} {hl : List Blk} (ks : List Nat) (μ : ι → Nat) (f : ι → List (Nat × AV)) (g : ι → List Blk) (Q : ι → Prop) {L : ι → List (Nat × AV)} (hL : ∀ i, f i ++ keepA l ks = L i)
    (i0 : ι) (hq : Q i0) (hs : Fgt m0 ⟨l, hl⟩ ⟨L i0, g i0⟩)
    (h : ∀ i, Q i → CYx P m0 Y c (L i) (g i) none (ythenK K fun s' st' => st' = none ∧ ∃ j, μ j < μ i ∧ Q j ∧ Fgt m0 s' ⟨L j, g j⟩)) : CYx P m0 Y (.loop c) l hl none K := ⟨fun al hal => ⟨fun hY => by
  intro X hX
  have hstep : ∀ i, Q i → (∀ j, μ j < μ i → Q j → ∀ s, Fgt m0 s ⟨L j, g j⟩ → X s none) → ∀ s, Fgt m0 s ⟨L i, g i⟩ → X s none := by
    intro i hq ih s hs
    obtain ⟨m, h0, h1, h2, h3⟩ := hs.ex
    refine hX s none (.inl ⟨m, L i, ⟨h0, h1, by rw [← h2]; exact h3⟩, ?_⟩)
    rw [← h2]
    refine YWp.mono hY _ _ _ (fun e s' t he => ?_) (((h i hq).run (L i) rfl).run hY)
    cases e <;> first | (obtain ⟨rfl, j, hj, hqj, hf⟩ := he; exact ih j hj hqj s' hf) | exact he
  have key : ∀ n i, μ i < n → Q i → ∀ s, Fgt m0 s ⟨L i, g i⟩ → X s none := by
    intro n
    induction n with
    | zero => intro i hi; omega
    | succ n ih => intro i hi hq s hs; exact hstep i hq (fun j hj hqj => ih j (by omega) hqj) s hs
  exact key (μ i0 + 1) i0 (Nat.lt_succ_self _) hq _ (Fgt.ofx hal hs)⟩⟩
end

section
variable {P : Program} {m0 : Nat} {K : Exit → St → Prop}
/-- The loop outside. -/
theorem CWx.range {f : Opd} {ps : List Nat} {x y : CCode} {l : List (Nat × AV)} {hl : List Blk} {fid : FuncId} {caps : List AV} {F : CFn} (hf : evA l f = .clo fid caps) (hF : compF P fid = some F) (hn : caps.length + 1 ≤ F.n)
    (h : ∀ al, get al = get l → ∀ Y, Y = Yh P al ps x y → CYx P hl.length Y F.code (argsAl 0 (.yld :: caps)) hl none (rangeK F.rvs hl.length al K)) : CWx P m0 true (.rangeF f ps x y) l hl K := ⟨fun al hal => ⟨by
  refine ⟨rfl, fid, caps, F, by rw [hal, evA_eq]; exact hf, hF, hn, ?_⟩
  exact ((h al hal _ rfl).run _ rfl).run (Yh.mono P al ps x y)⟩⟩
/-- A round of it. -/
theorem YCx.yield {al l0 : List (Nat × AV)} {ps : List Nat} {x y : CCode} {f : Opd} {xs : List Opd} {dst : Option Nat} {bef : Nat} {l : List (Nat × AV)} {hl : List Blk} {next : KY} (hal : get al = get l0) (hf : evA l f = .yld) {vs : List AV} (hv : evsA l xs = vs) (hlen : vs.length = ps.length)
    (h : CWx P hl.length false x (setPs l0 ps vs) hl fun e s1 => e = .normal ∧ CW P s1.hl.length false y s1 (bodyK fun res hl' => next (consO l dst (.bool res.isNone)) hl' res)) : YCx P (Yh P al ps x y) f xs dst bef l hl none next := ⟨.inl ⟨hf, rfl, by
  rw [hv]
  have hs : ∀ (ps : List Nat) (vs : List AV) (a b : List (Nat × AV)), get a = get b → get (setPs a ps vs) = get (setPs b ps vs) := by
    intro ps
    induction ps with
    | nil => intro vs a b h; exact h
    | cons p ps ih =>
      intro vs a b h
      cases vs with
      | nil => exact h
      | cons v vs => exact ih vs _ _ (by rw [get_set, get_set, h])
  refine ⟨hlen, CWp.mono _ _ _ _ (fun e s1 hh => ⟨hh.1, hh.2.run⟩) (h.run _ (hs ps vs al l0 hal)).run⟩⟩⟩
theorem YCx.call {Y : Hdl} {f : Opd} {xs : List Opd} {dst : Option Nat} {bef : Nat} {l : List (Nat × AV)} {hl : List Blk} {st : Option Exit} {next : KY} (h : RCx P f xs dst bef l hl [] fun l hl _ => next l hl st) : YCx P Y f xs dst bef l hl st next := ⟨.inr h⟩
end

section
variable {P : Program} {Y : Hdl} {K : KY} (op : AOp) (dst : Option Nat) (bef : Nat) (cs : List COp) (l : List (Nat × AV)) (hl : List Blk) (st : Option Exit)
end
section
variable {P : Program} {Y : Hdl} {K : KY} (dst : Option Nat) (bef : Nat) (cs : List COp) (l : List (Nat × AV)) (hl : List Blk) (st : Option Exit)
end
end Go.Am
end
section
set_option linter.unusedSimpArgs false
set_option linter.unusedVariables false
namespace Go.Am
open Go Go.RowKit

/-- The same, all arguments being plain: what is handed back may hold memory that is only read. -/
theorem RCx.plainRs {P : Program} {f : Opd} {xs : List Opd} {dst : Option Nat} {bef : Nat} {l : List (Nat × AV)} {hl : List Blk} {tr : Tr} {next : List (Nat × AV) → List Blk → Tr → Prop}
    {fid : FuncId} {caps : List AV} (hf : evA l f = .clo fid caps) {args : List AV} (hX : evsA l xs ++ caps = args) (hlt : ltL 0 args = true) {r : AV} {bs : List Blk} (hC : CallsF P fid args [] r bs)
    (hW : (okW hl.length (frW (fun b => hl.length + b) 0 bs) && (frW (fun b => hl.length + b) 0 bs).all (fun p => (upFrom hl.length bs.length).contains p.1)) = true)
    (h : next (consO l dst (r.ren (fun b => hl.length + b))) (hsetL hl (frW (fun b => hl.length + b) 0 bs)) ((upFrom hl.length bs.length, (frW (fun b => hl.length + b) 0 bs).map Prod.fst, bef) :: tr)) : RCx P f xs dst bef l hl tr next := by
  have hs : sigma [] hl.length = fun b => hl.length + b := by funext b; simp [sigma]
  refine ⟨fid, caps, upFrom hl.length bs.length, r.ren (fun b => hl.length + b), frW (fun b => hl.length + b) 0 bs, by rw [evA_eq]; exact hf, ?_, hW, h⟩
  have := CallsF.frame false hC (h := hget hl) (T := upFrom hl.length bs.length) (names := []) (n := hl.length) ⟨rfl, Nat.zero_le _, List.nodup_nil, fun x hx => (by cases hx), fun i x hx => (by simp at hx), fun b hb _ => hget_dead _ _ hb, fun b hb => (by cases hb)⟩ (fun x hx => (by cases hx))
    (fun b hb1 hb2 => mem_upFrom _ _ _ hb1 (by simpa using hb2)) rfl (fun i Y y hY hy => by rw [hY] at hy; cases hy; exact .plain (ltL_mem hlt Y (List.mem_of_getElem? hY))) (fun h => by cases h)
  rw [hs] at this
  rw [evsA_eq, hX]
  exact this
end Go.Am
end
section
set_option linter.unusedSimpArgs false
set_option linter.unusedVariables false
set_option maxHeartbeats 4000000
namespace Go.Hull
open Go Go.Am Go.Proofs

theorem c26 {u v : Pt} (hu : smallV u) (hv : smallV v) : CallsF Try.prog 26 [pt u, pt v] [] (.int .i64 (dot u v)) [] := by
  obtain ⟨⟨a1, a2⟩, a3, a4⟩ := hu
  obtain ⟨⟨b1, b2⟩, b3, b4⟩ := hv
  have m1 := mul_bd a1 a2 b1 b2
  have m2 := mul_bd a3 a4 b3 b4
  refine callsF_cwx hm hf26 (by simp [cf26]) ?_
  simp only [cf26, argsAl]
  repeat' first
    | (refine hK _ _ _ (by first | exact fun h => Bool.noConfusion h | exact fun _ => rfl) ?_; clear hK K)
    | (refine CWx.r fun K hK => ?_; simp (maxSteps := 4000000) (disch := omega) only [dr0, dr1, dr2, dr3, dr4, if_true, if_false, Option.some.injEq, Nat.reduceEqDiff, Int.reduceToNat, Nat.reduceSub, Nat.reduceAdd, Nat.reduceMul, Nat.reduceLT, Nat.reduceLeDiff, reduceCtorEq, ↓reduceIte, catT, enc0, enc1, if_pos, if_neg])
    | refine CWx.go ?_
    | (refine gX_split (fun hb => ?_) (fun hb => ?_) <;> (try simp only [hb]) <;> (try simp only [bset0, reduceCtorEq] at hb) <;> simp (maxSteps := 4000000) (disch := omega) only [dr0, dr1, dr2, dr3, dr4, if_true, if_false, Option.some.injEq, Nat.reduceEqDiff, Int.reduceToNat, Nat.reduceSub, Nat.reduceAdd, Nat.reduceMul, Nat.reduceLT, Nat.reduceLeDiff, reduceCtorEq, ↓reduceIte, catT, enc0, enc1, if_pos, if_neg])
    | (refine CWx.br rfl (fun hb => ?_) (fun hb => ?_) <;> first | exact Bool.noConfusion hb | (first | (simp only [bset0, reduceCtorEq] at hb; done) | ((try simp only [bset0, reduceCtorEq] at hb); first | contradiction | skip)))
    | (refine CWx.e fun K hK => ?_; simp (maxSteps := 4000000) (disch := omega) only [dr0, dr1, dr2, dr3, dr4, if_true, if_false, Option.some.injEq, Nat.reduceEqDiff, Int.reduceToNat, Nat.reduceSub, Nat.reduceAdd, Nat.reduceMul, Nat.reduceLT, Nat.reduceLeDiff, reduceCtorEq, ↓reduceIte, catT, enc0, enc1, if_pos, if_neg])
    | refine CWx.seq ?_
    | refine CWx.skip ?_
    | refine CWx.exit ?_
    | (refine CWx.ret fun al hal => finK_ext hal (finK_pure (.inr rfl) (by simp only [resRV, Am.get, Nat.reduceEqDiff, ↓reduceIte]; exact rfl) ?_ ?_); (focus (first | (rfl; done) | ((simp only [tupAV]; congr <;> omega); done) | (simp [tupAV, *]; done))); (focus (first | rfl | (simp [AV.allR, allRL, allRL_ix]; done))))
theorem c70 (l : List Pt) (d : Pt) (hl : 0 < l.length) (hn : l.length < 4611686018427387904) (hs : ∀ p ∈ l, smallV p) (hd : smallV d) :
    CallsF Try.prog 70 [pts l, pt d] [] (.int .i64 (topN l d l.length)) [] := by
  have hsm : ∀ k, k < l.length → smallV (P l k) := fun k hk => hs _ (P_mem hk)
  refine callsF_cwx hm hf70 (by simp [cf70]) ?_
  simp only [cf70, argsAl]
  repeat' first
    | (refine hK _ _ _ (by first | exact fun h => Bool.noConfusion h | exact fun _ => rfl) ?_; clear hK K)
    | (refine CWx.r fun K hK => ?_; simp (maxSteps := 4000000) (disch := omega) only [dr0, dr1, dr2, dr3, dr4, if_true, if_false, Option.some.injEq, Nat.reduceEqDiff, Int.reduceToNat, Nat.reduceSub, Nat.reduceAdd, Nat.reduceMul, Nat.reduceLT, Nat.reduceLeDiff, reduceCtorEq, ↓reduceIte, catT, enc0, enc1, if_pos, if_neg])
    | refine CWx.go ?_
    | (apply RCx.view (fid := 26) (caps := []) rfl rfl; (focus ((simp only [evsA, evA_t, evA_c, Am.get, Nat.reduceEqDiff, ↓reduceIte, List.nil_append, List.cons_append, List.append_nil]; repeat' first | exact viewArgs_nil | apply viewArgs_cons | exact viewG_flat (flat_pts _ _) _ | exact viewG_flat (flat_ixV _ _) _ | exact viewG_flat (flat_sv _ _) _ | exact viewG_ixT rfl (by assumption) (by omega) | exact viewG_ptsL rfl (by first | omega | (simp; done) | (simp; omega)) | exact viewG_ix rfl (by first | omega | (simp; omega)) | exact viewG_flat rfl _; done))); (focus (refine c26 (hsm _ ?_) hd <;> first | omega | assumption)); (focus rfl); simp (maxSteps := 4000000) (disch := omega) only [dr0, dr1, dr2, dr3, dr4, if_true, if_false, Option.some.injEq, Nat.reduceEqDiff, Int.reduceToNat, Nat.reduceSub, Nat.reduceAdd, Nat.reduceMul, Nat.reduceLT, Nat.reduceLeDiff, reduceCtorEq, ↓reduceIte, catT, enc0, enc1, if_pos, if_neg])
    | (refine gX_split (fun hb => ?_) (fun hb => ?_) <;> (try simp only [hb]) <;> (try simp only [bset0, reduceCtorEq] at hb) <;> simp (maxSteps := 4000000) (disch := omega) only [dr0, dr1, dr2, dr3, dr4, if_true, if_false, Option.some.injEq, Nat.reduceEqDiff, Int.reduceToNat, Nat.reduceSub, Nat.reduceAdd, Nat.reduceMul, Nat.reduceLT, Nat.reduceLeDiff, reduceCtorEq, ↓reduceIte, catT, enc0, enc1, if_pos, if_neg])
    | (refine CWx.br rfl (fun hb => ?_) (fun hb => ?_) <;> first | exact Bool.noConfusion hb | (first | (simp only [bset0, reduceCtorEq] at hb; done) | ((try simp only [bset0, reduceCtorEq] at hb); first | contradiction | skip)))
    | (refine CWx.e fun K hK => ?_; simp (maxSteps := 4000000) (disch := omega) only [dr0, dr1, dr2, dr3, dr4, if_true, if_false, Option.some.injEq, Nat.reduceEqDiff, Int.reduceToNat, Nat.reduceSub, Nat.reduceAdd, Nat.reduceMul, Nat.reduceLT, Nat.reduceLeDiff, reduceCtorEq, ↓reduceIte, catT, enc0, enc1, if_pos, if_neg])
    | (refine CWx.block (id := 0) ?_; refine CWx.loopK (ι := Nat) [0, 3] (fun i => l.length - i) (fun i => [(6, .int .i64 (i : Int)), (5, .int .i64 (topN l d i))]) (fun i => [.row false 0 false 2 [pt d]]) (fun i => i ≤ l.length) (fun i => by simp only [keepA, Am.get, List.cons_append, List.nil_append, Nat.reduceEqDiff, ↓reduceIte]; exact rfl) (0) ?_ ?_ (fun i hi => ?_); (focus ((try dsimp only) <;> (first | trivial | omega | (refine ⟨?_, ?_⟩ <;> first | omega | trivial | simp_all) | simp_all); done)); (focus (refine Fgt.mk' 1 (by simp) ?_ ?_ ?_ <;> simp [-List.map_take, -List.map_map, AV.isY, ltL_append, ix_nil, keepB, Am.get, AV.lt, ltL, lt_pts, lt_pt, lt_ixV, ltL_ix, ltL_pt, Blk.lt, ltB, topN]; done)); have Hi := hi; (skip))
    | refine CWx.seq ?_
    | refine CWx.block (id := 1) ?_
    | refine CWx.skip ?_
    | refine CWx.exit ?_
    | (refine CWx.ret fun al hal => finK_ext hal (finK_pure (.inr rfl) (by simp only [resRV, Am.get, Nat.reduceEqDiff, ↓reduceIte]; exact rfl) ?_ ?_); (focus (first | (rfl; done) | ((simp only [tupAV]; congr <;> omega); done) | (simp [tupAV, *]; done))); (focus (first | rfl | (simp [AV.allR, allRL, allRL_ix]; done))))
    | (intro al hal; refine ⟨i + 1, ?_, ?_, Fgt.ofx hal ?_⟩; (focus (first | omega | (dsimp only; omega))); (focus ((try dsimp only) <;> (first | trivial | omega | (refine ⟨?_, ?_⟩ <;> first | omega | trivial | simp_all) | simp_all); done)); (focus (refine Fgt.mk' 1 (by simp) ?_ ?_ ?_ <;> simp [-List.map_take, -List.map_map, AV.isY, ltL_append, ix_nil, keepB, Am.get, AV.lt, ltL, lt_pts, lt_pt, lt_ixV, ltL_ix, ltL_pt, Blk.lt, ltB, topN, topN]; done)))
end Go.Hull
end
section
set_option linter.unusedSimpArgs false
set_option linter.unusedVariables false
set_option maxHeartbeats 4000000
set_option maxRecDepth 100000
namespace Go.Hull
open Go Go.Am Go.Proofs

theorem take_succP (l : List Pt) {i : Nat} (h : i < l.length) : l.take (i + 1) = l.take i ++ [P l i] := by
  rw [List.take_add_one, List.getElem?_eq_getElem h]
  simp only [P, Option.toList_some, List.getD_eq_getElem?_getD, List.getElem?_eq_getElem h, Option.getD_some]
theorem allRL_pts (l : List Pt) (p : Nat → Nat → Bool) (q : Bool) : allRL p q (l.map pt) = true := by
  induction l with
  | nil => rfl
  | cons x xs ih => simp only [List.map_cons, allRL, ih, Bool.and_true]; rfl
end Go.Hull
end
section
set_option linter.unusedSimpArgs false
set_option linter.unusedVariables false
set_option maxHeartbeats 4000000
namespace Go.Hull
open Go Go.Am Go.Proofs

theorem lp_dot {w z : Pt} (hw : Lp w) (hz : Lp z) (h : turn w z = 0) : 0 ≤ dot w z := by
  obtain ⟨a, b⟩ := w
  obtain ⟨c, d⟩ := z
  simp only [Lp, turn, dot] at *
  by_cases ha : a = 0
  · subst ha
    have hb : 0 < b := by omega
    have hc : c = 0 := by
      have : b * c = 0 := by omega
      rcases Int.mul_eq_zero.1 this with h | h <;> omega
    subst hc
    have hd : 0 < d := by omega
    have := Int.mul_pos hb hd
    omega
  · have ha' : 0 < a := by omega
    by_cases hc : c = 0
    · subst hc
      have hd : 0 < d := by omega
      have : 0 < a * d := Int.mul_pos ha' hd
      omega
    · have hc' : 0 < c := by omega
      have hac := Int.mul_pos ha' hc'
      have e : (a * c) * (b * d) = (a * d) * (a * d) := by
        have : b * c = a * d := by omega
        grind
      have h1 : 0 ≤ (a * d) * (a * d) := by
        rcases Int.le_total 0 (a * d) with h | h
        · exact Int.mul_nonneg h h
        · exact Int.mul_nonneg_of_nonpos_of_nonpos h h
      have h2 : 0 ≤ b * d := Int.nonneg_of_mul_nonneg_right (by rw [e]; exact h1) hac
      omega
/-- A point of a segment. -/
theorem seg_dot {a b p : Pt} (h1 : left a b p = 0) (h2 : before p a = false) (h3 : before b p = false) : dot (sub a p) (sub b p) ≤ 0 := by
  rcases before_false h2 with e | ha
  · subst e
    simp [dot, sub]
  · rcases before_false h3 with e | hb
    · subst e; simp [dot, sub]
    · have := lp_dot (before_iff.1 ha) (before_iff.1 hb) (by
        have : turn (sub p a) (sub b p) = - left a b p := by simp only [left, turn, sub]; grind
        rw [this, h1]; rfl)
      have e : dot (sub a p) (sub b p) = - dot (sub p a) (sub b p) := by simp only [dot, sub]; grind
      omega
end Go.Hull
end
section
set_option linter.unusedVariables false
namespace Go.Hull

/-- An affine form. -/
def aff (A B C : Int) (p : Pt) : Int := A * p.1 + B * p.2 + C
theorem left_aff (a b q : Pt) : left a b q = aff (a.2 - b.2) (b.1 - a.1) (a.1 * b.2 - a.2 * b.1) q := by
  simp only [left, turn, sub, aff]; grind
theorem aff_neg (A B C : Int) (q : Pt) : - aff A B C q = aff (-A) (-B) (-C) q := by simp only [aff]; grind
theorem aff_add (A B C A' B' C' : Int) (q : Pt) : aff A B C q + aff A' B' C' q = aff (A + A') (B + B') (C + C') q := by simp only [aff]; grind
def betw (p a b : Pt) : Bool := decide (left a b p = 0) && decide (dot (sub a p) (sub b p) ≤ 0)
def sgn (n : Int) : Int := if n < 0 then -1 else if 0 < n then 1 else 0
def inTri (p a b c : Pt) : Bool := decide (left a b c ≠ 0) && ((decide (0 ≤ left a b p) && (decide (0 ≤ left b c p) && decide (0 ≤ left c a p))) || (decide (left a b p ≤ 0) && (decide (left b c p ≤ 0) && decide (left c a p ≤ 0))))
/-- In the hull of a set of points. -/
def InP (D : Pt → Prop) (p : Pt) : Prop := D p ∨ (∃ a b, D a ∧ D b ∧ betw p a b = true) ∨ ∃ a b c, D a ∧ D b ∧ D c ∧ inTri p a b c = true
theorem betw_aff {A B C : Int} {p a b : Pt} (h : betw p a b = true) (ha : 0 ≤ aff A B C a) (hb : 0 ≤ aff A B C b) : 0 ≤ aff A B C p := by
  simp only [betw, Bool.and_eq_true, decide_eq_true_eq] at h
  obtain ⟨h1, h2⟩ := h
  obtain ⟨u, hu⟩ : ∃ u, u = sub a p := ⟨_, rfl⟩
  obtain ⟨v, hv⟩ : ∃ v, v = sub b p := ⟨_, rfl⟩
  rw [← hu, ← hv] at h2
  have ea : aff A B C a = aff A B C p + (A * u.1 + B * u.2) := by rw [hu]; simp only [aff, sub]; grind
  have eb : aff A B C b = aff A B C p + (A * v.1 + B * v.2) := by rw [hv]; simp only [aff, sub]; grind
  have t : turn u v = 0 := by rw [hu, hv]; have : turn (sub a p) (sub b p) = left a b p := by simp only [left, turn, sub]; grind
                              rw [this, h1]
  by_cases hv0 : v = (0, 0)
  · rw [eb, hv0] at hb; simpa using hb
  · have pos := dot_self_pos hv0
    have key : dot v v * (A * u.1 + B * u.2) = dot u v * (A * v.1 + B * v.2) := by
      obtain ⟨u1, u2⟩ := u
      obtain ⟨v1, v2⟩ := v
      simp only [turn, dot] at t ⊢
      grind
    have k1 : 0 ≤ dot v v * aff A B C a := Int.mul_nonneg (Int.le_of_lt pos) ha
    have k2 : 0 ≤ (- dot u v) * aff A B C b := Int.mul_nonneg (by omega) hb
    have e : dot v v * aff A B C a + (- dot u v) * aff A B C b = (dot v v - dot u v) * aff A B C p := by rw [ea, eb]; grind
    exact Int.nonneg_of_mul_nonneg_right (a := dot v v - dot u v) (by rw [← e]; omega) (by omega)
theorem tri_id (A B C : Int) (p a b c : Pt) : left a b c * aff A B C p = left b c p * aff A B C a + left c a p * aff A B C b + left a b p * aff A B C c := by
  obtain ⟨p1, p2⟩ := p
  obtain ⟨a1, a2⟩ := a
  obtain ⟨b1, b2⟩ := b
  obtain ⟨c1, c2⟩ := c
  simp only [left, turn, sub, aff]; grind
theorem tri_sum (p a b c : Pt) : left a b c = left b c p + left c a p + left a b p := by
  simp only [left, turn, sub]; grind
theorem inTri_aff {A B C : Int} {p a b c : Pt} (h : inTri p a b c = true) (ha : 0 ≤ aff A B C a) (hb : 0 ≤ aff A B C b) (hc : 0 ≤ aff A B C c) : 0 ≤ aff A B C p := by
  simp only [inTri, Bool.and_eq_true, Bool.or_eq_true, decide_eq_true_eq] at h
  obtain ⟨h0, h⟩ := h
  have e := tri_id A B C p a b c
  have s := tri_sum p a b c
  rcases h with ⟨x, y, z⟩ | ⟨x, y, z⟩
  · have k1 := Int.mul_nonneg y ha
    have k2 := Int.mul_nonneg z hb
    have k3 := Int.mul_nonneg x hc
    exact Int.nonneg_of_mul_nonneg_right (a := left a b c) (by rw [e]; omega) (by omega)
  · have k1 : 0 ≤ (- left b c p) * aff A B C a := Int.mul_nonneg (by omega) ha
    have k2 : 0 ≤ (- left c a p) * aff A B C b := Int.mul_nonneg (by omega) hb
    have k3 : 0 ≤ (- left a b p) * aff A B C c := Int.mul_nonneg (by omega) hc
    refine Int.nonneg_of_mul_nonneg_right (a := - left a b c) ?_ (by omega)
    have : -left a b c * aff A B C p = (-left b c p) * aff A B C a + (-left c a p) * aff A B C b + (-left a b p) * aff A B C c := by rw [Int.neg_mul, e]; grind
    rw [this]; omega
theorem InP.aff {D : Pt → Prop} {p : Pt} (h : InP D p) {A B C : Int} (hD : ∀ q, D q → 0 ≤ aff A B C q) : 0 ≤ aff A B C p := by
  rcases h with h | ⟨a, b, ha, hb, h⟩ | ⟨a, b, c, ha, hb, hc, h⟩
  · exact hD p h
  · exact betw_aff h (hD a ha) (hD b hb)
  · exact inTri_aff h (hD a ha) (hD b hb) (hD c hc)
theorem InP.pos {D : Pt → Prop} {p : Pt} (h : InP D p) {A B C : Int} (hD : ∀ q, D q → 0 < Hull.aff A B C q) : 0 < Hull.aff A B C p := by
  have := h.aff (A := A) (B := B) (C := C - 1) fun q hq => by have := hD q hq; simp only [Hull.aff] at *; omega
  simp only [Hull.aff] at *; omega
theorem InP.mono {D D' : Pt → Prop} {p : Pt} (h : InP D p) (hD : ∀ q, D q → D' q) : InP D' p := by
  rcases h with h | ⟨a, b, ha, hb, h⟩ | ⟨a, b, c, ha, hb, hc, h⟩
  · exact .inl (hD p h)
  · exact .inr (.inl ⟨a, b, hD a ha, hD b hb, h⟩)
  · exact .inr (.inr ⟨a, b, c, hD a ha, hD b hb, hD c hc, h⟩)
/-- Two lines that cross. -/
theorem cross_pt {a b c q : Pt} (ht : left a b c ≠ 0) (h1 : left a b q = 0) (h2 : left b c q = 0) : q = b := by
  have e1 : left a b c * (q.1 - b.1) = 0 := by
    have : left a b c * (q.1 - b.1) = left a b q * (c.1 - b.1) - left b c q * (b.1 - a.1) * 1 := by
      obtain ⟨a1, a2⟩ := a
      obtain ⟨b1, b2⟩ := b
      obtain ⟨c1, c2⟩ := c
      obtain ⟨q1, q2⟩ := q
      simp only [left, turn, sub]; grind
    rw [this, h1, h2]; simp
  have e2 : left a b c * (q.2 - b.2) = 0 := by
    have : left a b c * (q.2 - b.2) = left a b q * (c.2 - b.2) - left b c q * (b.2 - a.2) := by
      obtain ⟨a1, a2⟩ := a
      obtain ⟨b1, b2⟩ := b
      obtain ⟨c1, c2⟩ := c
      obtain ⟨q1, q2⟩ := q
      simp only [left, turn, sub]; grind
    rw [this, h1, h2]; simp
  have f1 := (Int.mul_eq_zero.1 e1).resolve_left ht
  have f2 := (Int.mul_eq_zero.1 e2).resolve_left ht
  exact Prod.ext (by omega) (by omega)
section
variable {l : List Pt} {v : List Nat}
/-- The i-th vertex, around and around. -/
def vx (l : List Pt) (v : List Nat) (i : Nat) : Pt := P l (v.getD (i % v.length) 0)
theorem vx_mem (T : HullT l v) (i : Nat) : vx l v i ∈ l := T.pmem (Nat.mod_lt _ T.ne)
theorem vx_lt {i : Nat} (h : i < v.length) : vx l v i = P l (v.getD i 0) := by unfold vx; rw [Nat.mod_eq_of_lt h]
theorem vx_big (T : HullT l v) (hn : 2 < v.length) (i : Nat) {p : Pt} (hp : p ∈ l) : 0 ≤ left (vx l v i) (vx l v (i + 1)) p := by
  have := T.big hn (i % v.length) (Nat.mod_lt _ T.ne) p hp
  unfold vx
  rwa [Nat.mod_add_mod] at this
theorem vx_turn (T : HullT l v) (hn : 2 < v.length) (i : Nat) : 0 < left (vx l v i) (vx l v (i + 1)) (vx l v (i + 2)) := by
  have := T.turns hn (i % v.length) (Nat.mod_lt _ T.ne)
  unfold vx
  rwa [Nat.mod_add_mod, Nat.mod_add_mod] at this
/-- A vertex is by itself: there is a form that is 0 there, and greater at all other points. -/
theorem extreme_big (T : HullT l v) (hn : 2 < v.length) (i : Nat) : ∃ A B C, aff A B C (vx l v (i + 1)) = 0 ∧ ∀ q ∈ l, q ≠ vx l v (i + 1) → 0 < aff A B C q := by
  obtain ⟨a, ha⟩ : ∃ a, a = vx l v i := ⟨_, rfl⟩
  obtain ⟨b, hb⟩ : ∃ b, b = vx l v (i + 1) := ⟨_, rfl⟩
  obtain ⟨c, hc⟩ : ∃ c, c = vx l v (i + 2) := ⟨_, rfl⟩
  have t := vx_turn T hn i
  rw [← ha, ← hb, ← hc] at t
  rw [← hb]
  refine ⟨(a.2 - b.2) + (b.2 - c.2), (b.1 - a.1) + (c.1 - b.1), (a.1 * b.2 - a.2 * b.1) + (b.1 * c.2 - b.2 * c.1), ?_, fun q hq hne => ?_⟩
  · rw [← aff_add, ← left_aff, ← left_aff, left_self2, left_self1]; rfl
  · rw [← aff_add, ← left_aff, ← left_aff]
    have g1 := vx_big T hn i hq
    have g2 := vx_big T hn (i + 1) hq
    rw [← ha, ← hb] at g1
    rw [← hb, show i + 1 + 1 = i + 2 from rfl, ← hc] at g2
    rcases Int.lt_or_eq_of_le g1 with h | h
    · omega
    · rcases Int.lt_or_eq_of_le g2 with h' | h'
      · omega
      · exact absurd (cross_pt (by omega) h.symm h'.symm) hne
end
end Go.Hull
end
