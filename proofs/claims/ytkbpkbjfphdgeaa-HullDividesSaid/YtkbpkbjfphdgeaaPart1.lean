/- The abstract values, their relation to the machine's values, and the invariant of a frame's own memory.
   Conditions: none; plain definitions and their first laws. -/
import Derived.RangeFuncOwn
import Derived.RangeFuncLeaves
import Derived.Below
import Derived.KernelRfl
import Derived.Laws.CopyRow
import Derived.Laws.Cells
import Derived.Deep.MidRow
section
namespace Go.Am
open Go Go.RowKit

/-- Abstract values: 'sv', 'rp' are memory that is only read, told by what it holds; 'sl', 'ptr' lead to rows of the frame's own. -/
inductive AV where
  | int (k : IntKind) (n : Int)
  | bool (b : Bool)
  | str (s : ByteArray)
  | nilp | nilf | nili | nils | und
  | agg (cs : List AV)
  | tup (vs : List AV)
  | sv (vol : Bool) (sz : Nat) (xs : List AV)
  | sl (b g i n : Nat)
  | ptr (b g i o : Nat)
  | rp (vol : Bool) (cs : List AV)
  | clo (f : FuncId) (caps : List AV)
  | yld
  deriving Inhabited
def AV.cells : AV → List AV
  | .agg cs => cs
  | v => [v]
/-- Own rows. nil: the row of a nil slice; g: how often it was appended to; frz: its cells are told elsewhere, too, and so don't change. -/
inductive Blk where
  | dead
  | row (nil : Bool) (g : Nat) (frz : Bool) (sz : Nat) (xs : List AV)
  deriving Inhabited
structure Loc where
  c : Nat
  o : Nat
  sz : Nat
/-- Where things lie: below B nothing changes; 'prot c' cells of block c don't change; rows of the frame's own. -/
structure K where
  B : Nat
  prot : Nat → Nat
  rho : Nat → Nat → Option (Option Loc)
  yl : Option Nat
def Pr (κ : K) (c off : Nat) : Prop := c < κ.B ∨ off < κ.prot c
def cellAt (xs : List AV) (k j : Nat) : Option AV := (xs[k]?).bind fun e => e.cells[j]?
inductive VRel (κ : K) (w : World) : AV → Value → Prop where
  | int (k : IntKind) (n : Int) : VRel κ w (.int k n) (.int k n)
  | bool (b : Bool) : VRel κ w (.bool b) (.bool b)
  | str (s : ByteArray) : VRel κ w (.str s) (.string s)
  | nilp : VRel κ w .nilp (.pointer none)
  | nilf : VRel κ w .nilf .nilFunc
  | nili : VRel κ w .nili .nilIface
  | nils : VRel κ w .nils (.slice none 0 0)
  | und (v : Value) : VRel κ w .und v
  | agg {cs : List AV} {vs : Array Value} (hl : cs.length = vs.size) (hr : ∀ (i : Nat) (x : AV) (v : Value), cs[i]? = some x → vs[i]? = some v → VRel κ w x v) : VRel κ w (.agg cs) (.agg vs)
  | tup {cs : List AV} {vs : Array Value} (hl : cs.length = vs.size) (hr : ∀ (i : Nat) (x : AV) (v : Value), cs[i]? = some x → vs[i]? = some v → VRel κ w x v) : VRel κ w (.tup cs) (.tuple vs)
  | sv {vol : Bool} {sz : Nat} {xs : List AV} (a : Option Addr) (c : Nat) (F : Nat → Nat → Value) (hn : xs.length ≤ c) (hv : vol = true → c = xs.length) (hc : xs ≠ [] → ∃ p, a = some p ∧ p.spot = none)
      (hm : ∀ p (k j : Nat) (x : AV), a = some p → cellAt xs k j = some x → w.cell? ⟨p.block, p.off + k * sz + j, none⟩ = some (F k j) ∧ Pr κ p.block (p.off + k * sz + j))
      (hs : ∀ e ∈ xs, e.cells.length = sz) (hr : ∀ (k j : Nat) (x : AV), cellAt xs k j = some x → VRel κ w x (F k j)) : VRel κ w (.sv vol sz xs) (.slice a xs.length c)
  | sl {b g i n : Nat} (loc : Loc) (a : Addr) (c : Nat) (hρ : κ.rho b g = some (some loc)) (hn : n ≤ c) (ha : c ≠ 0 → a = ⟨loc.c, loc.o + i * loc.sz, none⟩)
      (hb : ∃ C e, w.heap[loc.c]? = some (.cells C e (0, 0)) ∧ loc.o + (i + c) * loc.sz ≤ C.size) : VRel κ w (.sl b g i n) (.slice (some a) n c)
  | slnil {b g : Nat} (hρ : κ.rho b g = some none) : VRel κ w (.sl b g 0 0) (.slice none 0 0)
  | ptr {b g i o : Nat} (loc : Loc) (hρ : κ.rho b g = some (some loc)) : VRel κ w (.ptr b g i o) (.pointer (some ⟨loc.c, loc.o + i * loc.sz + o, none⟩))
  | rp {vol : Bool} {cs : List AV} (p : Addr) (F : Nat → Value) (hp : p.spot = none)
      (hm : ∀ (j : Nat) (x : AV), cs[j]? = some x → w.cell? ⟨p.block, p.off + j, none⟩ = some (F j) ∧ Pr κ p.block (p.off + j))
      (hr : ∀ (j : Nat) (x : AV), cs[j]? = some x → VRel κ w x (F j)) : VRel κ w (.rp vol cs) (.pointer (some p))
  | clo {f : FuncId} {cs : List AV} {vs : Array Value} (hl : cs.length = vs.size) (hr : ∀ (i : Nat) (x : AV) (v : Value), cs[i]? = some x → vs[i]? = some v → VRel κ w x v) : VRel κ w (.clo f cs) (.func (.func f) #[] vs)
  | yld {l : Nat} (h : κ.yl = some l) : VRel κ w .yld (.func (.yield l) #[] #[])
/-- From one state to a later one: what is told of the first holds of the second. -/
structure Ext (κ : K) (w : World) (κ' : K) (w' : World) : Prop where
  B : κ'.B = κ.B
  rho : ∀ b g x, κ.rho b g = some x → κ'.rho b g = some x
  prot : ∀ c, κ.prot c ≤ κ'.prot c
  cell : ∀ c off v, Pr κ c off → w.cell? ⟨c, off, none⟩ = some v → w'.cell? ⟨c, off, none⟩ = some v
  blk : ∀ (c : Nat) (C : Array Value) (e : TypeId), w.heap[c]? = some (.cells C e (0, 0)) → ∃ C', w'.heap[c]? = some (.cells C' e (0, 0)) ∧ C'.size = C.size
  yl : κ'.yl = κ.yl
theorem Ext.refl (κ : K) (w : World) : Ext κ w κ w := ⟨rfl, fun _ _ _ h => h, fun _ => Nat.le_refl _, fun _ _ _ _ h => h, fun _ C _ h => ⟨C, h, rfl⟩, rfl⟩
theorem Ext.pr {κ κ' : K} {w w' : World} (h : Ext κ w κ' w') {c off : Nat} (hp : Pr κ c off) : Pr κ' c off := by
  rcases hp with hp | hp
  · exact .inl (h.B ▸ hp)
  · exact .inr (Nat.lt_of_lt_of_le hp (h.prot c))
theorem Ext.trans {κ κ' κ'' : K} {w w' w'' : World} (h : Ext κ w κ' w') (h' : Ext κ' w' κ'' w'') : Ext κ w κ'' w'' where
  B := h'.B.trans h.B
  yl := h'.yl.trans h.yl
  rho b g x hx := h'.rho b g x (h.rho b g x hx)
  prot c := Nat.le_trans (h.prot c) (h'.prot c)
  cell c off v hp hv := h'.cell c off v (h.pr hp) (h.cell c off v hp hv)
  blk c C e hc := by
    obtain ⟨C', h1, h2⟩ := h.blk c C e hc
    obtain ⟨C'', h3, h4⟩ := h'.blk c C' e h1
    exact ⟨C'', h3, h4.trans h2⟩
theorem VRel.ext {κ κ' : K} {w w' : World} (hx : Ext κ w κ' w') {x : AV} {v : Value} (h : VRel κ w x v) : VRel κ' w' x v := by
  induction h with
  | int => exact .int _ _
  | bool => exact .bool _
  | str => exact .str _
  | nilp => exact .nilp
  | nilf => exact .nilf
  | nili => exact .nili
  | nils => exact .nils
  | und => exact .und _
  | agg hl _ ih => exact .agg hl ih
  | tup hl _ ih => exact .tup hl ih
  | sv a c F hn hv hc hm hs _ ih => exact .sv a c F hn hv hc (fun p k j x ha hk => ⟨hx.cell _ _ _ (hm p k j x ha hk).2 (hm p k j x ha hk).1, hx.pr (hm p k j x ha hk).2⟩) hs ih
  | sl loc a c hρ hn ha hb =>
    obtain ⟨C, e, h1, h2⟩ := hb
    obtain ⟨C', h3, h4⟩ := hx.blk _ _ _ h1
    exact .sl loc a c (hx.rho _ _ _ hρ) hn ha ⟨C', e, h3, by omega⟩
  | slnil hρ => exact .slnil (hx.rho _ _ _ hρ)
  | ptr loc hρ => exact .ptr loc (hx.rho _ _ _ hρ)
  | rp p F hp hm _ ih => exact .rp p F hp (fun j x hj => ⟨hx.cell _ _ _ (hm j x hj).2 (hm j x hj).1, hx.pr (hm j x hj).2⟩) ih
  | clo hl _ ih => exact .clo hl ih
  | yld h => exact .yld (hx.yl.trans h)
/-- What is told of an own row. -/
structure RowAt (κ : K) (w : World) (loc : Loc) (frz : Bool) (sz : Nat) (xs : List AV) : Prop where
  hsz : loc.sz = sz
  own : κ.B ≤ loc.c
  blk : ∃ C e, w.heap[loc.c]? = some (.cells C e (0, 0)) ∧ loc.o + xs.length * sz ≤ C.size
  size : ∀ e ∈ xs, e.cells.length = sz
  cell : ∀ (k j : Nat) (x : AV), cellAt xs k j = some x → ∃ v, w.cell? ⟨loc.c, loc.o + k * sz + j, none⟩ = some v ∧ VRel κ w x v
  prot : κ.prot loc.c ≤ if frz then loc.o + xs.length * sz else 0
def RowOk (κ : K) (w : World) (b : Nat) (nil : Bool) (g : Nat) (frz : Bool) (sz : Nat) (xs : List AV) : Prop :=
  (nil = true ∧ κ.rho b g = some none ∧ xs = []) ∨ (nil = false ∧ ∃ loc, κ.rho b g = some (some loc) ∧ RowAt κ w loc frz sz xs)
def BlkOk (κ : K) (w : World) (b : Nat) : Blk → Prop
  | .dead => ∀ g, κ.rho b g = none
  | .row nil g frz sz xs => RowOk κ w b nil g frz sz xs ∧ ∀ g', g < g' → κ.rho b g' = none
/-- Where an own row lies. -/
def Lies (κ : K) (h : Nat → Blk) (b : Nat) (loc : Loc) : Prop := ∃ g frz sz xs, h b = .row false g frz sz xs ∧ κ.rho b g = some (some loc)
structure Inv (κ : K) (h : Nat → Blk) (w : World) : Prop where
  base : κ.B ≤ w.heap.size
  ok : ∀ b, BlkOk κ w b (h b)
  inj : ∀ b b' loc loc', Lies κ h b loc → Lies κ h b' loc' → loc.c = loc'.c → b = b'
  prot : ∀ c, κ.prot c ≠ 0 → c < w.heap.size
def upd {α : Type} (f : Nat → α) (i : Nat) (v : α) : Nat → α := fun j => if j = i then v else f j
@[simp] theorem upd_same {α : Type} (f : Nat → α) (i : Nat) (v : α) : upd f i v i = v := by simp [upd]
theorem upd_other {α : Type} (f : Nat → α) {i j : Nat} (v : α) (h : j ≠ i) : upd f i v j = f j := by simp [upd, h]
/-- The blocks that gather deferred calls stay. -/
def KeepDef (w w' : World) : Prop := ∀ (D : Nat) (ds : Option (List Deferred)), w.heap[D]? = some (Obj.deferred ds) → w'.heap[D]? = some (Obj.deferred ds)
theorem KeepDef.refl (w : World) : KeepDef w w := fun _ _ h => h
theorem KeepDef.trans {a b c : World} (h : KeepDef a b) (h' : KeepDef b c) : KeepDef a c := fun D ds hd => h' D ds (h D ds hd)
theorem RowAt.keep {κ κ' : K} {w w' : World} {loc : Loc} {frz : Bool} {sz : Nat} {xs : List AV} (hx : Ext κ w κ' w') (hh : w'.heap[loc.c]? = w.heap[loc.c]?) (hp : κ'.prot loc.c = κ.prot loc.c)
    (h : RowAt κ w loc frz sz xs) : RowAt κ' w' loc frz sz xs where
  hsz := h.hsz
  own := hx.B ▸ h.own
  blk := by rw [hh]; exact h.blk
  size := h.size
  cell k j x hk := by
    obtain ⟨v, hv, hr⟩ := h.cell k j x hk
    exact ⟨v, (World.cell?_of_block (w := w) hh).trans hv, hr.ext hx⟩
  prot := hp ▸ h.prot
theorem Lies.row {κ : K} {h : Nat → Blk} {w : World} (hi : Inv κ h w) {b : Nat} {loc : Loc} (hl : Lies κ h b loc) : ∃ g frz sz xs, h b = .row false g frz sz xs ∧ κ.rho b g = some (some loc) ∧ RowAt κ w loc frz sz xs := by
  obtain ⟨g, frz, sz, xs, h1, h2⟩ := hl
  have := hi.ok b
  rw [h1] at this
  obtain ⟨(⟨h3, _⟩ | ⟨_, loc', h4, h5⟩), _⟩ := this
  · cases h3
  · rw [h2] at h4; cases h4
    exact ⟨g, frz, sz, xs, h1, h2, h5⟩
theorem Lies.lt {κ : K} {h : Nat → Blk} {w : World} (hi : Inv κ h w) {b : Nat} {loc : Loc} (hl : Lies κ h b loc) : loc.c < w.heap.size := by
  obtain ⟨g, frz, sz, xs, _, _, hr⟩ := hl.row hi
  obtain ⟨C, e, hc, _⟩ := hr.blk
  exact (Array.getElem?_eq_some_iff.1 hc).1
/-- What a step may change: rows of the frame's own alone; what is new lies in new blocks. -/
structure Chg (κ : K) (h : Nat → Blk) (w : World) (κ' : K) (h' : Nat → Blk) (w' : World) : Prop where
  os : w'.os = w.os
  tape : w'.tape = w.tape
  output : w'.output = w.output
  size : w.heap.size ≤ w'.heap.size
  blk : ∀ c, c < w.heap.size → (∀ b loc, Lies κ h b loc → loc.c ≠ c) → w'.heap[c]? = w.heap[c]?
  lies : ∀ b loc, Lies κ' h' b loc → (∃ b0 loc0, Lies κ h b0 loc0 ∧ loc0.c = loc.c) ∨ w.heap.size ≤ loc.c
  prot : ∀ c, c < w.heap.size → (∀ b loc, Lies κ h b loc → loc.c ≠ c) → κ'.prot c = κ.prot c
theorem Chg.refl (κ : K) (h : Nat → Blk) (w : World) : Chg κ h w κ h w := ⟨rfl, rfl, rfl, Nat.le_refl _, fun _ _ _ => rfl, fun b loc hl => .inl ⟨b, loc, hl, rfl⟩, fun _ _ _ => rfl⟩
theorem Chg.trans {κ κ' κ'' : K} {h h' h'' : Nat → Blk} {w w' w'' : World} (a : Chg κ h w κ' h' w') (b : Chg κ' h' w' κ'' h'' w'') : Chg κ h w κ'' h'' w'' where
  os := b.os.trans a.os
  tape := b.tape.trans a.tape
  output := b.output.trans a.output
  size := Nat.le_trans a.size b.size
  blk c hc hl := by
    refine (b.blk c (Nat.lt_of_lt_of_le hc a.size) fun b' loc hl' he => ?_).trans (a.blk c hc hl)
    rcases a.lies b' loc hl' with ⟨b0, loc0, h0, h1⟩ | h0
    · exact hl b0 loc0 h0 (h1.trans he)
    · omega
  lies b' loc hl := by
    rcases b.lies b' loc hl with ⟨b0, loc0, h0, h1⟩ | h0
    · rcases a.lies b0 loc0 h0 with ⟨b1, loc1, h2, h3⟩ | h2
      · exact .inl ⟨b1, loc1, h2, h3.trans h1⟩
      · exact .inr (h1 ▸ h2)
    · exact .inr (Nat.le_trans a.size h0)
  prot c hc hl := by
    refine (b.prot c (Nat.lt_of_lt_of_le hc a.size) fun b' loc hl' he => ?_).trans (a.prot c hc hl)
    rcases a.lies b' loc hl' with ⟨b0, loc0, h0, h1⟩ | h0
    · exact hl b0 loc0 h0 (h1.trans he)
    · omega
theorem Chg.below {κ κ' : K} {h h' : Nat → Blk} {w w' : World} (hi : Inv κ h w) (a : Chg κ h w κ' h' w') : Below κ.B w w' :=
  ⟨a.os, a.tape, a.output, a.size, fun k hk => by
    by_cases hlt : k < w.heap.size
    · exact a.blk k hlt fun b loc hl he => by
        obtain ⟨_, _, _, _, _, _, hr⟩ := hl.row hi
        have := hr.own; omega
    · have := hi.base; omega⟩
theorem Chg.keepDef {κ κ' : K} {h h' : Nat → Blk} {w w' : World} (hi : Inv κ h w) (a : Chg κ h w κ' h' w') : KeepDef w w' := fun D ds hD => by
  have hlt := (Array.getElem?_eq_some_iff.1 hD).1
  rw [a.blk D hlt fun b loc hl he => ?_]
  · exact hD
  · obtain ⟨_, _, _, _, _, _, hr⟩ := hl.row hi
    obtain ⟨C, e, hC, _⟩ := hr.blk
    rw [he, hD] at hC; cases hC
/-- One row changes its number, its elements or its place. -/
theorem Chg.of {κ κ' : K} {h : Nat → Blk} {w w' : World} (b0 : Nat) (blk' : Blk) (hos : w'.os = w.os) (htape : w'.tape = w.tape) (hout : w'.output = w.output) (hsize : w.heap.size ≤ w'.heap.size)
    (hrho : ∀ b, b ≠ b0 → κ'.rho b = κ.rho b) (hblk : ∀ c, c < w.heap.size → (∀ b loc, Lies κ h b loc → loc.c ≠ c) → w'.heap[c]? = w.heap[c]?)
    (hlies : ∀ loc, Lies κ' (Am.upd h b0 blk') b0 loc → (∃ b1 loc1, Lies κ h b1 loc1 ∧ loc1.c = loc.c) ∨ w.heap.size ≤ loc.c)
    (hprot : ∀ c, c < w.heap.size → (∀ b loc, Lies κ h b loc → loc.c ≠ c) → κ'.prot c = κ.prot c := by intros; rfl) : Chg κ h w κ' (Am.upd h b0 blk') w' where
  prot := hprot
  os := hos
  tape := htape
  output := hout
  size := hsize
  blk := hblk
  lies b loc hl := by
    by_cases hb : b = b0
    · subst hb; exact hlies loc hl
    · obtain ⟨g, frz, sz, xs, h1, h2⟩ := hl
      rw [upd_other _ _ hb] at h1
      rw [hrho b hb] at h2
      exact .inl ⟨b, loc, ⟨g, frz, sz, xs, h1, h2⟩, rfl⟩
/-- One block of the frame's own changes, all others stay. -/
theorem Inv.upd {κ κ' : K} {h : Nat → Blk} {w w' : World} (hi : Inv κ h w) (hx : Ext κ w κ' w') (b0 : Nat) (blk' : Blk)
    (hrho : ∀ b, b ≠ b0 → κ'.rho b = κ.rho b)
    (hheap : ∀ b loc, b ≠ b0 → Lies κ h b loc → w'.heap[loc.c]? = w.heap[loc.c]? ∧ κ'.prot loc.c = κ.prot loc.c)
    (hok : BlkOk κ' w' b0 blk') (hsize : w.heap.size ≤ w'.heap.size)
    (hinj : ∀ loc0, Lies κ' (Am.upd h b0 blk') b0 loc0 → ∀ b loc, b ≠ b0 → Lies κ h b loc → loc.c ≠ loc0.c)
    (hprot : ∀ c, κ'.prot c ≠ 0 → c < w'.heap.size) : Inv κ' (Am.upd h b0 blk') w' := by
  have lies : ∀ b loc, b ≠ b0 → Lies κ' (Am.upd h b0 blk') b loc → Lies κ h b loc := by
    rintro b loc hb ⟨g, frz, sz, xs, h1, h2⟩
    rw [upd_other _ _ hb] at h1
    rw [hrho b hb] at h2
    exact ⟨g, frz, sz, xs, h1, h2⟩
  refine ⟨by rw [hx.B]; exact Nat.le_trans hi.base hsize, fun b => ?_, ?_, hprot⟩
  · by_cases hb : b = b0
    · subst hb; rw [upd_same]; exact hok
    · rw [upd_other _ _ hb]
      have h0 := hi.ok b
      cases hbl : h b with
      | dead => rw [hbl] at h0; intro g; rw [hrho b hb]; exact h0 g
      | row nil g frz sz xs =>
        rw [hbl] at h0
        obtain ⟨h1, h2⟩ := h0
        refine ⟨?_, fun g' hg' => by rw [hrho b hb]; exact h2 g' hg'⟩
        rcases h1 with ⟨h3, h4, h5⟩ | ⟨h3, loc, h4, h5⟩
        · exact .inl ⟨h3, by rw [hrho b hb]; exact h4, h5⟩
        · subst h3
          obtain ⟨h6, h7⟩ := hheap b loc hb ⟨g, frz, sz, xs, hbl, h4⟩
          exact .inr ⟨rfl, loc, by rw [hrho b hb]; exact h4, h5.keep hx h6 h7⟩
  · intro b b' loc loc' hl hl' hc
    by_cases hb : b = b0
    · by_cases hb' : b' = b0
      · rw [hb, hb']
      · subst hb
        exact absurd hc.symm (hinj loc hl b' loc' hb' (lies _ _ hb' hl'))
    · by_cases hb' : b' = b0
      · subst hb'
        exact absurd hc (hinj loc' hl' b loc hb (lies _ _ hb hl))
      · exact hi.inj b b' loc loc' (lies _ _ hb hl) (lies _ _ hb' hl') hc
/-- A new row. -/
theorem Inv.new {κ : K} {h : Nat → Blk} {w : World} (hi : Inv κ h w) {fr : Nat} (hf : h fr = .dead) (C : Array Value) (e : TypeId) {sz : Nat} {xs : List AV} (hs : ∀ x ∈ xs, x.cells.length = sz) (hC : xs.length * sz ≤ C.size)
    (hc : ∀ (k j : Nat) (x : AV), cellAt xs k j = some x → ∃ v, C[k * sz + j]? = some v ∧ VRel κ w x v) :
    ∃ κ', Ext κ w κ' (w.alloc (.cells C e)) ∧ Inv κ' (Am.upd h fr (.row false 0 false sz xs)) (w.alloc (.cells C e)) ∧ κ'.rho fr 0 = some (some ⟨w.heap.size, 0, sz⟩) ∧ Chg κ h w κ' (Am.upd h fr (.row false 0 false sz xs)) (w.alloc (.cells C e)) := by
  have hd : ∀ g, κ.rho fr g = none := by have := hi.ok fr; rw [hf] at this; exact this
  have hnew : (w.alloc (.cells C e)).heap[w.heap.size]? = some (.cells C e (0, 0)) := World.alloc_heap_new w _
  have hold : ∀ k, k < w.heap.size → (w.alloc (.cells C e)).heap[k]? = w.heap[k]? := fun k hk => Below.heap_alloc w _ k hk
  let κ' : K := { κ with rho := fun b g => if b = fr ∧ g = 0 then some (some ⟨w.heap.size, 0, sz⟩) else κ.rho b g }
  have hx : Ext κ w κ' (w.alloc (.cells C e)) := by
    refine ⟨rfl, fun b g x hb => ?_, fun _ => Nat.le_refl _, fun c off v _ hv => ?_, fun c C' e' hc' => ⟨C', ?_, rfl⟩, rfl⟩
    · show (if _ then _ else _) = _
      rw [if_neg]
      · exact hb
      · rintro ⟨rfl, rfl⟩; rw [hd] at hb; cases hb
    · have hlt := World.block_lt_of_cell? w _ hv
      exact (World.cell?_of_block (w := w) (hold _ hlt)).trans hv
    · rw [hold _ (Array.getElem?_eq_some_iff.1 hc').1]; exact hc'
  have hrho0 : κ'.rho fr 0 = some (some ⟨w.heap.size, 0, sz⟩) := by show (if _ then _ else _) = _; simp
  have hrho' : ∀ b, b ≠ fr → κ'.rho b = κ.rho b := fun b hb => by funext g; show (if _ then _ else _) = _; rw [if_neg (by rintro ⟨rfl, _⟩; exact hb rfl)]
  refine ⟨κ', hx, ?_, hrho0, Chg.of fr _ rfl rfl rfl (by simp) hrho' (fun c hc _ => hold c hc) (fun loc hl => .inr ?_)⟩
  rotate_left
  · obtain ⟨g, frz, sz', xs', h1, h2⟩ := hl
    rw [upd_same] at h1
    injection h1 with _ h1
    subst h1
    rw [hrho0] at h2
    cases h2
    exact Nat.le_refl _
  refine hi.upd hx fr _ (fun b hb => ?_) (fun b loc hb hl => ⟨hold _ (hl.lt hi), rfl⟩) ⟨.inr ⟨rfl, _, hrho0, rfl, hi.base, ⟨C, e, hnew, by simpa using hC⟩, hs, fun k j x hk => ?_, ?_⟩, fun g' hg' => ?_⟩ (by simp) ?_ (fun c hc => ?_)
  · funext g; show (if _ then _ else _) = _; rw [if_neg (by rintro ⟨rfl, _⟩; exact hb rfl)]
  · obtain ⟨v, hv, hr⟩ := hc k j x hk
    refine ⟨v, ?_, hr.ext hx⟩
    show World.cell? _ _ = _
    unfold World.cell?
    simp only [hnew, Nat.zero_add]
    simpa using hv
  · have : κ.prot w.heap.size = 0 := by
      rcases Nat.eq_zero_or_pos (κ.prot w.heap.size) with h0 | h0
      · exact h0
      · exact absurd (hi.prot _ (by omega)) (Nat.lt_irrefl _)
    show κ.prot w.heap.size ≤ _
    rw [this]; exact Nat.zero_le _
  · show (if _ then _ else _) = _
    rw [if_neg (by rintro ⟨_, rfl⟩; omega)]; exact hd g'
  · rintro loc0 ⟨g, frz, sz', xs', h1, h2⟩ b loc hb hl heq
    rw [upd_same] at h1
    injection h1 with _ h1
    subst h1
    rw [hrho0] at h2
    cases h2
    have := hl.lt hi
    simp only at heq
    omega
  · have := hi.prot c hc; simp; omega
end Go.Am
end
section
namespace Go.Am
open Go Go.RowKit

theorem cell_setRow {w : World} {c : Nat} {C D : Array Value} {e : TypeId} (hc : w.heap[c]? = some (.cells D e (0, 0))) (off : Nat) : (w.setRow c C).cell? ⟨c, off, none⟩ = C[off]? := by
  unfold World.cell?
  simp [setRow_heap w c D C e (0, 0) hc]
theorem cell_of_heap {w : World} {c : Nat} {C : Array Value} {e : TypeId} (hc : w.heap[c]? = some (.cells C e (0, 0))) (off : Nat) : w.cell? ⟨c, off, none⟩ = C[off]? := by
  unfold World.cell?
  simp [hc]
/-- The cells of an own row are written. -/
theorem Inv.setRow {κ : K} {h : Nat → Blk} {w : World} (hi : Inv κ h w) {b g sz : Nat} {frz : Bool} {xs : List AV} {loc : Loc} (hb : h b = .row false g frz sz xs) (hρ : κ.rho b g = some (some loc))
    {C C' : Array Value} {e : TypeId} (hC : w.heap[loc.c]? = some (.cells C e (0, 0))) (hsz : C'.size = C.size) (frz' : Bool) (xs' : List AV) (hkeep : ∀ off, off < κ.prot loc.c → C'[off]? = C[off]?)
    (hs : ∀ x ∈ xs', x.cells.length = sz) (hfit : loc.o + xs'.length * sz ≤ C.size)
    (hcell : ∀ (k j : Nat) (x : AV), cellAt xs' k j = some x → ∃ v, C'[loc.o + k * sz + j]? = some v ∧ VRel κ w x v)
    (hprot : κ.prot loc.c ≤ if frz' then loc.o + xs'.length * sz else 0) :
    Ext κ w κ (w.setRow loc.c C') ∧ Inv κ (Am.upd h b (.row false g frz' sz xs')) (w.setRow loc.c C') ∧ Chg κ h w κ (Am.upd h b (.row false g frz' sz xs')) (w.setRow loc.c C') := by
  have hl : Lies κ h b loc := ⟨g, frz, sz, xs, hb, hρ⟩
  obtain ⟨g0, frz0, sz0, xs0, h1, h2, hr⟩ := hl.row hi
  rw [hb] at h1
  injection h1 with _ e1 e2 e3 e4
  subst e1 e2 e3 e4
  have hx : Ext κ w κ (w.setRow loc.c C') := by
    refine ⟨rfl, fun _ _ _ h => h, fun _ => Nat.le_refl _, fun c off v hp hv => ?_, fun c D e' hc => ?_, rfl⟩
    · by_cases hcc : c = loc.c
      · subst hcc
        rcases hp with hp | hp
        · exact absurd hr.own (by omega)
        · rw [cell_setRow hC, hkeep off hp, ← cell_of_heap hC]; exact hv
      · exact (World.cell?_of_block (w := w) (setRow_other _ _ _ _ hcc)).trans hv
    · by_cases hcc : c = loc.c
      · subst hcc
        rw [hC] at hc; injection hc with hc; injection hc with h3 h4; subst h3 h4
        exact ⟨C', setRow_heap w _ _ _ _ _ hC, hsz⟩
      · exact ⟨D, by rw [setRow_other _ _ _ _ hcc]; exact hc, rfl⟩
  refine ⟨hx, hi.upd hx b _ (fun _ _ => rfl) (fun b' loc' hb' hl' => ⟨setRow_other _ _ _ _ fun hc => hb' (hi.inj _ _ _ _ hl' hl hc), rfl⟩) ?_ (by simp) ?_ (fun c hc => by simpa using hi.prot c hc),
    Chg.of b _ rfl rfl rfl (by simp) (fun _ _ => rfl) (fun c _ hc => setRow_other _ _ _ _ fun he => hc b loc hl he.symm) (fun loc0 hl0 => .inl ⟨b, loc, hl, by
      obtain ⟨g1, f1, s1, x1, h3, h4⟩ := hl0
      rw [upd_same] at h3; injection h3 with _ h3; subst h3
      rw [hρ] at h4; cases h4; rfl⟩)⟩
  · have hg : ∀ g', g < g' → κ.rho b g' = none := by have := hi.ok b; rw [hb] at this; exact this.2
    refine ⟨.inr ⟨rfl, loc, hρ, hr.hsz, hr.own, ⟨C', e, setRow_heap w _ _ _ _ _ hC, by omega⟩, hs, fun k j x hk => ?_, hprot⟩, hg⟩
    obtain ⟨v, hv, hv'⟩ := hcell k j x hk
    exact ⟨v, by rw [cell_setRow hC]; exact hv, hv'.ext hx⟩
  · rintro loc0 ⟨g1, f1, s1, x1, h3, h4⟩ b' loc' hb' hl' hc
    rw [upd_same] at h3
    injection h3 with _ h3
    subst h3
    rw [hρ] at h4; cases h4
    exact hb' (hi.inj _ _ _ _ hl' hl hc)
/-- The same row under a new number. -/
theorem Inv.regen {κ : K} {h : Nat → Blk} {w : World} (hi : Inv κ h w) {b g sz : Nat} {frz : Bool} {xs : List AV} {loc : Loc} (hb : h b = .row false g frz sz xs) (hρ : κ.rho b g = some (some loc)) :
    ∃ κ', Ext κ w κ' w ∧ Inv κ' (Am.upd h b (.row false (g + 1) frz sz xs)) w ∧ κ'.rho b (g + 1) = some (some loc) ∧ Chg κ h w κ' (Am.upd h b (.row false (g + 1) frz sz xs)) w := by
  have hl : Lies κ h b loc := ⟨g, frz, sz, xs, hb, hρ⟩
  obtain ⟨g0, frz0, sz0, xs0, h1, h2, hr⟩ := hl.row hi
  rw [hb] at h1
  injection h1 with _ e1 e2 e3 e4
  subst e1 e2 e3 e4
  have hg : ∀ g', g < g' → κ.rho b g' = none := by have := hi.ok b; rw [hb] at this; exact this.2
  let κ' : K := { κ with rho := fun b' g' => if b' = b ∧ g' = g + 1 then some (some loc) else κ.rho b' g' }
  have hx : Ext κ w κ' w := by
    refine ⟨rfl, fun b' g' x hb' => ?_, fun _ => Nat.le_refl _, fun _ _ _ _ h => h, fun c C e h => ⟨C, h, rfl⟩, rfl⟩
    show (if _ then _ else _) = _
    rw [if_neg]
    · exact hb'
    · rintro ⟨rfl, rfl⟩; rw [hg _ (by omega)] at hb'; cases hb'
  have h0 : κ'.rho b (g + 1) = some (some loc) := by show (if _ then _ else _) = _; simp
  have hrho' : ∀ b', b' ≠ b → κ'.rho b' = κ.rho b' := fun b' hb' => by funext g'; show (if _ then _ else _) = _; rw [if_neg (by rintro ⟨rfl, _⟩; exact hb' rfl)]
  refine ⟨κ', hx, hi.upd hx b _ (fun b' hb' => ?_) (fun _ _ _ _ => ⟨rfl, rfl⟩) ⟨.inr ⟨rfl, loc, h0, hr.keep hx rfl rfl⟩, fun g' hg' => ?_⟩ (Nat.le_refl _) ?_ hi.prot, h0,
    Chg.of b _ rfl rfl rfl (Nat.le_refl _) hrho' (fun _ _ _ => rfl) (fun loc0 hl0 => .inl ⟨b, loc, hl, by
      obtain ⟨g1, f1, s1, x1, h3, h4⟩ := hl0
      rw [upd_same] at h3; injection h3 with _ h3; subst h3
      rw [h0] at h4; cases h4; rfl⟩)⟩
  · funext g'; show (if _ then _ else _) = _; rw [if_neg (by rintro ⟨rfl, _⟩; exact hb' rfl)]
  · show (if _ then _ else _) = _
    rw [if_neg (by rintro ⟨_, rfl⟩; omega)]; exact hg g' (by omega)
  · rintro loc0 ⟨g1, f1, s1, x1, h3, h4⟩ b' loc' hb' hl' hc
    rw [upd_same] at h3
    injection h3 with _ h3
    subst h3
    rw [h0] at h4; cases h4
    exact hb' (hi.inj _ _ _ _ hl' hl hc)
/-- A row that leaves its block for a new one (an append that grows, a nil slice's first elements). -/
theorem Inv.moved {κ : K} {h : Nat → Blk} {w : World} (hi : Inv κ h w) {b g sz : Nat} {nil frz : Bool} {xs : List AV} (hb : h b = .row nil g frz sz xs) (C : Array Value) (e : TypeId) {xs' : List AV}
    (hs : ∀ x ∈ xs', x.cells.length = sz) (hC : xs'.length * sz ≤ C.size)
    (hc : ∀ (k j : Nat) (x : AV), cellAt xs' k j = some x → ∃ v, C[k * sz + j]? = some v ∧ VRel κ w x v) :
    ∃ κ', Ext κ w κ' (w.alloc (.cells C e)) ∧ Inv κ' (Am.upd h b (.row false (g + 1) false sz xs')) (w.alloc (.cells C e)) ∧ κ'.rho b (g + 1) = some (some ⟨w.heap.size, 0, sz⟩) ∧ Chg κ h w κ' (Am.upd h b (.row false (g + 1) false sz xs')) (w.alloc (.cells C e)) := by
  have hd : ∀ g', g < g' → κ.rho b g' = none := by have := hi.ok b; rw [hb] at this; exact this.2
  have hnew : (w.alloc (.cells C e)).heap[w.heap.size]? = some (.cells C e (0, 0)) := World.alloc_heap_new w _
  have hold : ∀ k, k < w.heap.size → (w.alloc (.cells C e)).heap[k]? = w.heap[k]? := fun k hk => Below.heap_alloc w _ k hk
  let κ' : K := { κ with rho := fun b' g' => if b' = b ∧ g' = g + 1 then some (some ⟨w.heap.size, 0, sz⟩) else κ.rho b' g' }
  have hx : Ext κ w κ' (w.alloc (.cells C e)) := by
    refine ⟨rfl, fun b' g' x hb' => ?_, fun _ => Nat.le_refl _, fun c off v _ hv => ?_, fun c C' e' hc' => ⟨C', ?_, rfl⟩, rfl⟩
    · show (if _ then _ else _) = _
      rw [if_neg]
      · exact hb'
      · rintro ⟨rfl, rfl⟩; rw [hd _ (by omega)] at hb'; cases hb'
    · have hlt := World.block_lt_of_cell? w _ hv
      exact (World.cell?_of_block (w := w) (hold _ hlt)).trans hv
    · rw [hold _ (Array.getElem?_eq_some_iff.1 hc').1]; exact hc'
  have hrho0 : κ'.rho b (g + 1) = some (some ⟨w.heap.size, 0, sz⟩) := by show (if _ then _ else _) = _; simp
  have hrho' : ∀ b', b' ≠ b → κ'.rho b' = κ.rho b' := fun b' hb' => by funext g'; show (if _ then _ else _) = _; rw [if_neg (by rintro ⟨rfl, _⟩; exact hb' rfl)]
  refine ⟨κ', hx, ?_, hrho0, Chg.of b _ rfl rfl rfl (by simp) hrho' (fun c hc _ => hold c hc) (fun loc hl => .inr ?_)⟩
  rotate_left
  · obtain ⟨g1, frz1, sz1, xs1, h1, h2⟩ := hl
    rw [upd_same] at h1
    injection h1 with _ h1
    subst h1
    rw [hrho0] at h2
    cases h2
    exact Nat.le_refl _
  refine hi.upd hx b _ (fun b' hb' => ?_) (fun b' loc hb' hl => ⟨hold _ (hl.lt hi), rfl⟩) ⟨.inr ⟨rfl, _, hrho0, rfl, hi.base, ⟨C, e, hnew, by simpa using hC⟩, hs, fun k j x hk => ?_, ?_⟩, fun g' hg' => ?_⟩ (by simp) ?_ (fun c hc => ?_)
  · funext g'; show (if _ then _ else _) = _; rw [if_neg (by rintro ⟨rfl, _⟩; exact hb' rfl)]
  · obtain ⟨v, hv, hr⟩ := hc k j x hk
    refine ⟨v, ?_, hr.ext hx⟩
    rw [cell_of_heap hnew, Nat.zero_add]; exact hv
  · have : κ.prot w.heap.size = 0 := by
      rcases Nat.eq_zero_or_pos (κ.prot w.heap.size) with h0 | h0
      · exact h0
      · exact absurd (hi.prot _ (by omega)) (Nat.lt_irrefl _)
    show κ.prot w.heap.size ≤ _
    rw [this]; exact Nat.zero_le _
  · show (if _ then _ else _) = _
    rw [if_neg (by rintro ⟨_, rfl⟩; omega)]; exact hd g' (by omega)
  · rintro loc0 ⟨g1, frz1, sz1, xs1, h1, h2⟩ b' loc hb' hl heq
    rw [upd_same] at h1
    injection h1 with _ h1
    subst h1
    rw [hrho0] at h2
    cases h2
    have := hl.lt hi
    simp only at heq
    omega
  · have := hi.prot c hc; simp; omega
/-- The row of a nil slice. -/
theorem Inv.newNil {κ : K} {h : Nat → Blk} {w : World} (hi : Inv κ h w) {fr : Nat} (hf : h fr = .dead) (sz : Nat) :
    ∃ κ', Ext κ w κ' w ∧ Inv κ' (Am.upd h fr (.row true 0 false sz [])) w ∧ κ'.rho fr 0 = some none ∧ Chg κ h w κ' (Am.upd h fr (.row true 0 false sz [])) w := by
  have hd : ∀ g, κ.rho fr g = none := by have := hi.ok fr; rw [hf] at this; exact this
  let κ' : K := { κ with rho := fun b g => if b = fr ∧ g = 0 then some none else κ.rho b g }
  have hx : Ext κ w κ' w := by
    refine ⟨rfl, fun b g x hb => ?_, fun _ => Nat.le_refl _, fun _ _ _ _ h => h, fun c C e h => ⟨C, h, rfl⟩, rfl⟩
    show (if _ then _ else _) = _
    rw [if_neg]
    · exact hb
    · rintro ⟨rfl, rfl⟩; rw [hd] at hb; cases hb
  have h0 : κ'.rho fr 0 = some none := by show (if _ then _ else _) = _; simp
  refine ⟨κ', hx, hi.upd hx fr _ (fun b hb => ?_) (fun _ _ _ _ => ⟨rfl, rfl⟩) ⟨.inl ⟨rfl, h0, rfl⟩, fun g' hg' => ?_⟩ (Nat.le_refl _) ?_ hi.prot, h0,
    Chg.of fr _ rfl rfl rfl (Nat.le_refl _) (fun b hb => by funext g; show (if _ then _ else _) = _; rw [if_neg (by rintro ⟨rfl, _⟩; exact hb rfl)]) (fun _ _ _ => rfl) (fun loc0 hl0 => by
      obtain ⟨g1, f1, s1, x1, h3, h4⟩ := hl0
      rw [upd_same] at h3; cases h3)⟩
  · funext g; show (if _ then _ else _) = _; rw [if_neg (by rintro ⟨rfl, _⟩; exact hb rfl)]
  · show (if _ then _ else _) = _
    rw [if_neg (by rintro ⟨_, rfl⟩; omega)]; exact hd g'
  · rintro loc0 ⟨g1, f1, s1, x1, h3, h4⟩
    rw [upd_same] at h3
    cases h3
/-- From now on the cells of a row stay as they are. -/
theorem Inv.freeze {κ : K} {h : Nat → Blk} {w : World} (hi : Inv κ h w) {b g sz : Nat} {frz : Bool} {xs : List AV} {loc : Loc} (hb : h b = .row false g frz sz xs) (hρ : κ.rho b g = some (some loc)) :
    ∃ κ', Ext κ w κ' w ∧ Inv κ' (Am.upd h b (.row false g true sz xs)) w ∧ κ'.rho b g = some (some loc) ∧ κ'.prot loc.c = loc.o + xs.length * sz ∧ Chg κ h w κ' (Am.upd h b (.row false g true sz xs)) w := by
  have hl : Lies κ h b loc := ⟨g, frz, sz, xs, hb, hρ⟩
  obtain ⟨g0, frz0, sz0, xs0, h1, h2, hr⟩ := hl.row hi
  rw [hb] at h1
  injection h1 with _ e1 e2 e3 e4
  subst e1 e2 e3 e4
  have hg : ∀ g', g < g' → κ.rho b g' = none := by have := hi.ok b; rw [hb] at this; exact this.2
  let κ' : K := { κ with prot := fun c => if c = loc.c then loc.o + xs.length * sz else κ.prot c }
  have hp : κ.prot loc.c ≤ loc.o + xs.length * sz := by have := hr.prot; split at this <;> omega
  have hx : Ext κ w κ' w := by
    refine ⟨rfl, fun _ _ _ h => h, fun c => ?_, fun _ _ _ _ h => h, fun c C e h => ⟨C, h, rfl⟩, rfl⟩
    show _ ≤ (if _ then _ else _)
    split
    · rename_i hc; subst hc; exact hp
    · exact Nat.le_refl _
  have hp' : κ'.prot loc.c = loc.o + xs.length * sz := by show (if _ then _ else _) = _; simp
  refine ⟨κ', hx, hi.upd hx b _ (fun _ _ => rfl) (fun b' loc' hb' hl' => ⟨rfl, ?_⟩) ⟨.inr ⟨rfl, loc, hρ, hr.hsz, hr.own, hr.blk, hr.size, fun k j x hk => ?_, by rw [hp']; exact Nat.le_refl _⟩, hg⟩ (Nat.le_refl _) ?_ (fun c hc => ?_), hρ, hp',
    Chg.of b _ rfl rfl rfl (Nat.le_refl _) (fun _ _ => rfl) (fun _ _ _ => rfl) (fun loc0 hl0 => .inl ⟨b, loc, hl, by
      obtain ⟨g1, f1, s1, x1, h3, h4⟩ := hl0
      rw [upd_same] at h3; injection h3 with _ h3; subst h3
      have h4 : κ.rho b g = some (some loc0) := h4
      rw [hρ] at h4; cases h4; rfl⟩) (fun c _ hc => by show (if _ then _ else _) = _; rw [if_neg (fun he => hc b loc hl he.symm)])⟩
  · show (if _ then _ else _) = _
    rw [if_neg fun hc => hb' (hi.inj _ _ _ _ hl' hl hc)]
  · obtain ⟨v, hv, hv'⟩ := hr.cell k j x hk
    exact ⟨v, hv, hv'.ext hx⟩
  · rintro loc0 ⟨g1, f1, s1, x1, h3, h4⟩ b' loc' hb' hl' hc
    rw [upd_same] at h3
    injection h3 with _ h3
    subst h3
    have h4 : κ.rho b g = some (some loc0) := h4
    rw [hρ] at h4; cases h4
    exact hb' (hi.inj _ _ _ _ hl' hl hc)
  · by_cases hcc : c = loc.c
    · subst hcc; exact hl.lt hi
    · have : κ'.prot c = κ.prot c := by show (if _ then _ else _) = _; rw [if_neg hcc]
      exact hi.prot c (this ▸ hc)
theorem Ext.drew (κ : K) (w : World) : Ext κ w κ w.drew := ⟨rfl, fun _ _ _ h => h, fun _ => Nat.le_refl _, fun _ _ _ _ h => h, fun _ C _ h => ⟨C, h, rfl⟩, rfl⟩
theorem Inv.heapEq {κ : K} {h : Nat → Blk} {w w' : World} (hi : Inv κ h w) (hw : w'.heap = w.heap) : Inv κ h w' := by
  have hx : Ext κ w κ w' := ⟨rfl, fun _ _ _ h => h, fun _ => Nat.le_refl _, fun c off v _ h => by unfold World.cell? at h ⊢; rw [hw]; exact h, fun _ C _ h => ⟨C, by rw [hw]; exact h, rfl⟩, rfl⟩
  refine ⟨by rw [hw]; exact hi.base, fun b => ?_, hi.inj, fun c hc => by rw [hw]; exact hi.prot c hc⟩
  have h0 := hi.ok b
  cases hbl : h b with
  | dead => rw [hbl] at h0; exact h0
  | row nil g frz sz xs =>
    rw [hbl] at h0
    obtain ⟨h1, h2⟩ := h0
    refine ⟨?_, h2⟩
    rcases h1 with h3 | ⟨h3, loc, h4, h5⟩
    · exact .inl h3
    · exact .inr ⟨h3, loc, h4, h5.keep hx (by rw [hw]) rfl⟩
theorem Chg.heapEq {κ : K} {h : Nat → Blk} {w w' : World} (h1 : w'.heap = w.heap) (h2 : w'.os = w.os) (h3 : w'.tape = w.tape) (h4 : w'.output = w.output) : Chg κ h w κ h w' :=
  ⟨h2, h3, h4, by rw [h1]; exact Nat.le_refl _, fun c _ _ => by rw [h1], fun b loc hl => .inl ⟨b, loc, hl, rfl⟩, fun _ _ _ => rfl⟩
end Go.Am
end
section
namespace Go.Am
open Go Go.RowKit

/-- A string of bytes. -/
def bsOf (l : List Nat) : ByteArray := ⟨(l.map UInt8.ofNat).toArray⟩
/-- What one cell can hold. -/
def AV.one : AV → Bool
  | .agg _ | .tup _ | .und => false
  | _ => true
def ofScalar : Value → AV
  | .int k n => .int k n
  | .bool b => .bool b
  | .string s => .str s
  | .pointer none => .nilp
  | .slice none 0 0 => .nils
  | .nilFunc => .nilf
  | .nilIface => .nili
  | .func (.func f) ⟨[]⟩ ⟨[]⟩ => .clo f []
  | _ => .und
def ofConst : Value → AV
  | .agg cs => .agg (cs.toList.map ofScalar)
  | .tuple cs => .tup (cs.toList.map ofScalar)
  | v => ofScalar v
theorem ofScalar_rel (κ : K) (w : World) (v : Value) : VRel κ w (ofScalar v) v := by
  unfold ofScalar
  split <;> first
    | exact .int _ _ | exact .bool _ | exact .str _ | exact .nilp | exact .nils | exact .nilf | exact .nili | exact .und _
    | exact .clo rfl (fun i x v h => by simp at h)
theorem ofConst_rel (κ : K) (w : World) (v : Value) : VRel κ w (ofConst v) v := by
  unfold ofConst
  split
  · rename_i cs
    refine .agg (by simp) (fun i x v hx hv => ?_)
    simp only [List.getElem?_map, Array.getElem?_toList, hv, Option.map_some, Option.some.injEq] at hx
    subst hx; exact ofScalar_rel κ w v
  · rename_i cs
    refine .tup (by simp) (fun i x v hx hv => ?_)
    simp only [List.getElem?_map, Array.getElem?_toList, hv, Option.map_some, Option.some.injEq] at hx
    subst hx; exact ofScalar_rel κ w v
  · exact ofScalar_rel κ w _
inductive Opd where
  | t (n : Nat)
  | c (v : AV)
  deriving Inhabited
def Opd.ev (sl : Nat → AV) : Opd → AV
  | .t n => sl n
  | .c v => v
def copd : Operand → Opd
  | .tmp t => .t t
  | .const v => .c (ofConst v)
  | .global _ => .c .und
  | .func f => .c (.clo f [])
def SRel (κ : K) (w : World) (sl : Nat → AV) (a : Act) : Prop := ∀ t, VRel κ w (sl t) (a.tmps.getD t undef)
theorem ev_rel {κ : K} {w : World} {sl : Nat → AV} {a : Act} (hs : SRel κ w sl a) (x : Operand) : VRel κ w ((copd x).ev sl) (a.eval x) := by
  cases x with
  | tmp t => exact hs t
  | const v => exact ofConst_rel κ w v
  | global g => exact .und _
  | func f => exact .clo rfl (fun i x v h => by simp at h)
/-- What an operation does: a value, own rows anew. -/
structure Res where
  v : AV
  ups : List (Nat × Blk) := []
def updL (h : Nat → Blk) (l : List (Nat × Blk)) : Nat → Blk := l.foldl (fun h p => upd h p.1 p.2) h
def Runs (P : Program) (s : Sem Next) (κ : K) (h : Nat → Blk) (w : World) (x : AV) (h' : Nat → Blk) : Prop :=
  ∃ v κ' w', (s.run P w = .ok (.value v) w' ∨ (s.run P w = .ok .skip w' ∧ v = undef)) ∧ Ext κ w κ' w' ∧ Inv κ' h' w' ∧ VRel κ' w' x v ∧ Chg κ h w κ' h' w'
theorem Runs.pure {P : Program} {s : Sem Next} {κ : K} {w : World} {x : AV} {h : Nat → Blk} {v : Value} (hs : s.run P w = .ok (.value v) w) (hi : Inv κ h w) (hv : VRel κ w x v) : Runs P s κ h w x h :=
  ⟨v, κ, w, .inl hs, .refl _ _, hi, hv, .refl _ _ _⟩
/-- The cells of what is related. -/
theorem one_rel {κ : K} {w : World} {x : AV} {v : Value} (h : VRel κ w x v) (ho : x.one = true) : v.cells = #[v] ∧ v.oneCell' = true := by
  cases h <;> first | exact ⟨rfl, rfl⟩ | simp [AV.one] at ho
def AV.elem (x : AV) : Bool := x.cells.all AV.one
theorem cells_rel {κ : K} {w : World} {x : AV} {v : Value} (h : VRel κ w x v) (ho : x.elem = true) :
    v.cells.size = x.cells.length ∧ (∀ (j : Nat) (y : AV), x.cells[j]? = some y → ∃ u, v.cells[j]? = some u ∧ VRel κ w y u ∧ u.oneCell' = true) ∧ v.cells.all (·.oneCell') = true := by
  have key : ∀ (cs : List AV) (vs : Array Value), cs.length = vs.size → (∀ (i : Nat) (x : AV) (v : Value), cs[i]? = some x → vs[i]? = some v → VRel κ w x v) → cs.all AV.one = true →
      vs.size = cs.length ∧ (∀ (j : Nat) (y : AV), cs[j]? = some y → ∃ u, vs[j]? = some u ∧ VRel κ w y u ∧ u.oneCell' = true) ∧ vs.all (·.oneCell') = true := by
    intro cs vs hl hr ho
    have h1 : ∀ (j : Nat) (y : AV), cs[j]? = some y → ∃ u, vs[j]? = some u ∧ VRel κ w y u ∧ u.oneCell' = true := by
      intro j y hj
      have hlt : j < vs.size := by rw [← hl]; exact (List.getElem?_eq_some_iff.1 hj).1
      refine ⟨vs[j], by simp [hlt], hr j y _ hj (by simp [hlt]), ?_⟩
      exact (one_rel (hr j y vs[j] hj (by simp [hlt])) (List.all_eq_true.1 ho y (List.mem_of_getElem? hj))).2
    refine ⟨hl.symm, h1, ?_⟩
    rw [Array.all_eq_true]
    intro j hj
    obtain ⟨u, hu, _, h2⟩ := h1 j (cs[j]'(by omega)) (by simp [hl, hj])
    have : vs[j] = u := by simpa [hj] using hu
    simpa [this] using h2
  cases hx : x with
  | agg cs =>
    subst hx
    cases h with
    | agg hl hr => exact key cs _ hl hr ho
  | _ =>
    subst hx
    have h1 := one_rel h (by simpa [AV.elem, AV.cells] using ho)
    refine ⟨by rw [h1.1]; rfl, fun j y hj => ?_, by rw [h1.1]; simpa using h1.2⟩
    rw [h1.1]
    cases j with
    | zero => simp [AV.cells] at hj; subst hj; exact ⟨v, rfl, h, h1.2⟩
    | succ j => simp [AV.cells] at hj
/-- A value out of its cells. -/
theorem agg_of_cells {κ : K} {w : World} {cs : List AV} {vs : List Value} (hl : cs.length = vs.length) (hr : ∀ (i : Nat) (x : AV) (v : Value), cs[i]? = some x → vs[i]? = some v → VRel κ w x v) : VRel κ w (.agg cs) (.agg vs.toArray) :=
  .agg (by simpa using hl) (fun i x v hx hv => hr i x v hx (by simpa using hv))
/-- The kinds of cells that '==' compares. -/
inductive SK where
  | i | b | s
  deriving DecidableEq, Inhabited
inductive AOp where
  | mv (x : Opd)
  | smv (x : Opd)
  | newnil (sz : Nat)
  | pick (c a b : Opd)
  | alloc (z : AV)
  | box (x : Opd)
  | build (z : List AV) (parts : List (Nat × Nat × Opd))
  | bsl (sz : Nat) (xs : List Opd)
  | load (agg : Bool) (sz : Nat) (x : Opd)
  | store (sz : Nat) (x v : Opd)
  | nchk (x : Opd)
  | bin (op : BinOp) (x y : Opd)
  | eqv (neg agg : Bool) (ks : List SK) (x y : Opd)
  | neg (x : Opd)
  | not (x : Opd)
  | conv (k : IntKind) (x : Opd)
  | ext (x : Opd) (i : Nat)
  | faddr (x : Opd) (off : Nat)
  | fld (x : Opd) (off : Nat) (agg : Bool) (sz : Nat)
  | iaddr (sz : Nat) (x i : Opd)
  | iaddrA (n sz : Nat) (x i : Opd)
  | idxA (n sz : Nat) (agg : Bool) (x i : Opd)
  | idxS (x i : Opd)
  | slc (sz : Nat) (x : Opd) (lo hi : Option Opd)
  | slcM (sz : Nat) (x hi mx : Opd)
  | mks (sz bytes : Nat) (z : AV) (n : Opd)
  | mkf (f : FuncId) (caps : List Opd)
  | len (x : Opd)
  | lenS (x : Opd)
  | lenC (n : Nat)
  | append (sz bytes : Nat) (x y : Opd)
  | mx (xs : List Opd)
  | mn (xs : List Opd)
  | clear (sz : Nat) (z : AV) (x : Opd)
  | copy (sz : Nat) (x y : Opd)
  | call (f : Opd) (args : List Opd)
  | bad
  deriving Inhabited
def AV.putCells (e : AV) (o : Nat) (vs : List AV) : AV :=
  match e with
  | .agg cs => .agg (cs.take o ++ vs ++ cs.drop (o + vs.length))
  | _ => match vs with
    | [v] => v
    | _ => .und
/-- '+', '-', '*', '/', '%' and comparisons of whole numbers; comparisons of bools and strings. -/
def binAV (op : BinOp) (x y : AV) : Option AV :=
  match x, y with
  | .int k a, .int k' b =>
    if k = k' then
      match op with
      | .add => some (.int k (k.wrap (a + b)))
      | .sub => some (.int k (k.wrap (a - b)))
      | .mul => some (.int k (k.wrap (a * b)))
      | .quo => if b = 0 then none else some (.int k (k.wrap (a.tdiv b)))
      | .rem => if b = 0 then none else some (.int k (a.tmod b))
      | .eql => some (.bool (a == b))
      | .neq => some (.bool (a != b))
      | .lss => some (.bool (a < b))
      | .leq => some (.bool (a ≤ b))
      | .gtr => some (.bool (a > b))
      | .geq => some (.bool (a ≥ b))
      | _ => none
    else none
  | .str a, .str b =>
    match op with
    | .eql => some (.bool (a.toList == b.toList))
    | .neq => some (.bool (!(a.toList == b.toList)))
    | .lss => some (.bool (Op.bytesLess a.toList b.toList))
    | .leq => some (.bool (Op.bytesLess a.toList b.toList || a.toList == b.toList))
    | .gtr => some (.bool (!(Op.bytesLess a.toList b.toList || a.toList == b.toList)))
    | .geq => some (.bool (!Op.bytesLess a.toList b.toList))
    | .add => if ((a.size + b.size : Nat) : Int) ≤ 9223372036854775807 then some (.str (a ++ b)) else none
    | _ => none
  | _, _ => none
/-- '==' of cells. -/
def eqCell : SK → AV → AV → Option Bool
  | .i, .int k a, .int k' b => if k = k' then some (a == b) else none
  | .b, .bool a, .bool b => some (a == b)
  | .s, .str a, .str b => some (a.toList == b.toList)
  | _, _, _ => none
def eqCells : List SK → List AV → List AV → Option Bool
  | [], [], [] => some true
  | k :: ks, x :: xs, y :: ys => match eqCell k x y, eqCells ks xs ys with
    | some a, some b => some (a && b)
    | _, _ => none
  | _, _, _ => none
def intAV : AV → Option Int
  | .int _ n => some n
  | _ => none
def loadCells' (agg : Bool) (sz : Nat) (cs : List AV) : Option AV :=
  if agg then (if sz ≤ cs.length then some (.agg (cs.take sz)) else none) else cs[0]?
def fillA : List AV → List (Nat × Nat × AV) → Option (List AV)
  | cs, [] => some cs
  | cs, (off, sz, v) :: rest =>
    if v.cells.length = sz ∧ off + sz ≤ cs.length then fillA (cs.take off ++ v.cells ++ cs.drop (off + sz)) rest else none
def rowAt? (h : Nat → Blk) (b g : Nat) : Option (Bool × Nat × List AV) :=
  match h b with
  | .row false g' frz sz xs => if g' = g then some (frz, sz, xs) else none
  | _ => none
def pickAV (t : Bool) (x y : AV) : AV :=
  match x, y with
  | .bool a, .bool b => .bool (if t then a else b)
  | x, y => if t then x else y
def loadAV (h : Nat → Blk) (agg : Bool) (sz : Nat) : AV → Option AV
  | .ptr b g i o => match rowAt? h b g with
    | some (_, _, xs) => match xs[i]? with
      | some e => loadCells' agg sz (e.cells.drop o)
      | none => none
    | none => none
  | .rp _ cs => loadCells' agg sz cs
  | _ => none
def storeAV (h : Nat → Blk) (sz : Nat) (v : AV) : AV → Option (Nat × Blk)
  | .ptr b g i o => match rowAt? h b g with
    | some (false, rsz, xs) => match xs[i]? with
      | some e => if v.elem = true ∧ v.cells.length = sz ∧ o + sz ≤ rsz then some (b, .row false g false rsz (xs.set i (e.putCells o v.cells))) else none
      | none => none
    | _ => none
  | _ => none
def faddrAV (off : Nat) : AV → Option AV
  | .ptr b g i o => some (.ptr b g i (o + off))
  | .rp vol cs => some (.rp vol (cs.drop off))
  | _ => none
/-- The address of element k: of a row of the frame's own the row is looked at for the size of its elements alone. -/
def iaddrAV (h : Nat → Blk) (sz : Nat) (k : Int) : AV → Option AV
  | .sl b g i n => match rowAt? h b g with
    | some (_, rsz, _) => if rsz = sz ∧ 0 ≤ k ∧ k < (n : Int) then some (.ptr b g (i + k.toNat) 0) else none
    | none => none
  | .sv vol rsz xs => if rsz = sz ∧ 0 ≤ k ∧ k < (xs.length : Int) then (xs[k.toNat]?).map fun e => .rp vol e.cells else none
  | _ => none
def slcAV (lo hi : Option Int) : AV → Option AV
  | .sl b g i n => let l := lo.getD 0; let u := hi.getD n; if 0 ≤ l ∧ l ≤ u ∧ u ≤ (n : Int) then some (.sl b g (i + l.toNat) (u - l).toNat) else none
  | .sv _ sz xs => let l := lo.getD 0; let u := hi.getD xs.length; if 0 ≤ l ∧ l ≤ u ∧ u ≤ (xs.length : Int) then some (.sv false sz ((xs.drop l.toNat).take (u - l).toNat)) else none
  | _ => none
def lenAV : AV → Option AV
  | .sl _ _ _ n => some (.int .i64 n)
  | .sv _ _ xs => some (.int .i64 xs.length)
  | .nils => some (.int .i64 0)
  | _ => none
def extAV (i : Nat) : AV → Option AV
  | .tup vs => vs[i]?
  | _ => none
def fldAV (off : Nat) (agg : Bool) (sz : Nat) : AV → Option AV
  | .agg cs => loadCells' agg sz (cs.drop off)
  | _ => none
def optInt (sl : Nat → AV) : Option Opd → Option (Option Int)
  | none => some none
  | some x => (intAV (x.ev sl)).map some
def foldAV (f : Int → Int → Int) : AV → List AV → Option AV
  | .int k n, [] => some (.int k n)
  | .int k n, .int _ m :: rest => foldAV f (.int k (f n m)) rest
  | _, _ => none
def maxI (x y : Int) : Int := if y > x then y else x
def minI (x y : Int) : Int := if y < x then y else x
end Go.Am
end
section
set_option linter.unusedSimpArgs false
set_option linter.unusedVariables false
namespace Go.Am
open Go Go.RowKit

variable {P : Program} {κ : K} {w : World} {h : Nat → Blk}

theorem rowAt?_row {b g sz : Nat} {frz : Bool} {xs : List AV} (hi : Inv κ h w) (hr : rowAt? h b g = some (frz, sz, xs)) : h b = .row false g frz sz xs ∧ ∃ loc, κ.rho b g = some (some loc) ∧ RowAt κ w loc frz sz xs := by
  unfold rowAt? at hr
  split at hr
  · rename_i g' frz' sz' xs' hb
    split at hr
    · rename_i hg
      subst hg
      cases hr
      have := hi.ok b
      rw [hb] at this
      obtain ⟨(⟨h3, _⟩ | ⟨_, loc, h4, h5⟩), _⟩ := this
      · cases h3
      · exact ⟨hb, loc, h4, h5⟩
    · cases hr
  · cases hr
theorem addr_add (b o j : Nat) : (⟨b, o, none⟩ : Addr).add j = ⟨b, o + j, none⟩ := by unfold Addr.add; split <;> simp_all
def isAggD (d : TypeDesc) : Bool := match d with | .struct _ | .array _ _ => true | _ => false
/-- Cells that lie together are loaded. -/
theorem run_loadVar_cells {t : TypeId} {d : TypeDesc} {i : TypeInfo} (hu : P.underlying t = some d) (hinf : P.info? t = some i) (b o : Nat) (cs : List AV)
    (hc : ∀ (j : Nat) (x : AV), cs[j]? = some x → ∃ v, w.cell? ⟨b, o + j, none⟩ = some v ∧ VRel κ w x v) {agg : Bool} (hagg : agg = isAggD d) {x : AV} (hx : loadCells' agg i.size cs = some x) :
    ∃ v, (loadVar t ⟨b, o, none⟩).run P w = .ok v w ∧ VRel κ w x v := by
  have hisagg : (isAgg t).run P w = .ok agg w := by
    unfold isAgg
    simp only [Sem.run_bind, run_underlying hu, Result.andThen_ok]
    subst hagg
    cases d <;> rfl
  unfold loadCells' at hx
  cases agg with
  | true =>
    simp only [if_true] at hx
    split at hx
    · rename_i hle
      cases hx
      have hch : ∀ j, j < i.size → ∃ v, w.cell? ⟨b, o + j, none⟩ = some v ∧ ∀ x, cs[j]? = some x → VRel κ w x v := by
        intro j hj
        obtain ⟨v, hv, hr⟩ := hc j (cs[j]'(by omega)) (by simp [show j < cs.length by omega])
        exact ⟨v, hv, fun x hx => by
          have : cs[j]'(by omega) = x := by simpa [show j < cs.length by omega] using hx
          subst this; exact hr⟩
      let F : Nat → Value := fun j => if hj : j < i.size then Classical.choose (hch j hj) else undef
      have hF : ∀ j (hj : j < i.size), w.cell? ⟨b, o + j, none⟩ = some (F j) ∧ ∀ x, cs[j]? = some x → VRel κ w x (F j) := by
        intro j hj
        simp only [F, dif_pos hj]
        exact Classical.choose_spec (hch j hj)
      have hload := run_loadCells_list (P := P) (w := w) ⟨b, o, none⟩ ((List.range i.size).map F) (fun j v hj => by
        rw [addr_add]
        have hjl : j < i.size := by have := (List.getElem?_eq_some_iff.1 hj).1; simpa using this
        have : v = F j := by simpa [hjl] using hj.symm
        subst this; exact (hF j hjl).1)
      rw [List.length_map, List.length_range] at hload
      refine ⟨.agg ((List.range i.size).map F).toArray, ?_, agg_of_cells (by simp; omega) (fun j x v hx hv => ?_)⟩
      · unfold loadVar
        simp only [Sem.run_bind, hisagg, Result.andThen_ok, if_true, sizeOf, typeInfo, run_program, hinf]
        simp [hload, pure]
      · have hj : j < i.size := by have := (List.getElem?_eq_some_iff.1 hv).1; simpa using this
        have : v = F j := by simpa [hj] using hv.symm
        subst this
        exact (hF j hj).2 x (by simpa [List.getElem?_take, hj] using hx)
    · cases hx
  | false =>
    simp only [Bool.false_eq_true, if_false] at hx
    obtain ⟨v, hv, hr⟩ := hc 0 x hx
    refine ⟨v, ?_, hr⟩
    unfold loadVar
    simp only [Sem.run_bind, hisagg, Result.andThen_ok, Bool.false_eq_true, if_false]
    rw [run_load]
    simp only [Nat.add_zero] at hv
    simp [hv]
theorem elem_cells {b o sz k : Nat} {xs : List AV} {e : AV} (hk : xs[k]? = some e) (hc : ∀ (k j : Nat) (x : AV), cellAt xs k j = some x → ∃ v, w.cell? ⟨b, o + k * sz + j, none⟩ = some v ∧ VRel κ w x v) (off : Nat) :
    ∀ (j : Nat) (x : AV), (e.cells.drop off)[j]? = some x → ∃ v, w.cell? ⟨b, o + k * sz + off + j, none⟩ = some v ∧ VRel κ w x v := by
  intro j x hj
  rw [List.getElem?_drop] at hj
  obtain ⟨v, hv, hr⟩ := hc k (off + j) x (by simp [cellAt, hk, hj])
  exact ⟨v, by rw [show o + k * sz + off + j = o + k * sz + (off + j) by omega]; exact hv, hr⟩
theorem snd_load {t : TypeId} {d : TypeDesc} {i : TypeInfo} (hu : P.underlying t = some d) (hinf : P.info? t = some i) (hi : Inv κ h w) {x : AV} {v : Value} (hv : VRel κ w x v)
    {agg : Bool} (hagg : agg = isAggD d) {y : AV} (hy : loadAV h agg i.size x = some y) :
    ∃ u, (Instr.loadAt t v).run P w = .ok u w ∧ VRel κ w y u := by
  cases hv with
  | ptr loc hρ =>
    rename_i b g k o
    simp only [loadAV] at hy
    split at hy
    · rename_i frz sz xs hrow
      split at hy
      · rename_i e he
        obtain ⟨hb, loc', hρ', hra⟩ := rowAt?_row hi hrow
        rw [hρ] at hρ'; cases hρ'
        obtain ⟨u, hrun, hr⟩ := run_loadVar_cells hu hinf loc.c (loc.o + k * loc.sz + o) (e.cells.drop o) (by rw [hra.hsz]; exact elem_cells he hra.cell o) hagg hy
        exact ⟨u, by simp only [Instr.loadAt, Instr.sureAddr, pure_bind]; exact hrun, hr⟩
      · cases hy
    · cases hy
  | rp p F hp hm hr =>
    simp only [loadAV] at hy
    obtain ⟨pb, po, ps⟩ := p
    simp only at hp; subst hp
    obtain ⟨u, hrun, hr'⟩ := run_loadVar_cells hu hinf pb po _ (fun j x hj => ⟨F j, (hm j x hj).1, hr j x hj⟩) hagg hy
    exact ⟨u, by simp only [Instr.loadAt, Instr.sureAddr, pure_bind]; exact hrun, hr'⟩
  | _ => simp [loadAV] at hy
/-- The cells of an element, some of them written anew. -/
theorem putCells_cells {e : AV} {o : Nat} {vs : List AV} (he : e.elem = true ∨ True) (hl : o + vs.length ≤ e.cells.length) (hv : vs.all AV.one = true) (hpos : 0 < vs.length) :
    (e.putCells o vs).cells = e.cells.take o ++ vs ++ e.cells.drop (o + vs.length) := by
  cases e with
  | agg cs => rfl
  | _ =>
    simp only [AV.cells, List.length_singleton] at hl
    obtain ⟨v, rfl⟩ : ∃ v, vs = [v] := by
      match vs, hl, hpos with
      | [v], _, _ => exact ⟨v, rfl⟩
      | _ :: _ :: _, hl, _ => simp at hl; omega
    have ho : o = 0 := by simp at hl; omega
    subst ho
    simp only [List.all_cons, List.all_nil, Bool.and_true] at hv
    cases v <;> simp_all [AV.putCells, AV.cells, AV.one]
theorem cellAt_set {xs : List AV} {i : Nat} {e e' : AV} (hi : xs[i]? = some e) (k j : Nat) : cellAt (xs.set i e') k j = if k = i then e'.cells[j]? else cellAt xs k j := by
  have hlt := (List.getElem?_eq_some_iff.1 hi).1
  unfold cellAt
  rw [List.getElem?_set]
  by_cases hk : k = i
  · subst hk; simp [hlt]
  · simp [hk, Ne.symm hk]
theorem snd_store {t : TypeId} {i : TypeInfo} (hinf : P.info? t = some i) (hi : Inv κ h w) {x y : AV} {v u : Value} (hv : VRel κ w x v) (hu : VRel κ w y u) (hpos : 0 < i.size)
    {b : Nat} {blk : Blk} (hy : storeAV h i.size y x = some (b, blk)) :
    ∃ w', (Instr.storeAt t v u).run P w = .ok () w' ∧ Ext κ w κ w' ∧ Inv κ (Am.upd h b blk) w' ∧ Chg κ h w κ (Am.upd h b blk) w' := by
  cases hv with
  | ptr loc hρ =>
    rename_i b' g k o
    simp only [storeAV] at hy
    split at hy
    · rename_i rsz xs hrow
      split at hy
      · rename_i e he
        split at hy
        · rename_i hcond
          obtain ⟨hel, hlen, hfit⟩ := hcond
          cases hy
          obtain ⟨hb, loc', hρ', hra⟩ := rowAt?_row hi hrow
          rw [hρ] at hρ'; cases hρ'
          obtain ⟨hcs, hcr, hone⟩ := cells_rel hu hel
          obtain ⟨C, ty, hC, hsize⟩ := hra.blk
          have hk : k < xs.length := (List.getElem?_eq_some_iff.1 he).1
          have hesz : e.cells.length = rsz := hra.size e (List.mem_of_getElem? he)
          have hkk : (k + 1) * rsz ≤ xs.length * rsz := Nat.mul_le_mul_right _ hk
          rw [Nat.add_mul, Nat.one_mul] at hkk
          obtain ⟨off, hoff⟩ : ∃ off, off = loc.o + k * loc.sz + o := ⟨_, rfl⟩
          have hle : off + u.cells.size ≤ C.size := by rw [hoff, hra.hsz, hcs]; omega
          have hone' : ∀ c ∈ u.cells.toList, c.oneCell' = true := by
            intro c hc
            have := Array.all_eq_true'.1 hone c (by simpa using hc)
            simpa using this
          have hrun := run_storeCells_at (P := P) loc.c off ty u.cells.toList 0 C w hC (by simpa using hle) hone'
          obtain ⟨C', hC'⟩ : ∃ C', C' = (C.toList.take (off + 0) ++ u.cells.toList ++ C.toList.drop (off + 0 + u.cells.toList.length)).toArray := ⟨_, rfl⟩
          rw [← hC'] at hrun
          have hget : ∀ q, C'[q]? = if off ≤ q ∧ q < off + u.cells.size then u.cells[q - off]? else C[q]? := by
            intro q
            rw [hC']
            simp only [Nat.add_zero, List.getElem?_toArray, Array.length_toList]
            rw [List.append_assoc, List.getElem?_append]
            simp only [List.length_take, Array.length_toList, Nat.min_eq_left (show off ≤ C.size by omega)]
            by_cases h1 : q < off
            · simp [h1, show ¬ (off ≤ q) by omega]
            · rw [if_neg h1, List.getElem?_append]
              by_cases h2 : q < off + u.cells.size
              · simp [show off ≤ q by omega, h2, show q - off < u.cells.size by omega]
              · simp only [Array.length_toList, show ¬ (q - off < u.cells.size) by omega, if_false, show ¬ (off ≤ q ∧ q < off + u.cells.size) by omega]
                rw [List.getElem?_drop]
                simp [show off + u.cells.size + (q - off - u.cells.size) = q by omega]
          have hsz' : C'.size = C.size := by
            rw [hC']; simp; omega
          have hp0 : κ.prot loc.c = 0 := by have := hra.prot; simp at this; exact this
          have hput := putCells_cells (e := e) (o := o) (vs := y.cells) (.inr trivial) (by omega) hel (by omega)
          obtain ⟨hx, hinv, hchg⟩ := hi.setRow hb hρ hC hsz' false (xs.set k (e.putCells o y.cells)) (fun q hq => by omega)
            (fun x hx => by
              rcases List.mem_or_eq_of_mem_set hx with h1 | h1
              · exact hra.size x h1
              · subst h1; rw [hput]; simp; omega)
            (by simpa using hsize)
            (fun k' j x hkj => by
              rw [cellAt_set he] at hkj
              by_cases hkk' : k' = k
              · subst hkk'
                rw [if_pos rfl, hput] at hkj
                rw [hget]
                have hj : j < rsz := by
                  have := (List.getElem?_eq_some_iff.1 hkj).1
                  simp at this; omega
                rw [List.append_assoc, List.getElem?_append, List.length_take, Nat.min_eq_left (by omega)] at hkj
                by_cases h1 : j < o
                · rw [if_pos h1] at hkj
                  rw [if_neg (by rw [hoff, hra.hsz]; omega)]
                  obtain ⟨q, hq, hqr⟩ := hra.cell k' j x (by simp only [cellAt, he, Option.bind_some]; rw [List.getElem?_take] at hkj; simpa [h1] using hkj)
                  exact ⟨q, by rw [← cell_of_heap hC]; exact hq, hqr⟩
                · rw [if_neg h1, List.getElem?_append] at hkj
                  by_cases h2 : j - o < y.cells.length
                  · rw [if_pos h2] at hkj
                    obtain ⟨q, hq, hqr, _⟩ := hcr _ _ hkj
                    refine ⟨q, ?_, hqr⟩
                    rw [if_pos (by rw [hoff, hra.hsz]; omega)]
                    rw [show loc.o + k' * rsz + j - off = j - o by rw [hoff, hra.hsz]; omega]; exact hq
                  · rw [if_neg h2, List.getElem?_drop] at hkj
                    rw [if_neg (by rw [hoff, hra.hsz]; omega)]
                    obtain ⟨q, hq, hqr⟩ := hra.cell k' j x (by simp only [cellAt, he, Option.bind_some]; rw [show o + y.cells.length + (j - o - y.cells.length) = j by omega] at hkj; exact hkj)
                    exact ⟨q, by rw [← cell_of_heap hC]; exact hq, hqr⟩
              · rw [if_neg hkk'] at hkj
                obtain ⟨q, hq, hqr⟩ := hra.cell k' j x hkj
                refine ⟨q, ?_, hqr⟩
                rw [hget, if_neg, ← cell_of_heap hC]
                · exact hq
                · have hj : j < rsz := by
                    unfold cellAt at hkj
                    cases hx' : xs[k']? with
                    | none => simp [hx'] at hkj
                    | some e' =>
                      simp only [hx', Option.bind_some] at hkj
                      rw [← hra.size e' (List.mem_of_getElem? hx')]
                      exact (List.getElem?_eq_some_iff.1 hkj).1
                  rw [hoff, hra.hsz]
                  rcases Nat.lt_or_gt_of_ne hkk' with h1 | h1
                  · have := Nat.mul_le_mul_right rsz (show k' + 1 ≤ k from h1)
                    rw [Nat.add_mul, Nat.one_mul] at this
                    omega
                  · have := Nat.mul_le_mul_right rsz (show k + 1 ≤ k' from h1)
                    rw [Nat.add_mul, Nat.one_mul] at this
                    omega)
            (by simp [hp0])
          refine ⟨w.setRow loc.c C', ?_, hx, hinv, hchg⟩
          simp only [Instr.storeAt, Instr.sureAddr, pure_bind, storeVar, sizeOf, typeInfo, Sem.run_bind, run_program, Result.andThen_ok, hinf]
          simp only [pure, Sem.run, Result.andThen_ok]
          rw [if_neg (by rw [hcs, hlen]; simp)]
          rw [hoff] at hrun
          exact hrun
        · cases hy
      · cases hy
    · cases hy
  | _ => simp [storeAV] at hy
theorem rp_drop {vol : Bool} {cs : List AV} {p : Addr} (h : VRel κ w (.rp vol cs) (.pointer (some p))) (off : Nat) : VRel κ w (.rp vol (cs.drop off)) (.pointer (some (p.add off))) := by
  cases h with
  | rp p F hp hm hr =>
    obtain ⟨pb, po, ps⟩ := p
    simp only at hp; subst hp
    rw [addr_add]
    refine .rp _ (fun j => F (off + j)) rfl (fun j x hj => ?_) (fun j x hj => ?_) <;> rw [List.getElem?_drop] at hj
    · have := hm (off + j) x hj
      simpa [Nat.add_assoc] using this
    · exact hr _ _ hj
theorem snd_faddr {s f : Nat} {fs : Array Field} {fl : Field} {i : TypeInfo} (hu : P.underlying s = some (.struct fs)) (hf : fs[f]? = some fl) (hinf : P.info? fl.type = some i) (hpos : i.size ≠ 0)
    {x y : AV} {v : Value} (hv : VRel κ w x v) (hy : faddrAV fl.offset x = some y) : ∃ u, (Instr.fieldAt s v f).run P w = .ok u w ∧ VRel κ w y u := by
  have hplace : ∀ a : Addr, (fieldPlace a fl).run P w = .ok (a.add fl.offset) w := fun a => by
    simp only [fieldPlace, sizeOf, typeInfo, Sem.run_bind, run_program, Result.andThen_ok, hinf]
    simp only [pure, Sem.run, Result.andThen_ok]
    rw [if_neg hpos]
    rfl
  have hpre : ∀ a : Addr, (Instr.fieldAt s (.pointer (some a)) f).run P w = .ok (.pointer (some (a.add fl.offset))) w := fun a => by
    simp only [Instr.fieldAt, Instr.sureAddr, Sem.run_bind, run_underlying hu, Result.andThen_ok, hf, pure_bind, hplace]
    rfl
  cases hv with
  | ptr loc hρ =>
    simp only [faddrAV, Option.some.injEq] at hy
    subst hy
    refine ⟨_, hpre _, ?_⟩
    rw [addr_add, Nat.add_assoc]
    exact .ptr loc hρ
  | rp p F hp hm hr =>
    simp only [faddrAV, Option.some.injEq] at hy
    subst hy
    exact ⟨_, hpre _, rp_drop (.rp p F hp hm hr) _⟩
  | _ => simp [faddrAV] at hy
theorem run_asIntOf {κ : K} {w : World} {x : AV} {v : Value} (hv : VRel κ w x v) {n : Int} (hn : intAV x = some n) : ∃ k, v = .int k n := by
  cases hv <;> simp [intAV] at hn
  subst hn; exact ⟨_, rfl⟩
theorem snd_iaddr {t e : TypeId} {i : TypeInfo} (hu : P.underlying t = some (.slice e)) (hinf : P.info? e = some i) (hi : Inv κ h w)
    {x y z : AV} {v u : Value} (hv : VRel κ w x v) (hz : VRel κ w z u) {n : Int} (hn : intAV z = some n) (hy : iaddrAV h i.size n x = some y) : ∃ q, (Instr.indexAt t v u).run P w = .ok q w ∧ VRel κ w y q := by
  obtain ⟨k, rfl⟩ := run_asIntOf hz hn
  cases hv with
  | sl loc a c hρ hnc ha hb =>
    rename_i b g i0 len
    simp only [iaddrAV] at hy
    split at hy
    · rename_i frz rsz xs hrow
      split at hy
      · rename_i hcond
        obtain ⟨hs, h0, h1⟩ := hcond
        cases hy
        obtain ⟨_, loc', hρ', hra⟩ := rowAt?_row hi hrow
        rw [hρ] at hρ'; cases hρ'
        have ha' := ha (by omega)
        subst ha'
        refine ⟨_, ?_, .ptr loc hρ⟩
        simp only [Instr.indexAt, asIntOf, pure_bind, Sem.run_bind, run_underlying hu, Result.andThen_ok]
        rw [if_pos ⟨h0, h1⟩]
        simp only [sizeOf, typeInfo, Sem.run_bind, run_program, Result.andThen_ok, hinf]
        simp only [pure, Sem.run, Result.andThen_ok, addr_add, Nat.add_zero, Nat.add_mul, hra.hsz, hs, Nat.add_assoc]
      · cases hy
    · cases hy
  | sv a c F hn hcap hc hm hs hr =>
    rename_i vol rsz xs
    simp only [iaddrAV] at hy
    split at hy
    · rename_i hcond
      obtain ⟨h2, h0, h1⟩ := hcond
      subst h2
      rw [Option.map_eq_some_iff] at hy
      obtain ⟨el, hel, rfl⟩ := hy
      have hne : xs ≠ [] := by rintro rfl; simp at hel
      obtain ⟨p, rfl, hps⟩ := hc hne
      refine ⟨.pointer (some (p.add (n.toNat * i.size))), ?_, ?_⟩
      · simp only [Instr.indexAt, asIntOf, pure_bind, Sem.run_bind, run_underlying hu, Result.andThen_ok]
        rw [if_pos ⟨h0, h1⟩]
        simp only [sizeOf, typeInfo, Sem.run_bind, run_program, Result.andThen_ok, hinf]
        simp only [pure, Sem.run, Result.andThen_ok]
      · obtain ⟨pb, po, ps⟩ := p
        simp only at hps; subst hps
        rw [addr_add]
        exact .rp _ (F n.toNat) rfl (fun j x hj => hm _ n.toNat j x rfl (by simp [cellAt, hel, hj])) (fun j x hj => hr n.toNat j x (by simp [cellAt, hel, hj]))
    · cases hy
  | slnil hρ =>
    simp only [iaddrAV] at hy
    split at hy
    · split at hy
      · omega
      · cases hy
    · cases hy
  | _ => simp [iaddrAV] at hy
def lo0 (o : Option (IntKind × Int)) : Int := (o.map Prod.snd).getD 0
def hi0 (o : Option (IntKind × Int)) (n : Nat) : Int := (o.map Prod.snd).getD (n : Int)
theorem run_sliceBounds (len cap : Nat) (lo hi' : Option (IntKind × Int)) (hlc : len ≤ cap) (h0 : 0 ≤ lo0 lo) (h1 : lo0 lo ≤ hi0 hi' len) (h2 : hi0 hi' len ≤ (len : Int)) :
    (Instr.sliceBounds true len cap (lo.map fun p => .int p.1 p.2) (hi'.map fun p => .int p.1 p.2) none).run P w = .ok ((lo0 lo).toNat, (hi0 hi' len).toNat, cap) w := by
  have hb : ∀ (k : IntKind) (n : Int) (y : Nat) (code : BoundsCode), 0 ≤ n → n ≤ y → (Instr.sliceBound (.int k n) y code).run P w = .ok n.toNat w := fun k n y code g0 g1 => by
    simp only [Instr.sliceBound, asIntOf, pure_bind]
    rw [if_pos ⟨g0, g1⟩]; rfl
  cases lo with
  | none =>
    cases hi' with
    | none => simp [Instr.sliceBounds, Sem.run, pure, lo0, hi0]
    | some q =>
      simp only [lo0, hi0, Option.map_none, Option.getD_none, Option.map_some, Option.getD_some] at h0 h1 h2 ⊢
      simp only [Instr.sliceBounds, pure_bind, Sem.run_bind, hb _ _ _ _ h1 (show q.2 ≤ (cap : Int) by omega), Result.andThen_ok]
      rfl
  | some p =>
    cases hi' with
    | none =>
      simp only [lo0, hi0, Option.map_none, Option.getD_none, Option.map_some, Option.getD_some] at h0 h1 h2 ⊢
      simp only [Instr.sliceBounds, pure_bind, Sem.run_bind, hb _ _ _ _ h0 h1, Result.andThen_ok]
      simp [Sem.run, pure]
    | some q =>
      simp only [lo0, hi0, Option.map_some, Option.getD_some] at h0 h1 h2 ⊢
      simp only [Instr.sliceBounds, pure_bind, Sem.run_bind, hb q.1 q.2 cap _ (by omega) (by omega), Result.andThen_ok, hb p.1 p.2 q.2.toNat _ h0 (by omega)]
      rfl
theorem snd_slc {t e : TypeId} {i : TypeInfo} (hu : P.underlying t = some (.slice e)) (hinf : P.info? e = some i) (hi : Inv κ h w) {x y : AV} {v : Value} (hv : VRel κ w x v)
    (lo hi' : Option (IntKind × Int)) (hsz : ∀ b g i0 n, x = .sl b g i0 n → ∃ nil frz xs, h b = .row nil g frz i.size xs) (hsv : ∀ vol sz xs, x = .sv vol sz xs → sz = i.size)
    (hy : slcAV (lo.map Prod.snd) (hi'.map Prod.snd) x = some y) : ∃ q, (Instr.sliceAt t v (lo.map fun p => .int p.1 p.2) (hi'.map fun p => .int p.1 p.2) none).run P w = .ok q w ∧ VRel κ w y q := by
  have hgo : ∀ (a : Option Addr) (len cap : Nat), len ≤ cap → 0 ≤ lo0 lo → lo0 lo ≤ hi0 hi' len → hi0 hi' len ≤ (len : Int) →
      (Instr.sliceAt t (.slice a len cap) (lo.map fun p => .int p.1 p.2) (hi'.map fun p => .int p.1 p.2) none).run P w =
        .ok (.slice (if cap = (lo0 lo).toNat then a else a.map (·.add ((lo0 lo).toNat * i.size))) ((hi0 hi' len).toNat - (lo0 lo).toNat) (cap - (lo0 lo).toNat)) w := by
    intro a len cap hlc h0 h1 h2
    simp only [Instr.sliceAt, Sem.run_bind, run_underlying hu, Result.andThen_ok, Instr.slice, run_sliceBounds len cap lo hi' hlc h0 h1 h2]
    simp only [sizeOf, typeInfo, Sem.run_bind, run_program, Result.andThen_ok, hinf]
    simp only [pure, Sem.run, Result.andThen_ok]
  cases hv with
  | sl loc a c hρ hnc ha hblk =>
    rename_i b g i0 len
    obtain ⟨nil, frz, xs, hrow⟩ := hsz b g i0 len rfl
    have hls : loc.sz = i.size := by
      have h5 := hi.ok b
      rw [hrow] at h5
      obtain ⟨(⟨_, h3, _⟩ | ⟨_, loc', h4, h6⟩), _⟩ := h5
      · rw [hρ] at h3; cases h3
      · rw [hρ] at h4; cases h4; exact h6.hsz
    simp only [slcAV] at hy
    change (if 0 ≤ lo0 lo ∧ lo0 lo ≤ hi0 hi' (len) ∧ hi0 hi' (len) ≤ (((len) : Nat) : Int) then _ else _) = _ at hy
    split at hy
    · rename_i hcond
      obtain ⟨h0, h1, h2⟩ := hcond
      change some (AV.sl b g (i0 + (lo0 lo).toNat) (hi0 hi' len - lo0 lo).toNat) = some y at hy
      cases hy
      refine ⟨_, hgo (some a) len c hnc h0 h1 h2, ?_⟩
      obtain ⟨l, hl⟩ : ∃ l, l = (lo0 lo).toNat := ⟨_, rfl⟩
      obtain ⟨u, hu'⟩ : ∃ u, u = (hi0 hi' len).toNat := ⟨_, rfl⟩
      rw [show (hi0 hi' len - lo0 lo).toNat = u - l by omega, ← hl, ← hu']
      have e1 : (if c = l then some a else (some a).map (·.add (l * i.size))) = some (if c = l then a else a.add (l * i.size)) := by split <;> rfl
      rw [e1]
      refine .sl loc _ (c - l) hρ (by omega) (fun hc => ?_) ?_
      · rw [if_neg (by omega), ha (by omega), addr_add, hls, Nat.add_mul, Nat.add_assoc]
      · obtain ⟨C, ty, h3, h4⟩ := hblk
        refine ⟨C, ty, h3, ?_⟩
        rw [show i0 + l + (c - l) = i0 + c by omega]; exact h4
    · cases hy
  | slnil hρ =>
    rename_i b g
    simp only [slcAV] at hy
    change (if 0 ≤ lo0 lo ∧ lo0 lo ≤ hi0 hi' (0) ∧ hi0 hi' (0) ≤ (((0) : Nat) : Int) then _ else _) = _ at hy
    split at hy
    · rename_i hcond
      obtain ⟨h0, h1, h2⟩ := hcond
      change some (AV.sl b g (0 + (lo0 lo).toNat) (hi0 hi' 0 - lo0 lo).toNat) = some y at hy
      have e0 : lo0 lo = 0 := by omega
      have e1 : hi0 hi' 0 = 0 := by omega
      cases hy
      refine ⟨_, hgo none 0 0 (Nat.le_refl _) h0 h1 h2, ?_⟩
      rw [e0, e1]
      exact .slnil hρ
    · cases hy
  | sv a c F hn hcap hc hm hs hr =>
    rename_i vol rsz xs
    have hsz' := hsv _ _ _ rfl
    subst hsz'
    simp only [slcAV] at hy
    change (if 0 ≤ lo0 lo ∧ lo0 lo ≤ hi0 hi' (xs.length) ∧ hi0 hi' (xs.length) ≤ (((xs.length) : Nat) : Int) then _ else _) = _ at hy
    split at hy
    · rename_i hcond
      obtain ⟨h0, h1, h2⟩ := hcond
      change some (AV.sv false i.size ((xs.drop (lo0 lo).toNat).take (hi0 hi' xs.length - lo0 lo).toNat)) = some y at hy
      cases hy
      refine ⟨_, hgo a xs.length c hn h0 h1 h2, ?_⟩
      obtain ⟨l, hl⟩ : ∃ l, l = (lo0 lo).toNat := ⟨_, rfl⟩
      obtain ⟨u, hu'⟩ : ∃ u, u = (hi0 hi' xs.length).toNat := ⟨_, rfl⟩
      rw [show (hi0 hi' xs.length - lo0 lo).toNat = u - l by omega, ← hl, ← hu']
      have hlen : ((xs.drop l).take (u - l)).length = u - l := by simp; omega
      have hat : ∀ k j x, cellAt ((xs.drop l).take (u - l)) k j = some x → k < u - l ∧ cellAt xs (l + k) j = some x := by
        intro k j x hk
        unfold cellAt at hk ⊢
        rw [List.getElem?_take] at hk
        split at hk
        · rename_i hlt; rw [List.getElem?_drop] at hk; exact ⟨hlt, hk⟩
        · cases hk
      have := VRel.sv (κ := κ) (w := w) (vol := false) (sz := i.size) (xs := (xs.drop l).take (u - l)) (if c = l then a else a.map (·.add (l * i.size))) (c - l) (fun k j => F (l + k) j) (by rw [hlen]; omega) nofun
        (fun hne => by
          have : xs ≠ [] := by rintro rfl; simp at hne
          obtain ⟨p, rfl, hps⟩ := hc this
          have hul : l < u := by
            rcases Nat.lt_or_ge l u with h | h
            · exact h
            · exact absurd (List.length_eq_zero_iff.1 (by rw [hlen]; omega)) hne
          rw [if_neg (by omega)]
          obtain ⟨pb, po, ps⟩ := p
          simp only at hps; subst hps
          exact ⟨_, rfl, by show ((⟨pb, po, none⟩ : Addr).add (l * i.size)).spot = none; rw [addr_add]⟩)
        (fun p k j x hp hk => by
          obtain ⟨hk1, hk2⟩ := hat k j x hk
          have : xs ≠ [] := by rintro rfl; simp [cellAt] at hk2
          obtain ⟨p', rfl, hps⟩ := hc this
          rw [if_neg (by omega)] at hp
          obtain ⟨pb, po, ps⟩ := p'
          simp only at hps; subst hps
          simp only [Option.map_some, Option.some.injEq, addr_add] at hp
          subst hp
          have := hm _ (l + k) j x rfl hk2
          simpa [Nat.add_mul, Nat.add_assoc] using this)
        (fun e he => hs e (List.mem_of_mem_drop (List.mem_of_mem_take he)))
        (fun k j x hk => hr _ _ _ (hat k j x hk).2)
      rw [hlen] at this
      exact this
    · cases hy
  | _ => simp [slcAV] at hy
end Go.Am
end
section
set_option linter.unusedSimpArgs false
set_option linter.unusedVariables false
namespace Go.Am
open Go Go.RowKit

variable {P : Program} {κ : K} {w : World} {h : Nat → Blk}

theorem foldset_list (off : Nat) : ∀ (l : List Value) (s : Nat) (cells : Array Value) (q : Nat), off + s + l.length ≤ cells.size →
    (l.zipIdx s |>.foldl (fun cs (c, j) => cs.setIfInBounds (off + j) c) cells)[q]? = if off + s ≤ q ∧ q < off + s + l.length then l[q - (off + s)]? else cells[q]? := by
  intro l
  induction l with
  | nil => intro s cells q _; simp only [List.zipIdx_nil, List.foldl_nil, List.length_nil, Nat.add_zero]; rw [if_neg (by omega)]
  | cons a l ih =>
    intro s cells q hle
    simp only [List.zipIdx_cons, List.foldl_cons, List.length_cons] at hle ⊢
    rw [ih (s + 1) _ q (by simp; omega)]
    by_cases h1 : off + (s + 1) ≤ q ∧ q < off + (s + 1) + l.length
    · rw [if_pos h1, if_pos (by omega), show q - (off + s) = q - (off + (s + 1)) + 1 by omega, List.getElem?_cons_succ]
    · rw [if_neg h1, Array.getElem?_setIfInBounds]
      by_cases h2 : off + s = q
      · subst h2
        rw [if_pos rfl, if_pos (by omega), if_pos (by omega)]; simp
      · rw [if_neg h2, if_neg (by omega)]
theorem foldset_size (off : Nat) : ∀ (l : List (Value × Nat)) (cells : Array Value), (l.foldl (fun cs (c, j) => cs.setIfInBounds (off + j) c) cells).size = cells.size := by
  intro l
  induction l with
  | nil => intro cells; rfl
  | cons a l ih => intro cells; simp only [List.foldl_cons]; rw [ih]; simp
theorem foldset (off : Nat) (a cells : Array Value) (q : Nat) (hle : off + a.size ≤ cells.size) :
    (a.zipIdx.foldl (fun cs (c, j) => cs.setIfInBounds (off + j) c) cells)[q]? = if off ≤ q ∧ q < off + a.size then a[q - off]? else cells[q]? := by
  rw [← Array.foldl_toList, Array.toList_zipIdx]
  have := foldset_list off a.toList 0 cells q (by simpa using hle)
  simpa using this
theorem foldset_sizeA (off : Nat) (a cells : Array Value) : (a.zipIdx.foldl (fun cs (c, j) => cs.setIfInBounds (off + j) c) cells).size = cells.size := by
  rw [← Array.foldl_toList]; exact foldset_size off _ _
def CRel (κ : K) (w : World) (cs : List AV) (vs : Array Value) : Prop := cs.length = vs.size ∧ ∀ (i : Nat) (x : AV) (v : Value), cs[i]? = some x → vs[i]? = some v → VRel κ w x v
/-- A value's cells, whatever they hold. -/
theorem CRel.cells {x : AV} {v : Value} (h : VRel κ w x v) (ho : x ≠ .und) : CRel κ w x.cells v.cells := by
  cases h with
  | agg hl hr => exact ⟨hl, hr⟩
  | und => exact absurd rfl ho
  | _ =>
    refine ⟨rfl, fun i y u hy hu => ?_⟩
    cases i with
    | zero => cases hy; cases hu; constructor <;> assumption
    | succ i => simp [AV.cells] at hy
theorem fill_rel (place : Nat → Option (Nat × Nat)) : ∀ (parts : List (Nat × AV)) (vparts : List (Nat × Value)) (cs : List AV) (vs : Array Value) (cs' : List AV), CRel κ w cs vs → parts.length = vparts.length →
    (∀ (j : Nat) (p : Nat × AV) (q : Nat × Value), parts[j]? = some p → vparts[j]? = some q → p.1 = q.1 ∧ VRel κ w p.2 q.2 ∧ p.2 ≠ .und) → (∀ p ∈ parts, (place p.1).isSome = true) →
    fillA cs (parts.map fun p => (((place p.1).getD (0, 0)).1, ((place p.1).getD (0, 0)).2, p.2)) = some cs' → ∃ vs', Instr.fill place vs vparts = some vs' ∧ CRel κ w cs' vs' := by
  intro parts
  induction parts with
  | nil =>
    intro vparts cs vs cs' hc hl _ _ hf
    have : vparts = [] := List.eq_nil_of_length_eq_zero (by simpa using hl.symm)
    subst this
    simp [fillA] at hf; subst hf
    exact ⟨vs, rfl, hc⟩
  | cons p parts ih =>
    intro vparts cs vs cs' hc hl hr hp hf
    obtain ⟨q, vparts, rfl⟩ : ∃ q qs, vparts = q :: qs := by cases vparts with | nil => simp at hl | cons q qs => exact ⟨q, qs, rfl⟩
    obtain ⟨h1, h2, h3⟩ := hr 0 p q rfl rfl
    obtain ⟨n, x⟩ := p
    obtain ⟨n', v⟩ := q
    simp only at h1 h2 h3; subst h1
    have hpl := hp (n, x) (by simp)
    simp only at hpl
    obtain ⟨⟨off, sz⟩, hpl⟩ := Option.isSome_iff_exists.1 hpl
    simp only [List.map_cons, hpl, Option.getD_some, fillA] at hf
    split at hf
    · rename_i hcond
      obtain ⟨hsz, hfit⟩ := hcond
      have hx := CRel.cells h2 h3
      have hvs : v.cells.size = sz := by rw [← hx.1, hsz]
      simp only [Instr.fill, hpl]
      rw [if_neg (by simp only [hvs, bne_self_eq_false, Bool.false_or, decide_eq_true_eq, ne_eq, not_true_eq_false]; rw [← hc.1]; simp; omega)]
      refine ih vparts _ _ cs' ⟨?_, fun i y u hy hu => ?_⟩ (by simpa using hl) (fun j p q hp' hq => hr (j + 1) p q hp' hq) (fun p hp' => hp p (by simp [hp'])) hf
      · rw [foldset_sizeA, ← hc.1]; simp [hsz]; omega
      · rw [foldset _ _ _ _ (by rw [hvs, ← hc.1]; exact hfit), hvs] at hu
        rw [List.append_assoc, List.getElem?_append, List.length_take, Nat.min_eq_left (by omega)] at hy
        by_cases g1 : i < off
        · rw [if_pos g1, List.getElem?_take, if_pos g1] at hy
          rw [if_neg (by omega)] at hu
          exact hc.2 i y u hy hu
        · rw [if_neg g1, List.getElem?_append] at hy
          by_cases g2 : i - off < x.cells.length
          · rw [if_pos g2] at hy
            rw [if_pos (by omega)] at hu
            exact hx.2 _ y u hy hu
          · rw [if_neg g2, List.getElem?_drop] at hy
            rw [if_neg (by omega)] at hu
            exact hc.2 i y u (by rw [show off + sz + (i - off - x.cells.length) = i by omega] at hy; exact hy) hu
    · cases hf
/-- Elements one behind the other. -/
theorem flat_get {α β : Type} (f : α → List β) (sz : Nat) : ∀ (l : List α) (k j : Nat), (∀ e ∈ l, (f e).length = sz) → j < sz → (l.flatMap f)[k * sz + j]? = (l[k]?).bind fun e => (f e)[j]? := by
  intro l
  induction l with
  | nil => intro k j _ _; simp
  | cons a l ih =>
    intro k j hs hj
    simp only [List.flatMap_cons]
    have ha : (f a).length = sz := hs a (by simp)
    rw [List.getElem?_append, ha]
    cases k with
    | zero => simp [hj]
    | succ k =>
      rw [if_neg (by rw [Nat.add_mul, Nat.one_mul]; omega), show (k + 1) * sz + j - sz = k * sz + j by rw [Nat.add_mul, Nat.one_mul]; omega, ih k j (fun e he => hs e (by simp [he])) hj]
      simp
theorem fill_row (sz : Nat) : ∀ (vs : List Value) (s : Nat) (cells : Array Value), (∀ v ∈ vs, v.cells.size = sz) → (s + vs.length) * sz ≤ cells.size →
    ∃ cells', Instr.fill (fun i => some (i * sz, sz)) cells ((vs.zipIdx s).map fun p => (p.2, p.1)) = some cells' ∧ cells'.size = cells.size ∧
      ∀ q, cells'[q]? = if s * sz ≤ q ∧ q < (s + vs.length) * sz then (vs.flatMap fun v => v.cells.toList)[q - s * sz]? else cells[q]? := by
  intro vs
  induction vs with
  | nil => intro s cells _ _; exact ⟨cells, rfl, rfl, fun q => by rw [if_neg (by simp only [List.length_nil, Nat.add_zero]; omega)]⟩
  | cons v vs ih =>
    intro s cells hs hle
    have hv := hs v (by simp)
    simp only [List.length_cons] at hle
    have e1 : (s + (vs.length + 1)) * sz = s * sz + sz + vs.length * sz := by rw [Nat.add_mul, Nat.add_mul, Nat.one_mul]; omega
    have e2 : (s + 1 + vs.length) * sz = s * sz + sz + vs.length * sz := by rw [show s + 1 + vs.length = s + (vs.length + 1) by omega, e1]
    have e3 : (s + 1) * sz = s * sz + sz := by rw [Nat.add_mul, Nat.one_mul]
    simp only [List.zipIdx_cons, List.map_cons, Instr.fill]
    rw [if_neg (by rw [hv]; simp; omega)]
    obtain ⟨cells', hf, hsz, hq⟩ := ih (s + 1) (v.cells.zipIdx.foldl (fun cs (c, j) => cs.setIfInBounds (s * sz + j) c) cells) (fun u hu => hs u (by simp [hu])) (by rw [foldset_sizeA, e2]; omega)
    refine ⟨cells', hf, by rw [hsz, foldset_sizeA], fun q => ?_⟩
    rw [hq q, e2, e3, foldset _ _ _ _ (by rw [hv]; omega), hv]
    simp only [List.length_cons, e1, List.flatMap_cons]
    have hvl : v.cells.toList.length = sz := by simpa using hv
    by_cases g1 : s * sz + sz ≤ q ∧ q < s * sz + sz + vs.length * sz
    · rw [if_pos g1, if_pos (by omega), List.getElem?_append, hvl, if_neg (by omega)]
      congr 1; omega
    · rw [if_neg g1]
      by_cases g2 : s * sz ≤ q ∧ q < s * sz + sz
      · rw [if_pos g2, if_pos (by omega), List.getElem?_append, hvl, if_pos (by omega)]; simp
      · rw [if_neg g2, if_neg (by omega)]
theorem cell_lt {xs : List AV} {sz : Nat} (hs : ∀ e ∈ xs, e.cells.length = sz) {k j : Nat} {x : AV} (hk : cellAt xs k j = some x) : k < xs.length ∧ j < sz := by
  unfold cellAt at hk
  cases hx : xs[k]? with
  | none => simp [hx] at hk
  | some e =>
    simp only [hx, Option.bind_some] at hk
    exact ⟨(List.getElem?_eq_some_iff.1 hx).1, by rw [← hs e (List.mem_of_getElem? hx)]; exact (List.getElem?_eq_some_iff.1 hk).1⟩
/-- A new row that is made of elements. -/
theorem new_row (hi : Inv κ h w) {fr : Nat} (hf : h fr = .dead) {sz : Nat} {xs : List AV} {vs : List Value} (C : Array Value) (e : TypeId) (hl : xs.length = vs.length)
    (hr : ∀ (i : Nat) (x : AV) (v : Value), xs[i]? = some x → vs[i]? = some v → VRel κ w x v) (hs : ∀ x ∈ xs, x.cells.length = sz) (ho : ∀ x ∈ xs, x.elem = true) (hC : xs.length * sz ≤ C.size)
    (hq : ∀ q, q < xs.length * sz → C[q]? = (vs.flatMap fun v => v.cells.toList)[q]?) :
    ∃ κ', Ext κ w κ' (w.alloc (.cells C e)) ∧ Inv κ' (Am.upd h fr (.row false 0 false sz xs)) (w.alloc (.cells C e)) ∧ κ'.rho fr 0 = some (some ⟨w.heap.size, 0, sz⟩) ∧ Chg κ h w κ' (Am.upd h fr (.row false 0 false sz xs)) (w.alloc (.cells C e)) := by
  refine hi.new hf C e hs hC (fun k j x hk => ?_)
  obtain ⟨hk1, hj⟩ := cell_lt hs hk
  unfold cellAt at hk
  obtain ⟨el, hel⟩ : ∃ el, xs[k]? = some el := ⟨xs[k], by simp [hk1]⟩
  simp only [hel, Option.bind_some] at hk
  obtain ⟨v, hv⟩ : ∃ v, vs[k]? = some v := ⟨vs[k]'(by omega), by simp [show k < vs.length by omega]⟩
  have hrel := hr k el v hel hv
  obtain ⟨h1, h2, _⟩ := cells_rel hrel (ho el (List.mem_of_getElem? hel))
  obtain ⟨u, hu, hur, _⟩ := h2 j x hk
  have hkk : (k + 1) * sz ≤ xs.length * sz := Nat.mul_le_mul_right _ hk1
  rw [Nat.add_mul, Nat.one_mul] at hkk
  refine ⟨u, ?_, hur⟩
  rw [hq _ (by omega), flat_get _ sz vs k j (fun u' hu' => ?_) hj, hv]
  · simpa using hu
  · obtain ⟨i, hi', rfl⟩ := List.getElem_of_mem hu'
    obtain ⟨g1, _, _⟩ := cells_rel (hr i (xs[i]'(by omega)) vs[i] (by simp [show i < xs.length by omega]) (by simp [hi'])) (ho _ (by simp))
    simp only [Array.length_toList]
    rw [g1]; exact hs _ (by simp)
/-- The elements of a slice. -/
def contAV (h : Nat → Blk) (sz : Nat) : AV → Option (List AV)
  | .sl b g i n => match h b with
    | .row _ g' _ rsz xs => if g' = g ∧ rsz = sz ∧ i + n ≤ xs.length then some ((xs.drop i).take n) else none
    | .dead => none
  | .sv _ rsz xs => if rsz = sz then some xs else none
  | .nils => some []
  | _ => none
theorem cellAt_sub {xs : List AV} {i n k j : Nat} {x : AV} (hk : cellAt ((xs.drop i).take n) k j = some x) : k < n ∧ cellAt xs (i + k) j = some x := by
  unfold cellAt at hk ⊢
  rw [List.getElem?_take] at hk
  split at hk
  · rename_i hlt; rw [List.getElem?_drop] at hk; exact ⟨hlt, hk⟩
  · cases hk
theorem load_flat {b o sz : Nat} {xs : List AV} (hs : ∀ e ∈ xs, e.cells.length = sz) (hc : ∀ (k j : Nat) (x : AV), cellAt xs k j = some x → ∃ v, w.cell? ⟨b, o + k * sz + j, none⟩ = some v ∧ VRel κ w x v) :
    ∃ L : List Value, L.length = xs.length * sz ∧ (Go.loadCells ⟨b, o, none⟩ (xs.length * sz)).run P w = .ok L.toArray w ∧ ∀ (k j : Nat) (x : AV), cellAt xs k j = some x → ∃ u, L[k * sz + j]? = some u ∧ VRel κ w x u := by
  have hat : ∀ q, q < xs.length * sz → ∃ x, cellAt xs (q / sz) (q % sz) = some x := by
    intro q hq
    have hsz : 0 < sz := by rcases Nat.eq_zero_or_pos sz with h | h; subst h; simp at hq; exact h
    have h1 : q / sz < xs.length := (Nat.div_lt_iff_lt_mul hsz).2 hq
    have h2 : q % sz < sz := Nat.mod_lt _ hsz
    have h3 := hs (xs[q / sz]) (by simp)
    exact ⟨(xs[q / sz]).cells[q % sz]'(by omega), by simp [cellAt, h1, h3, h2]⟩
  have hch : ∀ q, q < xs.length * sz → ∃ v, w.cell? ⟨b, o + q, none⟩ = some v ∧ ∀ x, cellAt xs (q / sz) (q % sz) = some x → VRel κ w x v := by
    intro q hq
    obtain ⟨x, hx⟩ := hat q hq
    obtain ⟨v, hv, hr⟩ := hc _ _ x hx
    refine ⟨v, ?_, fun y hy => by rw [hx] at hy; cases hy; exact hr⟩
    have := Nat.div_add_mod q sz
    rw [Nat.mul_comm] at this
    rw [show o + q = o + q / sz * sz + q % sz by omega]; exact hv
  let F : Nat → Value := fun q => if hq : q < xs.length * sz then Classical.choose (hch q hq) else undef
  have hF : ∀ q (hq : q < xs.length * sz), w.cell? ⟨b, o + q, none⟩ = some (F q) ∧ ∀ x, cellAt xs (q / sz) (q % sz) = some x → VRel κ w x (F q) := by
    intro q hq; simp only [F, dif_pos hq]; exact Classical.choose_spec (hch q hq)
  have hload := run_loadCells_list (P := P) (w := w) ⟨b, o, none⟩ ((List.range (xs.length * sz)).map F) (fun j v hj => by
    rw [addr_add]
    have hjl : j < xs.length * sz := by have := (List.getElem?_eq_some_iff.1 hj).1; simpa using this
    have : v = F j := by simpa [hjl] using hj.symm
    subst this; exact (hF j hjl).1)
  rw [List.length_map, List.length_range] at hload
  refine ⟨(List.range (xs.length * sz)).map F, by simp, hload, fun k j x hk => ?_⟩
  obtain ⟨hk1, hj⟩ := cell_lt hs hk
  have hkk : (k + 1) * sz ≤ xs.length * sz := Nat.mul_le_mul_right _ hk1
  rw [Nat.add_mul, Nat.one_mul] at hkk
  have hq : k * sz + j < xs.length * sz := by omega
  refine ⟨F (k * sz + j), by simp [hq], (hF _ hq).2 x ?_⟩
  rw [show (k * sz + j) / sz = k by rw [Nat.mul_comm, Nat.mul_add_div (by omega), Nat.div_eq_of_lt hj, Nat.add_zero], show (k * sz + j) % sz = j by rw [Nat.mul_comm, Nat.mul_add_mod, Nat.mod_eq_of_lt hj]]
  exact hk
theorem snd_cont (hi : Inv κ h w) {x : AV} {v : Value} (hv : VRel κ w x v) {sz : Nat} {xs : List AV} (hx : contAV h sz x = some xs) :
    ∃ a c, v = .slice a xs.length c ∧ xs.length ≤ c ∧ (∀ e ∈ xs, e.cells.length = sz) ∧ ∃ L : List Value, L.length = xs.length * sz ∧ (Builtin.firstCells sz xs.length v).run P w = .ok L.toArray w ∧
      ∀ (k j : Nat) (x : AV), cellAt xs k j = some x → ∃ u, L[k * sz + j]? = some u ∧ VRel κ w x u := by
  cases hv with
  | nils => simp [contAV] at hx; subst hx; exact ⟨none, 0, rfl, Nat.le_refl _, by simp, [], by simp, by simp [Builtin.firstCells, Sem.run, pure], fun k j x hk => by simp [cellAt] at hk⟩
  | sv a c F hn hcap hc hm hs hr =>
    rename_i vol rsz xs'
    simp only [contAV] at hx
    split at hx
    · rename_i h1; subst h1; cases hx
      refine ⟨a, c, rfl, hn, hs, ?_⟩
      rcases hxs : xs with _ | ⟨y, ys⟩
      · subst hxs
        refine ⟨[], by simp, ?_, fun k j x hk => by simp [cellAt] at hk⟩
        cases a with
        | none => rfl
        | some a => simp [Builtin.firstCells, loadCells, loadCellsFrom, Sem.run, pure]
      · obtain ⟨p, rfl, hps⟩ := hc (by simp [hxs])
        obtain ⟨pb, po, ps⟩ := p
        simp only at hps; subst hps
        rw [← hxs]
        exact load_flat hs (fun k j x hk => ⟨F k j, (hm _ k j x rfl hk).1, hr k j x hk⟩)
    · cases hx
  | sl loc a c hρ hnc ha hb =>
    rename_i b g i n
    simp only [contAV] at hx
    split at hx
    · rename_i nil g' frz rsz xs' hrow
      split at hx
      · rename_i hcond
        obtain ⟨h1, h2, h3⟩ := hcond
        subst h1 h2; cases hx
        have hlen : ((xs'.drop i).take n).length = n := by simp; omega
        have hok := hi.ok b
        rw [hrow] at hok
        obtain ⟨(⟨_, h4, _⟩ | ⟨_, loc', h4, hra⟩), _⟩ := hok
        · rw [hρ] at h4; cases h4
        · rw [hρ] at h4; cases h4
          refine ⟨some a, c, by rw [hlen], by rw [hlen]; exact hnc, fun e he => hra.size e (List.mem_of_mem_drop (List.mem_of_mem_take he)), ?_⟩
          by_cases hn0 : n = 0
          · subst hn0
            refine ⟨[], by simp, ?_, fun k j x hk => by simp [cellAt] at hk⟩
            simp [Builtin.firstCells, loadCells, loadCellsFrom, Sem.run, pure]
          · have ha' := ha (by omega)
            subst ha'
            rw [hlen]
            have := load_flat (P := P) (w := w) (κ := κ) (b := loc.c) (o := loc.o + i * loc.sz) (sz := rsz) (xs := (xs'.drop i).take n) (fun e he => hra.size e (List.mem_of_mem_drop (List.mem_of_mem_take he)))
              (fun k j x hk => by
                obtain ⟨_, hk2⟩ := cellAt_sub hk
                obtain ⟨u, hu, hur⟩ := hra.cell _ _ _ hk2
                refine ⟨u, ?_, hur⟩
                rw [hra.hsz]
                rw [Nat.add_mul] at hu
                rw [show loc.o + i * rsz + k * rsz + j = loc.o + (i * rsz + k * rsz) + j by omega]; exact hu)
            rw [hlen] at this
            exact this
      · cases hx
    · cases hx
  | slnil hρ =>
    rename_i b g
    simp only [contAV] at hx
    split at hx
    · split at hx
      · cases hx
        exact ⟨none, 0, by simp, by simp, by simp, [], by simp, by simp [Builtin.firstCells, Sem.run, pure], fun k j x hk => by simp [cellAt] at hk⟩
      · cases hx
    · cases hx
  | _ => simp [contAV] at hx
end Go.Am
end
