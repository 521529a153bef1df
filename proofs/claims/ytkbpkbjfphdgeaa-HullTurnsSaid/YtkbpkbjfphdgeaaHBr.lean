/- The frame of a law over one list of points: from the machine's word to the given row.
   Conditions: none. -/
import Derived.Test.YtkbpkbjfphdgeaaRows
import Derived.WalkKit
import Derived.ProofKit
import Derived.OpenShut
import Derived.ShutString
import Derived.ChangeOld
import Derived.Below
import Derived.SizedLaws
import Derived.ChangeSlices
import Derived.Test.YtkbpkbjfphdgeaaHW2
set_option linter.unusedSimpArgs false
set_option linter.unusedVariables false
namespace Go.Hull
open Go Go.Am Go.Proofs Go.ChangeShapes Go.WideShapes Go.ChangeAt Go.RowKit

section
variable {H : Type} {enc : TypeId × Value → H} {P : Program} {w : World} {base : Nat} {spare : Nat → Bool} {held : Bool}

/-- Two whole numbers in cells. -/
theorem cells_two {a : Addr} {cs : List Value} (h : w.cells? base a 2 = some cs) : ∃ u v, cs = [u, v] ∧ w.cell? (a.add 0) = some u ∧ w.cell? (a.add 1) = some v := by
  unfold World.cells? at h
  split at h <;> first | (cases h; done) | skip
  have hr : List.range 2 = [0, 1] := rfl
  rw [hr] at h
  simp only [List.mapM_cons, List.mapM_nil] at h
  cases h0 : w.cell? (a.add 0) with
  | none => simp [h0] at h
  | some u =>
    cases h1 : w.cell? (a.add 1) with
    | none => simp [h0, h1] at h
    | some v =>
      simp [h0, h1] at h
      exact ⟨u, v, h.symm, rfl, rfl⟩

theorem open_pts {t e k : TypeId} {fs : Array Field} {f0 f1 : Field} {fuel : Nat} {cs : List Value} {x : DataW H × List MemPlace} (ht : P.underlying t = some (.slice e)) (he : P.underlying e = some (.struct fs)) (hc : P.cellsOf e = 2)
    (h0 : fs[0]? = some f0) (h1 : fs[1]? = some f1) (t0 : f0.type = k) (t1 : f1.type = k) (o0 : f0.offset = 0) (o1 : f1.offset = 1) (hk : P.underlying k = some (.int .i64)) (hck : P.cellsOf k = 1)
    (h : DataW.trod enc P w base spare held fuel t cs = some x) :
    cs = [.slice none 0 0] ∨ ∃ (a : Addr) (len cap : Nat) (zs : List Pt), cs = [.slice (some a) len cap] ∧ len ≤ cap ∧ cap ≤ maxLen ∧ zs.length = len ∧
      ∀ (i : Nat) (p : Pt), zs[i]? = some p → w.cell? (a.add (i * 2)) = some (.int .i64 p.1) ∧ w.cell? (a.add (i * 2 + 1)) = some (.int .i64 p.2) := by
  rcases DataW.trod_slice ht h with ⟨rfl, -⟩ | ⟨a, len, cap, elems, rest, n, _, rfl, rfl, hb, hl, hm, hlen, hel, hsp, hns⟩
  · exact .inl rfl
  right
  have each : ∀ i, i < len → ∃ p : Pt, w.cell? (a.add (i * 2)) = some (.int .i64 p.1) ∧ w.cell? (a.add (i * 2 + 1)) = some (.int .i64 p.2) := by
    intro i hi
    have hi' := hel i hi
    obtain ⟨y, hy⟩ : ∃ y, elems[i]? = some y := ⟨elems[i]'(by omega), List.getElem?_eq_getElem (by omega)⟩
    rw [hy, hc, Option.bind_eq_some_iff] at hi'
    obtain ⟨cs', hcs, hy'⟩ := hi'
    obtain ⟨u, v, rfl, hu, hv⟩ := cells_two hcs
    obtain ⟨xs, m, -, -, -, hxl, hxf⟩ := DataW.trod_struct he hy'
    have e0 := hxf 0 f0 h0
    have e1 := hxf 1 f1 h1
    rw [t0, o0, hck] at e0
    rw [t1, o1, hck] at e1
    have l0 : 0 < xs.length := by rw [hxl]; exact (Array.getElem?_eq_some_iff.1 h0).1
    have l1 : 1 < xs.length := by rw [hxl]; exact (Array.getElem?_eq_some_iff.1 h1).1
    rw [List.getElem?_eq_getElem l0] at e0
    rw [List.getElem?_eq_getElem l1] at e1
    obtain ⟨n0, g0, -, -⟩ := DataW.trod_int hk e0
    obtain ⟨n1, g1, -, -⟩ := DataW.trod_int hk e1
    simp at g0 g1
    subst g0 g1
    refine ⟨(n0, n1), ?_, ?_⟩
    · simpa [Addr.add] using hu
    · have e : (a.add (i * 2)).add 1 = a.add (i * 2 + 1) := by
        unfold Addr.add
        by_cases h : i * 2 = 0 <;> simp [h] <;> omega
      rw [e] at hv
      exact hv
  refine ⟨a, len, cap, (List.range len).map (fun i => if h : i < len then (each i h).choose else (0, 0)), rfl, hl, hm, by simp, fun i p hp => ?_⟩
  rw [List.getElem?_map] at hp
  have hi : i < len := by
    refine Nat.lt_of_not_le fun hle => ?_
    rw [List.getElem?_eq_none (by simpa using hle)] at hp
    cases hp
  rw [List.getElem?_range hi] at hp
  simp only [Option.map_some, Option.some.injEq, dif_pos hi] at hp
  subst hp
  exact (each i hi).choose_spec
end

def k0 (w : World) : Am.K := { B := w.heap.size, prot := fun _ => 0, rho := fun _ _ => none, yl := none }
theorem k0_inv (w : World) : Inv (k0 w) (hget []) w := ⟨Nat.le_refl _, fun b => fun g => rfl, fun b b' loc loc' h => (by obtain ⟨g, frz, sz, xs, h1, _⟩ := h; cases h1), fun c h => absurd rfl h⟩

theorem rel_pts {w : World} {a : Addr} {len cap : Nat} {zs : List Pt} (hl : len ≤ cap) (hz : zs.length = len) (hcell : ∀ (i : Nat) (p : Pt), zs[i]? = some p → w.cell? (a.add (i * 2)) = some (.int .i64 p.1) ∧ w.cell? (a.add (i * 2 + 1)) = some (.int .i64 p.2)) :
    VRel (k0 w) w (pts zs) (.slice (some a) len cap) := by
  have hspot : zs ≠ [] → a.spot = none := fun hne => by
    obtain ⟨p, l, rfl⟩ := List.exists_cons_of_ne_nil hne
    have := (hcell 0 p rfl).1
    unfold World.cell? at this
    split at this <;> first | (cases this; done) | skip
    split at this <;> first | (cases this; done) | skip
    rename_i hs
    simpa [Addr.add] using hs
  have key : ∀ (k j : Nat) (x : AV), cellAt (zs.map pt) k j = some x → ∃ p, zs[k]? = some p ∧ ((j = 0 ∧ x = .int .i64 p.1) ∨ (j = 1 ∧ x = .int .i64 p.2)) := fun k j x hk => by
    unfold cellAt at hk
    rw [List.getElem?_map] at hk
    cases hq : zs[k]? with
    | none => simp [hq] at hk
    | some p =>
      simp only [hq, Option.map_some, Option.bind_some, pt, AV.cells] at hk
      refine ⟨p, rfl, ?_⟩
      match j with
      | 0 => left; simp at hk; exact ⟨rfl, hk.symm⟩
      | 1 => right; simp at hk; exact ⟨rfl, hk.symm⟩
      | j + 2 => simp at hk
  have hlen : (zs.map pt).length = len := by simpa using hz
  have := VRel.sv (κ := k0 w) (w := w) (vol := false) (sz := 2) (xs := zs.map pt) (some a) cap (fun k j => if j = 0 then .int .i64 (zs.getD k (0, 0)).1 else .int .i64 (zs.getD k (0, 0)).2) (by omega) nofun
    (fun hne => ⟨a, rfl, hspot (by rintro rfl; exact hne rfl)⟩)
    (fun p k j x hp hk => by
      cases hp
      obtain ⟨q, hq, hx⟩ := key k j x hk
      have hne : zs ≠ [] := by rintro rfl; simp at hq
      have hsp := hspot hne
      obtain ⟨c0, c1⟩ := hcell k q hq
      have hgd : zs.getD k (0, 0) = q := by simp [List.getD_eq_getElem?_getD, hq]
      have hpr : ∀ off v, w.cell? ⟨a.block, off, none⟩ = some v → Pr (k0 w) a.block off := fun off v hv => .inl (World.block_lt_of_cell? w ⟨a.block, off, none⟩ hv)
      rcases hx with ⟨rfl, -⟩ | ⟨rfl, -⟩
      · have e : (a.add (k * 2)) = ⟨a.block, a.off + k * 2 + 0, none⟩ := by
          obtain ⟨ab, ao, asp⟩ := a
          simp only at hsp
          subst hsp
          unfold Addr.add
          by_cases h : k * 2 = 0 <;> simp [h]
        rw [e] at c0
        simp only [if_true, hgd]
        exact ⟨c0, hpr _ _ c0⟩
      · have e : (a.add (k * 2 + 1)) = ⟨a.block, a.off + k * 2 + 1, none⟩ := by simp [Addr.add, hsp, Nat.add_assoc]
        rw [e] at c1
        rw [if_neg (by decide), hgd]
        exact ⟨c1, hpr _ _ c1⟩)
    (fun e he => by obtain ⟨p, -, rfl⟩ := List.mem_map.1 he; rfl)
    (fun k j x hk => by
      obtain ⟨q, hq, hx⟩ := key k j x hk
      have hgd : zs.getD k (0, 0) = q := by simp [List.getD_eq_getElem?_getD, hq]
      rcases hx with ⟨rfl, rfl⟩ | ⟨rfl, rfl⟩
      · rw [if_pos rfl, hgd]; exact .int _ _
      · rw [if_neg (by decide), hgd]; exact .int _ _)
  rw [hlen] at this
  exact this

theorem rel_nil (w : World) : VRel (k0 w) w (pts []) (.slice none 0 0) :=
  VRel.sv (vol := false) (sz := 2) (xs := []) none 0 (fun _ _ => undef) (Nat.le_refl _) nofun (fun h => absurd rfl h) (fun p k j x hp => by cases hp) (fun e he => by cases he) (fun k j x hk => by simp [cellAt] at hk)

/-- A law's contract as the machine's call. -/
theorem law_calls {f : Nat} {args : List AV} (hC : CallsF Try.prog f args [] (.bool true) []) {w : World} {vs : Array Value} (hl : args.length = vs.size) (hr : ∀ (i : Nat) (x : AV) (v : Value), args[i]? = some x → vs[i]? = some v → VRel (k0 w) w x v) :
    Calls Try.prog f vs w fun e w' => e = .returned (.bool true) ∧ Below w.heap.size w w' := by
  refine callsIn_wide.1 ((hC.calls (k0 w) w vs rfl (k0_inv w) hl hr).mono ?_)
  rintro e w' ⟨v, κ', rfl, hx, hi, hv, hc⟩
  cases hv
  refine ⟨rfl, ?_⟩
  have := hc.below (k0_inv w)
  exact this

end Go.Hull
