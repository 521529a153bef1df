/- The law of append to a row of the frame's own.
   Conditions: none. -/
import Derived.Laws.StructEq
import Derived.Test.YtkbpkbjfphdgeaaPart1
section
set_option linter.unusedSimpArgs false
set_option linter.unusedVariables false
namespace Go.Am
open Go Go.RowKit

variable {P : Program} {κ : K} {w : World} {h : Nat → Blk}

def appBound : Nat := 70368744177664
def appendAV (h : Nat → Blk) (fr : Nat) (sz bytes : Nat) (x : AV) (ys : List AV) : Option Res :=
  if ys.all AV.elem = true then
    match x with
    | .nils => if ys.length * bytes ≤ appBound then some { v := .sl fr 0 0 ys.length, ups := [(fr, .row ys.isEmpty 0 false sz ys)] } else none
    | .sl b g 0 n => match h b with
      | .row nil g' frz rsz xs =>
        if g' = g ∧ rsz = sz ∧ n ≤ xs.length ∧ (frz = false ∨ n = xs.length) ∧ (n + ys.length) * bytes ≤ appBound then
          some { v := .sl b (g + 1) 0 (n + ys.length), ups := [(b, .row (nil && ys.isEmpty) (g + 1) frz sz (xs.take n ++ ys))] }
        else none
      | .dead => none
    | .sv true rsz xs => if rsz = sz ∧ ys.isEmpty = false ∧ (xs.length + ys.length) * bytes ≤ appBound then some { v := .sl fr 0 0 (xs.length + ys.length), ups := [(fr, .row false 0 false sz (xs ++ ys))] } else none
    | _ => none
  else none
/-- A nil slice's row under a new number. -/
theorem Inv.regenNil {b g sz : Nat} {frz : Bool} {xs : List AV} (hi : Inv κ h w) (hb : h b = .row true g frz sz xs) :
    ∃ κ', Ext κ w κ' w ∧ Inv κ' (Am.upd h b (.row true (g + 1) frz sz [])) w ∧ κ'.rho b (g + 1) = some none ∧ Chg κ h w κ' (Am.upd h b (.row true (g + 1) frz sz [])) w := by
  have hd : ∀ g', g < g' → κ.rho b g' = none := by have := hi.ok b; rw [hb] at this; exact this.2
  let κ' : K := { κ with rho := fun b' g' => if b' = b ∧ g' = g + 1 then some none else κ.rho b' g' }
  have hx : Ext κ w κ' w := by
    refine ⟨rfl, fun b' g' x hb' => ?_, fun _ => Nat.le_refl _, fun _ _ _ _ h => h, fun c C e h => ⟨C, h, rfl⟩, rfl⟩
    show (if _ then _ else _) = _
    rw [if_neg]
    · exact hb'
    · rintro ⟨rfl, rfl⟩; rw [hd _ (by omega)] at hb'; cases hb'
  have h0 : κ'.rho b (g + 1) = some none := by show (if _ then _ else _) = _; simp
  refine ⟨κ', hx, hi.upd hx b _ (fun b' hb' => ?_) (fun _ _ _ _ => ⟨rfl, rfl⟩) ⟨.inl ⟨rfl, h0, rfl⟩, fun g' hg' => ?_⟩ (Nat.le_refl _) ?_ hi.prot, h0,
    Chg.of b _ rfl rfl rfl (Nat.le_refl _) (fun b' hb' => by funext g'; show (if _ then _ else _) = _; rw [if_neg (by rintro ⟨rfl, _⟩; exact hb' rfl)]) (fun _ _ _ => rfl) (fun loc0 hl0 => by
      obtain ⟨g1, f1, s1, x1, h3, h4⟩ := hl0
      rw [upd_same] at h3; cases h3)⟩
  · funext g'; show (if _ then _ else _) = _; rw [if_neg (by rintro ⟨rfl, _⟩; exact hb' rfl)]
  · show (if _ then _ else _) = _
    rw [if_neg (by rintro ⟨_, rfl⟩; omega)]; exact hd g' (by omega)
  · rintro loc0 ⟨g1, f1, s1, x1, h3, h4⟩
    rw [upd_same] at h3
    cases h3
theorem upd_upd {α : Type} (f : Nat → α) (i : Nat) (u v : α) : upd (upd f i u) i v = upd f i v := by
  funext j; unfold upd; split <;> rfl
theorem nextslicecap_le (need old : Nat) (h : old < need) : Builtin.nextslicecap need old ≤ 2 * need + 192 := by
  unfold Builtin.nextslicecap
  split
  · omega
  · split
    · omega
    · have : ∀ (r c : Nat), c ≤ 2 * need + 192 → Builtin.growBy need r c ≤ 2 * need + 192 := by
        intro r
        induction r with
        | zero => intro c hc; exact hc
        | succ r ih =>
          intro c hc
          simp only [Builtin.growBy]
          split
          · exact hc
          · exact ih _ (by omega)
      exact this _ _ (by omega)
theorem cellAt_append {xs ys : List AV} {n : Nat} (hn : n ≤ xs.length) (k j : Nat) : cellAt (xs.take n ++ ys) k j = if k < n then cellAt xs k j else cellAt ys (k - n) j := by
  unfold cellAt
  rw [List.getElem?_append, List.length_take, Nat.min_eq_left hn]
  split
  · rename_i hk; rw [List.getElem?_take, if_pos hk]
  · rfl
theorem zeroCells_size (z : Array Value) (n : Nat) : (Builtin.zeroCells z n).size = n * z.size := by simp [Builtin.zeroCells]
/-- What is appended, as cells. -/
theorem app_cells (hi : Inv κ h w) {y : AV} {ya : Option Addr} {n yc : Nat} (hy : VRel κ w y (.slice ya n yc)) {sz : Nat} {ys : List AV} (hys : contAV h sz y = some ys) (hel : ys.all AV.elem = true) :
    n = ys.length ∧ (∀ e ∈ ys, e.cells.length = sz) ∧ ∃ L : List Value, L.length = ys.length * sz ∧ (Builtin.firstCells sz ys.length (.slice ya ys.length yc)).run P w = .ok L.toArray w ∧
      (∀ (k j : Nat) (x : AV), cellAt ys k j = some x → ∃ u, L[k * sz + j]? = some u ∧ VRel κ w x u) ∧ ∀ c ∈ L, c.oneCell' = true := by
  obtain ⟨ya', yc', hv, hyc, hysz, L, hL, hfirst, hLr⟩ := snd_cont (P := P) hi hy hys
  cases hv
  refine ⟨rfl, hysz, L, hL, hfirst, hLr, fun c hc => ?_⟩
  obtain ⟨q, hq, rfl⟩ := List.getElem_of_mem hc
  have hsz : 0 < sz := by rcases Nat.eq_zero_or_pos sz with h0 | h0; rw [h0] at hL; omega; exact h0
  have h1 : q / sz < ys.length := (Nat.div_lt_iff_lt_mul hsz).2 (by omega)
  have h2 : q % sz < sz := Nat.mod_lt _ hsz
  have h3 := hysz (ys[q / sz]) (by simp)
  obtain ⟨x', hx'⟩ : ∃ x', cellAt ys (q / sz) (q % sz) = some x' := ⟨(ys[q / sz]).cells[q % sz]'(by omega), by simp [cellAt, h1, h3, h2]⟩
  obtain ⟨u', hu', hur⟩ := hLr _ _ x' hx'
  have := Nat.div_add_mod q sz
  rw [Nat.mul_comm] at this
  rw [this] at hu'
  have e1 : L[q] = u' := by simpa [hq] using hu'
  rw [e1]
  refine (one_rel hur ?_).2
  have h4 := List.all_eq_true.1 hel (ys[q / sz]) (by simp)
  refine List.all_eq_true.1 h4 x' ?_
  unfold cellAt at hx'
  simp only [List.getElem?_eq_getElem h1, Option.bind_some] at hx'
  exact List.mem_of_getElem? hx'
section runs
variable {sT yT e : TypeId} {i : TypeInfo} {z : Value} {d : TypeDesc}

theorem append_inplace (hu : P.underlying sT = some (.slice e)) (hinf : P.info? e = some i) (hyT : P.underlying yT = some d) (hd : ∀ k, d ≠ .int k) (ty : TypeId) {ya : Option Addr} {n yc : Nat} {L : List Value}
    (hfirst : (Builtin.firstCells i.size n (.slice ya n yc)).run P w = .ok L.toArray w) (base : Option Addr) (sLen sCap : Nat) (hle : sLen + n ≤ sCap) :
    (Builtin.append_ #[sT, yT] ty #[.slice base sLen sCap, .slice ya n yc]).run P w =
      ((match base with | some a => storeCells (a.add (sLen * i.size)) L | none => pure () : Sem Unit).run P w).andThen fun _ w' => .ok (.slice base (sLen + n) sCap) w' := by
  have hsize : ∀ w0 : World, (sizeOf e).run P w0 = .ok i.size w0 := fun w0 => by
    simp only [sizeOf, typeInfo, Sem.run_bind, run_program, Result.andThen_ok, hinf]
    rfl
  have hlen : ∀ w0, (Builtin.lenOf (.slice ya n yc)).run P w0 = .ok n w0 := fun _ => rfl
  unfold Builtin.append_
  simp only [List.getElem?_toArray, List.getElem?_cons_zero, List.getElem?_cons_succ, Sem.run_bind, run_underlying hu, run_underlying hyT, Result.andThen_ok, hsize]
  cases d <;> first
    | exact absurd rfl (hd _)
    | (simp only [Sem.run_bind, pure, Sem.run, Result.andThen_ok, Bool.false_eq_true, if_false, hlen, if_pos hle, Bool.not_false, if_true, hfirst]
       cases base <;> simp [Sem.run, pure])
theorem append_grow (hu : P.underlying sT = some (.slice e)) (hinf : P.info? e = some i) (hz : i.zero = some z) (hb0 : 0 < i.bytes) (hbytes : i.bytes ≤ 1048576) (hyT : P.underlying yT = some d) (hd : ∀ k, d ≠ .int k) (ty : TypeId)
    {ya : Option Addr} {n yc : Nat} {L M : List Value} (base : Option Addr) (sLen sCap : Nat) (hle : ¬ sLen + n ≤ sCap) (hbound : (sLen + n) * i.bytes ≤ appBound)
    (hfirst : (Builtin.firstCells i.size n (.slice ya n yc)).run P w.drew = .ok L.toArray w.drew) (hold : (Builtin.firstCells i.size sLen (.slice base sLen sCap)).run P w.drew = .ok M.toArray w.drew) :
    ∃ c, sLen + n ≤ c ∧ (Builtin.append_ #[sT, yT] ty #[.slice base sLen sCap, .slice ya n yc]).run P w =
      .ok (.slice (some ⟨w.heap.size, 0, none⟩) (sLen + n) c) (w.drew.alloc (.cells (M.toArray ++ L.toArray ++ Builtin.zeroCells z.cells (c - (sLen + n))) e)) := by
  have hsize : ∀ w0 : World, (sizeOf e).run P w0 = .ok i.size w0 := fun w0 => by
    simp only [sizeOf, typeInfo, Sem.run_bind, run_program, Result.andThen_ok, hinf]
    rfl
  have hinfo : ∀ w0 : World, (typeInfo e).run P w0 = .ok i w0 := fun w0 => by
    simp only [typeInfo, Sem.run_bind, run_program, Result.andThen_ok, hinf]
    rfl
  have hzero : ∀ w0 : World, (zeroValue e).run P w0 = .ok z w0 := fun w0 => by
    simp only [zeroValue, Sem.run_bind, hinfo, Result.andThen_ok, hz]
    rfl
  have hlen : ∀ w0, (Builtin.lenOf (.slice ya n yc)).run P w0 = .ok n w0 := fun _ => rfl
  obtain ⟨c, hc⟩ : ∃ c, c = (Question.appendCap (sLen + n) sCap e).cut (w.tape w.drawn (.appendCap (sLen + n) sCap e)) := ⟨_, rfl⟩
  have hcap : Builtin.nextslicecap (sLen + n) sCap * i.bytes ≤ 2 ^ 48 := by
    have h1 := nextslicecap_le (sLen + n) sCap (by omega)
    have h2 : Builtin.nextslicecap (sLen + n) sCap * i.bytes ≤ (2 * (sLen + n) + 192) * i.bytes := Nat.mul_le_mul_right _ h1
    have h3 : (2 * (sLen + n) + 192) * i.bytes = 2 * ((sLen + n) * i.bytes) + 192 * i.bytes := by rw [Nat.add_mul, Nat.mul_assoc]
    have h4 : 192 * i.bytes ≤ 192 * 1048576 := Nat.mul_le_mul_left _ hbytes
    unfold appBound at hbound
    omega
  have hchoose : (choose (.appendCap (sLen + n) sCap e)).run P w = .ok c w.drew := by
    rw [hc]; simp [Question.forced]
  refine ⟨c, by rw [hc]; simp only [Question.cut]; omega, ?_⟩
  unfold Builtin.append_
  simp only [List.getElem?_toArray, List.getElem?_cons_zero, List.getElem?_cons_succ, Sem.run_bind, run_underlying hu, run_underlying hyT, Result.andThen_ok, hsize]
  cases d <;> first
    | exact absurd rfl (hd _)
    | (simp only [Sem.run_bind, pure, Sem.run, Result.andThen_ok, Bool.false_eq_true, if_false, hlen, if_neg hle, hinfo, false_or]
       rw [if_neg (by rintro ⟨_, h⟩; omega)]
       simp only [Sem.run_bind, pure, Sem.run, Result.andThen_ok, hinfo]
       rw [if_neg (by omega)]
       simp only [Sem.run_bind, pure, Sem.run, Result.andThen_ok, hchoose, hinfo, run_askRoom, hold, Bool.not_false, if_true, hfirst, hzero, newRow, run_newObj_alloc]
       rfl)
end runs

theorem Inv.loosen {b g sz : Nat} {xs : List AV} (hi : Inv κ (Am.upd h b (.row false g false sz xs)) w) (frz : Bool) : Inv κ (Am.upd h b (.row false g frz sz xs)) w := by
  have h0 := hi.ok b
  rw [upd_same] at h0
  have h1 := hi.upd (.refl κ w) b (.row false g frz sz xs) (fun _ _ => rfl) (fun _ _ _ _ => ⟨rfl, rfl⟩) ⟨?_, h0.2⟩ (Nat.le_refl _) ?_ hi.prot
  · rw [upd_upd] at h1; exact h1
  · rcases h0.1 with ⟨h2, _⟩ | ⟨_, loc, h3, h4⟩
    · cases h2
    · exact .inr ⟨rfl, loc, h3, ⟨h4.hsz, h4.own, h4.blk, h4.size, h4.cell, by have := h4.prot; simp at this; rw [this]; exact Nat.zero_le _⟩⟩
  · rintro loc0 ⟨g1, f1, s1, x1, h3, h4⟩ b' loc' hb' hl' hc
    rw [upd_same] at h3
    injection h3 with _ h3
    subst h3
    exact hb' (hi.inj _ _ _ _ hl' ⟨g, false, sz, xs, upd_same _ _ _, h4⟩ hc)
theorem Chg.loosen {κ' : K} {h : Nat → Blk} {w w' : World} {κ : K} {b g sz : Nat} {h0 : Nat → Blk} {xs : List AV} (hc : Chg κ h0 w κ' (Am.upd h b (.row false g false sz xs)) w') (frz : Bool) : Chg κ h0 w κ' (Am.upd h b (.row false g frz sz xs)) w' :=
  ⟨hc.os, hc.tape, hc.output, hc.size, hc.blk, fun b' loc hl => hc.lies b' loc (by
    obtain ⟨g1, f1, s1, x1, h1, h2⟩ := hl
    by_cases hb : b' = b
    · subst hb
      rw [upd_same] at h1
      injection h1 with _ h1; subst h1
      exact ⟨g, false, sz, xs, upd_same _ _ _, h2⟩
    · rw [upd_other _ _ hb] at h1
      exact ⟨g1, f1, s1, x1, by rw [upd_other _ _ hb]; exact h1, h2⟩), hc.prot⟩
theorem newSl {κ' : K} {b g n c sz : Nat} {C : Array Value} {e : TypeId} {w : World} (hρ : κ'.rho b g = some (some ⟨w.drew.heap.size, 0, sz⟩)) (h3 : C.size = c * sz) (hc : n ≤ c) :
    VRel κ' (w.drew.alloc (.cells C e)) (.sl b g 0 n) (.slice (some ⟨w.heap.size, 0, none⟩) n c) := by
  refine .sl ⟨w.heap.size, 0, sz⟩ _ c hρ hc (fun _ => by simp) ⟨C, e, World.alloc_heap_new w.drew _, ?_⟩
  simp only [Nat.zero_add]; rw [h3]; exact Nat.le_refl _
/-- 'append(x, ys...)', x nil or a row of the frame's own. -/
theorem snd_append {sT yT e : TypeId} {i : TypeInfo} {z : Value} {d : TypeDesc} (hu : P.underlying sT = some (.slice e)) (hinf : P.info? e = some i) (hz : i.zero = some z) (hzs : z.cells.size = i.size) (hb0 : 0 < i.bytes) (hbytes : i.bytes ≤ 1048576)
    (hyT : P.underlying yT = some d) (hd : ∀ k, d ≠ .int k) (hi : Inv κ h w) {fr : Nat} (hf : h fr = .dead) {x y : AV} {v u : Value} (hv : VRel κ w x v) (hy : VRel κ w y u) {ys : List AV} (hys : contAV h i.size y = some ys)
    {r : Res} (hr : appendAV h fr i.size i.bytes x ys = some r) (ty : TypeId) :
    ∃ q κ' w', (Builtin.append_ #[sT, yT] ty #[v, u]).run P w = .ok q w' ∧ Ext κ w κ' w' ∧ Inv κ' (updL h r.ups) w' ∧ VRel κ' w' r.v q ∧ Chg κ h w κ' (updL h r.ups) w' := by
  unfold appendAV at hr
  split at hr
  case isFalse => cases hr
  rename_i hel
  obtain ⟨ya, yc, hsl, -⟩ := snd_cont (P := P) hi hy hys
  subst hsl
  obtain ⟨-, hysz, L, hL, hfirst, hLr, hone⟩ := app_cells (P := P) hi hy hys hel
  -- a new block, whatever the row
  have hxd : Ext κ w κ w.drew := .drew κ w
  have hid : Inv κ h w.drew := hi.heapEq rfl
  obtain ⟨-, -, L', hL', hfirst', hLr', -⟩ := app_cells (P := P) hid (hy.ext hxd) hys hel
  have halloc : ∀ (xs : List AV) (M : List Value) (n c : Nat), xs.length = n → M.length = n * i.size → n + ys.length ≤ c → (∀ e ∈ xs, e.cells.length = i.size) →
      (∀ (k j : Nat) (x : AV), cellAt xs k j = some x → ∃ u, M[k * i.size + j]? = some u ∧ VRel κ w.drew x u) →
      (∀ e ∈ xs ++ ys, e.cells.length = i.size) ∧ (xs ++ ys).length * i.size ≤ (M.toArray ++ L'.toArray ++ Builtin.zeroCells z.cells (c - (n + ys.length))).size ∧
      (M.toArray ++ L'.toArray ++ Builtin.zeroCells z.cells (c - (n + ys.length))).size = c * i.size ∧
      ∀ (k j : Nat) (x : AV), cellAt (xs ++ ys) k j = some x → ∃ v, (M.toArray ++ L'.toArray ++ Builtin.zeroCells z.cells (c - (n + ys.length)))[k * i.size + j]? = some v ∧ VRel κ w.drew x v := by
    intro xs M n c hxs hM hc hs hMr
    have hsize : (M.toArray ++ L'.toArray ++ Builtin.zeroCells z.cells (c - (n + ys.length))).size = c * i.size := by
      simp only [Array.size_append, List.size_toArray, hM, hL', zeroCells_size, hzs]
      rw [← Nat.add_mul, ← Nat.add_mul]
      congr 1; omega
    have hall : ∀ e ∈ xs ++ ys, e.cells.length = i.size := fun e he => by
      rcases List.mem_append.1 he with h1 | h1
      · exact hs e h1
      · exact hysz e h1
    refine ⟨hall, by rw [hsize, List.length_append, hxs]; exact Nat.mul_le_mul_right _ hc, hsize, fun k j x hk => ?_⟩
    obtain ⟨hk1, hj⟩ := cell_lt hall hk
    have hk0 := hk
    rw [← List.take_length (l := xs), cellAt_append (Nat.le_refl _)] at hk
    rw [Array.getElem?_append_left (by simp only [Array.size_append, List.size_toArray, hM, hL']; rw [← Nat.add_mul]; have := Nat.mul_le_mul_right i.size (show k + 1 ≤ n + ys.length by simp at hk1; omega); rw [Nat.add_mul, Nat.one_mul] at this; omega)]
    rw [Array.getElem?_append]
    simp only [List.size_toArray, hM, List.getElem?_toArray]
    split at hk
    · rename_i hlt
      obtain ⟨v, hv, hvr⟩ := hMr k j x hk
      have := Nat.mul_le_mul_right i.size (show k + 1 ≤ n by omega)
      rw [Nat.add_mul, Nat.one_mul] at this
      exact ⟨v, by rw [if_pos (by omega)]; exact hv, hvr⟩
    · rename_i hlt
      obtain ⟨v, hv, hvr⟩ := hLr' _ j x hk
      have := Nat.mul_le_mul_right i.size (show n ≤ k by omega)
      refine ⟨v, ?_, hvr⟩
      rw [if_neg (by omega), show k * i.size + j - n * i.size = (k - xs.length) * i.size + j by rw [Nat.sub_mul, hxs]; omega]
      exact hv
  have hcd : Chg κ h w κ h w.drew := .heapEq rfl rfl rfl rfl
  split at hr
  · -- x is nil
    split at hr
    case isFalse => cases hr
    rename_i hbound
    cases hr
    cases hv
    by_cases hys0 : ys = []
    · subst hys0
      obtain ⟨κ', hx, hinv, hρ, hchg⟩ := hi.newNil hf i.size
      refine ⟨.slice none 0 0, κ', w, ?_, hx, hinv, .slnil hρ, hchg⟩
      have := append_inplace (P := P) (w := w) hu hinf hyT hd ty hfirst none 0 0 (by simp)
      rw [this]
      simp [pure, Sem.run]
    · have hpos : 0 < ys.length := List.length_pos_iff.2 hys0
      obtain ⟨c, hc, hrun⟩ := append_grow (P := P) (w := w) (M := []) hu hinf hz hb0 hbytes hyT hd ty none 0 0 (by omega) (by simpa using hbound) hfirst' (by simp [Builtin.firstCells, Sem.run, pure])
      obtain ⟨h1, h2, h3, h4⟩ := halloc [] [] 0 c rfl (by simp) hc (by simp) (fun k j x hk => by simp [cellAt] at hk)
      obtain ⟨κ', hx, hinv, hρ, hchg⟩ := hid.new hf _ e h1 h2 h4
      have e1 : ys.isEmpty = false := by cases ys <;> simp_all
      refine ⟨_, κ', _, hrun, hxd.trans hx, ?_, ?_, ?_⟩
      · simp only [updL, List.foldl_cons, List.foldl_nil, e1]
        exact hinv
      · have e0 : 0 + ys.length = ys.length := Nat.zero_add _
        rw [e0] at h3 hc ⊢
        exact newSl hρ h3 hc
      · simp only [updL, List.foldl_cons, List.foldl_nil, e1]
        exact hcd.trans hchg
  · -- a row of the frame's own
    rename_i b g n
    split at hr
    · rename_i nil g' frz rsz xs hb
      split at hr
      case isFalse => cases hr
      rename_i hcond
      obtain ⟨rfl, rfl, hn, hfrz, hbound⟩ := hcond
      cases hr
      have hok := hi.ok b
      rw [hb] at hok
      obtain ⟨hrow, -⟩ := hok
      cases hv with
      | slnil hρ =>
        rcases hrow with ⟨rfl, -, rfl⟩ | ⟨rfl, loc, hρ', -⟩
        · by_cases hys0 : ys = []
          · subst hys0
            obtain ⟨κ', hx, hinv, hρ', hchg⟩ := hi.regenNil hb
            refine ⟨.slice none 0 0, κ', w, ?_, hx, by simpa [updL] using hinv, by simpa using VRel.slnil hρ', by simpa [updL] using hchg⟩
            have := append_inplace (P := P) (w := w) hu hinf hyT hd ty hfirst none 0 0 (by simp)
            rw [this]
            simp [pure, Sem.run]
          · have hpos : 0 < ys.length := List.length_pos_iff.2 hys0
            obtain ⟨c, hc, hrun⟩ := append_grow (P := P) (w := w) (M := []) hu hinf hz hb0 hbytes hyT hd ty none 0 0 (by omega) hbound hfirst' (by simp [Builtin.firstCells, Sem.run, pure])
            obtain ⟨h1, h2, h3, h4⟩ := halloc [] [] 0 c rfl (by simp) hc (by simp) (fun k j x hk => by simp [cellAt] at hk)
            obtain ⟨κ', hx, hinv, hρ', hchg⟩ := hid.moved hb _ e h1 h2 h4
            have e1 : ys.isEmpty = false := by cases ys <;> simp_all
            refine ⟨_, κ', _, hrun, hxd.trans hx, ?_, ?_, ?_⟩
            · simp only [updL, List.foldl_cons, List.foldl_nil, e1, Bool.and_false, List.take_nil]
              exact hinv.loosen frz
            · exact newSl hρ' h3 hc
            · simp only [updL, List.foldl_cons, List.foldl_nil, e1, Bool.and_false, List.take_nil]
              exact (hcd.trans hchg).loosen frz
        · rw [hρ] at hρ'; cases hρ'
      | sl loc a c hρ hnc ha hblk =>
        rcases hrow with ⟨-, hρ', -⟩ | ⟨rfl, loc', hρ', hra⟩
        · rw [hρ] at hρ'; cases hρ'
        · rw [hρ] at hρ'; cases hρ'
          have hxsl : (xs.take n).length = n := by rw [List.length_take]; omega
          have hxsz : ∀ e ∈ xs.take n, e.cells.length = i.size := fun e he => hra.size e (List.mem_of_mem_take he)
          have hcnt : ∀ (k j : Nat) (x : AV), cellAt (xs.take n) k j = some x → cellAt xs k j = some x := fun k j x hk => by
            have := cellAt_sub (xs := xs) (i := 0) (n := n) (k := k) (j := j) (x := x) (by simpa using hk)
            simpa using this.2
          by_cases hroom : n + ys.length ≤ c
          · -- in place
            have hrun := append_inplace (P := P) (w := w) hu hinf hyT hd ty hfirst (some a) n c hroom
            obtain ⟨C, ty', hC, hCs⟩ := hra.blk
            obtain ⟨C2, ty2, hC2, hCs2⟩ := hblk
            rw [hC] at hC2; injection hC2 with hC2; injection hC2 with e1 e2; subst e1 e2
            simp only [Nat.zero_add] at hCs2
            rw [hra.hsz] at hCs2
            by_cases hys0 : ys = []
            · subst hys0
              have hL0 : L = [] := List.eq_nil_of_length_eq_zero (by simpa using hL)
              subst hL0
              obtain ⟨hx1, hinv1, hch1⟩ := hi.setRow hb hρ hC rfl frz (xs.take n ++ []) (fun _ _ => rfl) (by simpa using hxsz) (by simp only [List.append_nil, hxsl]; have := Nat.mul_le_mul_right i.size hn; omega)
                (fun k j x hk => by
                  obtain ⟨v, hv, hvr⟩ := hra.cell k j x (hcnt k j x (by simpa using hk))
                  exact ⟨v, by rw [← cell_of_heap hC]; exact hv, hvr⟩)
                (by
                  have hp := hra.prot
                  rcases hfrz with h0 | h0
                  · subst h0; simpa using hp
                  · subst h0; simpa [List.take_length] using hp)
              have hsame : w.setRow loc.c C = w := setRow_self w _ _ _ _ hC
              rw [hsame] at hx1 hinv1 hch1
              obtain ⟨κ', hx2, hinv2, hρ2, hch2⟩ := hinv1.regen (b := b) (by rw [upd_same]) hρ
              rw [upd_upd] at hinv2 hch2
              refine ⟨.slice (some a) n c, κ', w, ?_, hx2, ?_, ?_, by simpa [updL] using hch1.trans hch2⟩
              · rw [hrun]; simp [storeCells, pure, Sem.run]
              · simpa [updL] using hinv2
              · exact .sl loc a c hρ2 hnc ha ⟨C, ty', hC, by simpa [hra.hsz] using hCs2⟩
            · have hpos : 0 < ys.length := List.length_pos_iff.2 hys0
              have ha' := ha (by omega)
              subst ha'
              obtain ⟨off, hoff⟩ : ∃ off, off = loc.o + n * i.size := ⟨_, rfl⟩
              have hLfit : off + L.length ≤ C.size := by
                rw [hoff, hL]
                have := Nat.mul_le_mul_right i.size hroom
                rw [Nat.add_mul] at this
                omega
              have hstore := run_storeCells_at (P := P) loc.c off ty' L 0 C w hC (by simpa using hLfit) hone
              obtain ⟨C', hC'⟩ : ∃ C', C' = (C.toList.take (off + 0) ++ L ++ C.toList.drop (off + 0 + L.length)).toArray := ⟨_, rfl⟩
              rw [← hC'] at hstore
              have hget : ∀ q, C'[q]? = if off ≤ q ∧ q < off + L.length then L[q - off]? else C[q]? := by
                intro q
                rw [hC']
                simp only [Nat.add_zero, List.getElem?_toArray]
                rw [List.append_assoc, List.getElem?_append]
                simp only [List.length_take, Array.length_toList, Nat.min_eq_left (show off ≤ C.size by omega)]
                by_cases g1 : q < off
                · simp [g1, show ¬ (off ≤ q) by omega]
                · rw [if_neg g1, List.getElem?_append]
                  by_cases g2 : q < off + L.length
                  · simp [show off ≤ q by omega, g2, show q - off < L.length by omega]
                  · simp only [show ¬ (q - off < L.length) by omega, if_false, show ¬ (off ≤ q ∧ q < off + L.length) by omega]
                    rw [List.getElem?_drop]
                    simp [show off + L.length + (q - off - L.length) = q by omega]
              have hsz' : C'.size = C.size := by rw [hC']; simp; omega
              have hprot : κ.prot loc.c ≤ off := by
                have hp := hra.prot
                rcases hfrz with h0 | h0
                · subst h0; simp at hp; omega
                · subst h0; rw [hoff]; split at hp <;> omega
              obtain ⟨hx1, hinv1, hch1⟩ := hi.setRow hb hρ hC hsz' frz (xs.take n ++ ys) (fun q hq => by rw [hget, if_neg (by omega)])
                (fun e he => by
                  rcases List.mem_append.1 he with g1 | g1
                  · exact hxsz e g1
                  · exact hysz e g1)
                (by rw [List.length_append, hxsl, Nat.add_mul]; have := Nat.mul_le_mul_right i.size hroom; rw [Nat.add_mul] at this; omega)
                (fun k j x hk => by
                  have hk0 := hk
                  rw [cellAt_append hn] at hk
                  split at hk
                  · rename_i hlt
                    obtain ⟨v, hv, hvr⟩ := hra.cell k j x hk
                    have hj := (cell_lt hra.size hk).2
                    have := Nat.mul_le_mul_right i.size (show k + 1 ≤ n by omega)
                    rw [Nat.add_mul, Nat.one_mul] at this
                    exact ⟨v, by rw [hget, if_neg (by omega), ← cell_of_heap hC]; exact hv, hvr⟩
                  · rename_i hlt
                    obtain ⟨v, hv, hvr⟩ := hLr _ j x hk
                    obtain ⟨hkn, hj⟩ := cell_lt hysz hk
                    have e1 := Nat.mul_le_mul_right i.size (show n ≤ k by omega)
                    have e2 := Nat.mul_le_mul_right i.size (show k - n + 1 ≤ ys.length by omega)
                    rw [Nat.add_mul, Nat.one_mul, Nat.sub_mul] at e2
                    refine ⟨v, ?_, hvr⟩
                    rw [hget, if_pos (by omega), show loc.o + k * i.size + j - off = (k - n) * i.size + j by rw [Nat.sub_mul]; omega]
                    exact hv)
                (by
                  rw [List.length_append, hxsl, Nat.add_mul]
                  have hp := hra.prot
                  rcases hfrz with h0 | h0
                  · subst h0; simpa using hp
                  · subst h0; split at hp <;> simp_all <;> omega)
              obtain ⟨κ', hx2, hinv2, hρ2, hch2⟩ := hinv1.regen (b := b) (by rw [upd_same]) hρ
              rw [upd_upd] at hinv2 hch2
              refine ⟨.slice (some ⟨loc.c, loc.o + 0 * loc.sz, none⟩) (n + ys.length) c, κ', w.setRow loc.c C', ?_, hx1.trans hx2, ?_, ?_, by simpa [updL] using hch1.trans hch2⟩
              · rw [hrun]
                simp only [addr_add, Nat.zero_mul, Nat.add_zero]
                rw [← hoff, hstore]
                rfl
              · simpa [updL] using hinv2
              · exact .sl loc _ c hρ2 hroom (fun _ => rfl) ⟨C', ty', setRow_heap w _ _ _ _ _ hC, by simpa [hra.hsz, hsz'] using hCs2⟩
          · -- a new block
            have hvd : VRel κ w.drew (.sl b g' 0 n) (.slice (some a) n c) := (VRel.sl loc a c hρ hnc ha hblk).ext hxd
            obtain ⟨a2, c2, hv2, -, hsz2, M, hM, hfM, hMr⟩ := snd_cont (P := P) hid hvd (sz := i.size) (xs := xs.take n) (by simp [contAV, hb, hn])
            rw [hxsl] at hfM hM
            obtain ⟨c', hc', hrun⟩ := append_grow (P := P) (w := w) (M := M) hu hinf hz hb0 hbytes hyT hd ty (some a) n c hroom hbound hfirst' hfM
            obtain ⟨h1, h2, h3, h4⟩ := halloc (xs.take n) M n c' hxsl hM hc' hxsz hMr
            obtain ⟨κ', hx, hinv, hρ', hchg⟩ := hid.moved hb _ e h1 h2 h4
            refine ⟨_, κ', _, hrun, hxd.trans hx, ?_, ?_, ?_⟩
            · simp only [updL, List.foldl_cons, List.foldl_nil, Bool.false_and]
              exact hinv.loosen frz
            · exact newSl hρ' h3 hc'
            · simp only [updL, List.foldl_cons, List.foldl_nil, Bool.false_and]
              exact (hcd.trans hchg).loosen frz
    · cases hr
  · -- a slice that is full
    rename_i rsz xs
    split at hr
    case isFalse => cases hr
    rename_i hcond
    obtain ⟨rfl, hne, hbound⟩ := hcond
    cases hr
    have hpos : 0 < ys.length := by cases ys <;> simp_all
    obtain ⟨a, c, rfl, -, hxsz, M, hM, hfM, hMr⟩ := snd_cont (P := P) hid (hv.ext hxd) (sz := i.size) (xs := xs) (by simp [contAV])
    have hcl : c = xs.length := by
      cases hv with
      | sv a c F hn hcap hc hm hs hr => exact hcap rfl
    subst hcl
    obtain ⟨c', hc', hrun⟩ := append_grow (P := P) (w := w) (M := M) hu hinf hz hb0 hbytes hyT hd ty a xs.length xs.length (by omega) hbound hfirst' hfM
    obtain ⟨h1, h2, h3, h4⟩ := halloc xs M xs.length c' rfl hM hc' hxsz hMr
    obtain ⟨κ', hx, hinv, hρ, hchg⟩ := hid.new hf _ e h1 h2 h4
    refine ⟨_, κ', _, hrun, hxd.trans hx, ?_, ?_, ?_⟩
    · simp only [updL, List.foldl_cons, List.foldl_nil]
      exact hinv
    · exact newSl hρ h3 hc'
    · simp only [updL, List.foldl_cons, List.foldl_nil]
      exact hcd.trans hchg
  · cases hr
end Go.Am
end
section
set_option linter.unusedSimpArgs false
set_option linter.unusedVariables false
namespace Go.Am
open Go Go.RowKit

variable {P : Program} {κ : K} {w : World} {h : Nat → Blk}

def clearAV (h : Nat → Blk) (sz : Nat) (z : AV) : AV → Option Res
  | .sl b g i n => match h b with
    | .row nil g' frz rsz xs =>
      if g' = g ∧ rsz = sz ∧ i + n ≤ xs.length ∧ (n = 0 ∨ frz = false) ∧ z.elem = true ∧ z.cells.length = sz then
        some { v := .tup [], ups := [(b, .row nil g frz sz (xs.take i ++ List.replicate n z ++ xs.drop (i + n)))] }
      else none
    | .dead => none
  | _ => none
def slcMAV (h : Nat → Blk) (sz : Nat) (u : Int) : AV → Option Res
  | .sl b g i n => match h b with
    | .row false g' frz rsz xs =>
      if g' = g ∧ rsz = sz ∧ 0 ≤ u ∧ u.toNat ≤ n ∧ i + n ≤ xs.length then
        some { v := .sv true sz ((xs.drop i).take u.toNat), ups := [(b, .row false g true sz xs)] }
      else none
    | _ => none
  | _ => none
theorem upd_self (h : Nat → Blk) (b : Nat) {x : Blk} (hb : h b = x) : Am.upd h b x = h := by
  funext j; unfold Am.upd; split
  · rename_i e; subst e; exact hb.symm
  · rfl
theorem zeroCells_rep (z : Value) (n : Nat) (hz : 0 < z.cells.size) : ∀ q, q < n * z.cells.size → ((Builtin.zeroCells z.cells n).toList)[q]? = z.cells[q % z.cells.size]? := by
  intro q hq
  have h2 : q % z.cells.size < z.cells.size := Nat.mod_lt _ hz
  simp [Builtin.zeroCells, hq, h2, getElem!_pos]
theorem snd_clear {t e : TypeId} {i : TypeInfo} {z : Value} (hu : P.underlying t = some (.slice e)) (hinf : P.info? e = some i) (hz : i.zero = some z) (hzs : z.cells.size = i.size) (hi : Inv κ h w) {x : AV} {v : Value} (hv : VRel κ w x v)
    {r : Res} (hr : clearAV h i.size (ofConst z) x = some r) (ty : TypeId) :
    ∃ w', (Builtin.clear_ #[t] ty #[v]).run P w = .ok (.tuple #[]) w' ∧ Ext κ w κ w' ∧ Inv κ (updL h r.ups) w' ∧ r.v = .tup [] ∧ Chg κ h w κ (updL h r.ups) w' := by
  cases x <;> simp only [clearAV] at hr <;> first | (cases hr; done) | skip
  rename_i b g k n
  split at hr <;> first | (cases hr; done) | skip
  rename_i nil g' frz rsz xs hb
  split at hr <;> first | (cases hr; done) | skip
  rename_i hcond
  obtain ⟨rfl, rfl, hfit, hfrz, hzel, hzl⟩ := hcond
  cases hr
  have hzero : ∀ w0 : World, (zeroValue e).run P w0 = .ok z w0 := fun w0 => by
    simp only [zeroValue, typeInfo, Sem.run_bind, run_program, Result.andThen_ok, hinf]
    simp only [pure, Sem.run, Result.andThen_ok, hz]
  by_cases hn : n = 0
  · subst hn
    have hself : updL h [(b, .row nil g' frz i.size (xs.take k ++ List.replicate 0 (ofConst z) ++ xs.drop (k + 0)))] = h := by
      simp only [updL, List.foldl_cons, List.foldl_nil, List.replicate_zero, List.append_nil, Nat.add_zero, List.take_append_drop]
      exact upd_self h b hb
    refine ⟨w, ?_, .refl _ _, by rw [hself]; exact hi, rfl, by rw [hself]; exact .refl _ _ _⟩
    cases hv with
    | sl loc a c hρ hnc ha hblk =>
      unfold Builtin.clear_
      simp only [List.getElem?_toArray, List.getElem?_cons_zero, Sem.run_bind, run_underlying hu, Result.andThen_ok]
      rfl
    | slnil hρ =>
      unfold Builtin.clear_
      simp only [List.getElem?_toArray, List.getElem?_cons_zero, Sem.run_bind, run_underlying hu, Result.andThen_ok]
      rfl
  · have hfz : frz = false := by rcases hfrz with h0 | h0 <;> first | exact absurd h0 hn | exact h0
    subst hfz
    obtain ⟨m, rfl⟩ : ∃ m, n = m + 1 := ⟨n - 1, by omega⟩
    have hok := hi.ok b
    rw [hb] at hok
    obtain ⟨hrow, -⟩ := hok
    cases hv with
    | sl loc a c hρ hnc ha hblk =>
      rcases hrow with ⟨-, hρ', -⟩ | ⟨rfl, loc', hρ', hra⟩
      · rw [hρ] at hρ'; cases hρ'
      · rw [hρ] at hρ'; cases hρ'
        have ha' := ha (by omega)
        subst ha'
        obtain ⟨C, ty', hC, hCs⟩ := hra.blk
        obtain ⟨off, hoff⟩ : ∃ off, off = loc.o + k * i.size := ⟨_, rfl⟩
        have hkk : (k + (m + 1)) * i.size ≤ xs.length * i.size := Nat.mul_le_mul_right _ hfit
        rw [Nat.add_mul] at hkk
        have hLlen : (Builtin.zeroCells z.cells (m + 1)).toList.length = (m + 1) * i.size := by simp [zeroCells_size, hzs]
        obtain ⟨hzc, hzr, hzone⟩ := cells_rel (ofConst_rel κ w z) hzel
        have hone : ∀ c ∈ (Builtin.zeroCells z.cells (m + 1)).toList, c.oneCell' = true := fun c hc => by
          obtain ⟨q, hq, rfl⟩ := List.getElem_of_mem hc
          rw [hLlen] at hq
          have hpos : 0 < z.cells.size := by rcases Nat.eq_zero_or_pos i.size with h0 | h0; rw [h0] at hq; omega; omega
          have := zeroCells_rep z (m + 1) hpos q (by rw [hzs]; exact hq)
          have h2 : q % z.cells.size < z.cells.size := Nat.mod_lt _ hpos
          have e1 : (Builtin.zeroCells z.cells (m + 1)).toList[q]'(by rw [hLlen]; exact hq) = z.cells[q % z.cells.size] := by
            rw [List.getElem?_eq_getElem (by rw [hLlen]; exact hq), Array.getElem?_eq_getElem h2] at this
            exact Option.some.inj this
          rw [e1]
          exact Array.all_eq_true.1 hzone _ h2
        have hle : off + (Builtin.zeroCells z.cells (m + 1)).toList.length ≤ C.size := by rw [hLlen, hoff]; omega
        have hstore := run_storeCells_at (P := P) loc.c off ty' (Builtin.zeroCells z.cells (m + 1)).toList 0 C w hC (by simpa using hle) hone
        obtain ⟨C', hC'⟩ : ∃ C', C' = (C.toList.take (off + 0) ++ (Builtin.zeroCells z.cells (m + 1)).toList ++ C.toList.drop (off + 0 + (Builtin.zeroCells z.cells (m + 1)).toList.length)).toArray := ⟨_, rfl⟩
        rw [← hC'] at hstore
        obtain ⟨L, hL⟩ : ∃ L, L = (Builtin.zeroCells z.cells (m + 1)).toList := ⟨_, rfl⟩
        have hget : ∀ q, C'[q]? = if off ≤ q ∧ q < off + (m + 1) * i.size then L[q - off]? else C[q]? := by
          intro q
          rw [← hLlen, hC', ← hL]
          rw [← hL] at hle
          simp only [Nat.add_zero, List.getElem?_toArray]
          rw [List.append_assoc, List.getElem?_append]
          simp only [List.length_take, Array.length_toList, Nat.min_eq_left (show off ≤ C.size by omega)]
          by_cases g1 : q < off
          · simp [g1, show ¬ (off ≤ q) by omega]
          · rw [if_neg g1, List.getElem?_append]
            by_cases g2 : q < off + L.length
            · simp [show off ≤ q by omega, g2, show q - off < L.length by omega]
            · simp only [show ¬ (q - off < L.length) by omega, if_false, show ¬ (off ≤ q ∧ q < off + L.length) by omega]
              rw [List.getElem?_drop]
              simp [show off + L.length + (q - off - L.length) = q by omega]
        have hsz' : C'.size = C.size := by rw [hC']; simp only [List.size_toArray, List.length_append, List.length_take, List.length_drop, Array.length_toList] at hle ⊢; omega
        have hp0 : κ.prot loc.c = 0 := by have := hra.prot; simp at this; exact this
        have hnl : (xs.take k ++ List.replicate (m + 1) (ofConst z) ++ xs.drop (k + (m + 1))).length = xs.length := by simp; omega
        obtain ⟨hx1, hinv1, hch1⟩ := hi.setRow hb hρ hC hsz' false (xs.take k ++ List.replicate (m + 1) (ofConst z) ++ xs.drop (k + (m + 1))) (fun q hq => by omega)
          (fun e he => by
            rcases List.mem_append.1 he with g1 | g1
            · rcases List.mem_append.1 g1 with g2 | g2
              · exact hra.size e (List.mem_of_mem_take g2)
              · rw [List.eq_of_mem_replicate g2]; exact hzl
            · exact hra.size e (List.mem_of_mem_drop g1))
          (by rw [hnl]; exact hCs)
          (fun k' j x hk => by
            rw [List.append_assoc, cellAt_append (by omega)] at hk
            split at hk
            · rename_i hlt
              obtain ⟨v, hv, hvr⟩ := hra.cell k' j x hk
              have hj := (cell_lt hra.size hk).2
              have := Nat.mul_le_mul_right i.size (show k' + 1 ≤ k by omega)
              rw [Nat.add_mul, Nat.one_mul] at this
              exact ⟨v, by rw [hget, if_neg (by omega), ← cell_of_heap hC]; exact hv, hvr⟩
            · rename_i hlt
              have e1 : (List.replicate (m + 1) (ofConst z)).take (m + 1) = List.replicate (m + 1) (ofConst z) := by simp
              rw [← e1, cellAt_append (by simp)] at hk
              have hkk' := Nat.mul_le_mul_right i.size (show k ≤ k' by omega)
              split at hk
              · rename_i hlt2
                have hk2 : (ofConst z).cells[j]? = some x := by simpa [cellAt, hlt2] using hk
                have hj : j < i.size := by rw [← hzl]; exact (List.getElem?_eq_some_iff.1 hk2).1
                obtain ⟨v, hv, hvr, -⟩ := hzr j x hk2
                have e2 := Nat.mul_le_mul_right i.size (show k' - k + 1 ≤ m + 1 by omega)
                rw [Nat.add_mul, Nat.one_mul, Nat.sub_mul] at e2
                refine ⟨v, ?_, hvr⟩
                rw [hget, if_pos (by omega), hL]
                have e3 : loc.o + k' * i.size + j - off = (k' - k) * i.size + j := by rw [Nat.sub_mul]; omega
                rw [e3, zeroCells_rep z (m + 1) (by omega) _ (by rw [hzs, Nat.sub_mul]; omega), hzs, Nat.mul_comm, Nat.mul_add_mod, Nat.mod_eq_of_lt hj]
                exact hv
              · rename_i hlt2
                have hk3 : cellAt xs k' j = some x := by
                  unfold cellAt at hk ⊢
                  rw [List.getElem?_drop] at hk
                  rw [show k + (m + 1) + (k' - k - (m + 1)) = k' by omega] at hk
                  exact hk
                obtain ⟨v, hv, hvr⟩ := hra.cell k' j x hk3
                have e2 := Nat.mul_le_mul_right i.size (show k + (m + 1) ≤ k' by omega)
                rw [Nat.add_mul] at e2
                exact ⟨v, by rw [hget, if_neg (by omega), ← cell_of_heap hC]; exact hv, hvr⟩)
          (by rw [hp0]; simp)
        refine ⟨w.setRow loc.c C', ?_, hx1, by simpa [updL] using hinv1, rfl, by simpa [updL] using hch1⟩
        unfold Builtin.clear_
        simp only [List.getElem?_toArray, List.getElem?_cons_zero, Sem.run_bind, run_underlying hu, Result.andThen_ok, hzero]
        rw [show loc.o + k * loc.sz = off by rw [hoff, hra.hsz], hstore]
        rfl
theorem snd_slcM {t e : TypeId} {i : TypeInfo} (hu : P.underlying t = some (.slice e)) (hinf : P.info? e = some i) (hi : Inv κ h w) {x : AV} {v : Value} (hv : VRel κ w x v) {k k' : IntKind} {u : Int}
    {r : Res} (hr : slcMAV h i.size u x = some r) :
    ∃ q κ', (Instr.sliceAt t v none (some (.int k u)) (some (.int k' u))).run P w = .ok q w ∧ Ext κ w κ' w ∧ Inv κ' (updL h r.ups) w ∧ VRel κ' w r.v q ∧ Chg κ h w κ' (updL h r.ups) w := by
  cases x <;> simp only [slcMAV] at hr <;> first | (cases hr; done) | skip
  rename_i b g s n
  split at hr <;> first | (cases hr; done) | skip
  rename_i g' frz rsz xs hb
  split at hr <;> first | (cases hr; done) | skip
  rename_i hcond
  obtain ⟨rfl, rfl, h0, hun, hfit⟩ := hcond
  cases hr
  have hok := hi.ok b
  rw [hb] at hok
  obtain ⟨hrow, -⟩ := hok
  rcases hrow with ⟨h1, -⟩ | ⟨-, loc', hρ', hra⟩
  · cases h1
  cases hv with
  | slnil hρ => rw [hρ] at hρ'; cases hρ'
  | sl loc a c hρ hnc ha hblk =>
    rw [hρ] at hρ'; cases hρ'
    obtain ⟨m, hm⟩ : ∃ m, m = u.toNat := ⟨_, rfl⟩
    have hum : u = (m : Int) := by omega
    rw [← hm] at hun ⊢
    have hrun : (Instr.sliceAt t (.slice (some a) n c) none (some (.int k u)) (some (.int k' u))).run P w = .ok (.slice (if m = 0 then some a else some (a.add 0)) m m) w := by
      have hbb : ∀ (k : IntKind) (y : Nat) (code : BoundsCode), m ≤ y → (Instr.sliceBound (.int k u) y code).run P w = .ok m w := fun k y code g1 => by
        simp only [Instr.sliceBound, asIntOf, pure_bind]
        rw [if_pos ⟨h0, by omega⟩, ← hm]; rfl
      simp only [Instr.sliceAt, Sem.run_bind, run_underlying hu, Result.andThen_ok, Instr.slice]
      have hsb : (Instr.sliceBounds true n c none (some (.int k u)) (some (.int k' u))).run P w = .ok (0, m, m) w := by
        simp only [Instr.sliceBounds, pure_bind, Sem.run_bind, hbb k' c _ (by omega), hbb k m _ (Nat.le_refl _), Result.andThen_ok]
        rfl
      rw [hsb]
      simp only [Result.andThen_ok, sizeOf, typeInfo, Sem.run_bind, run_program, hinf]
      simp only [pure, Sem.run, Result.andThen_ok, Nat.zero_mul, Nat.sub_zero, Option.map_some]
    obtain ⟨κ', hx, hinv, hρ2, hp2, hchg⟩ := hi.freeze hb hρ
    refine ⟨_, κ', hrun, hx, by simpa [updL] using hinv, ?_, by simpa [updL] using hchg⟩
    have hlen : ((xs.drop s).take m).length = m := by simp; omega
    by_cases hm0 : m = 0
    · subst hm0
      rw [if_pos rfl]
      have := VRel.sv (κ := κ') (w := w) (vol := true) (sz := i.size) (xs := (xs.drop s).take 0) (some a) 0 (fun _ _ => undef) (by simp) (by simp) (by simp) (fun p k j x _ hk => by simp [cellAt] at hk) (by simp) (fun k j x hk => by simp [cellAt] at hk)
      simpa using this
    · rw [if_neg hm0]
      have ha' := ha (by omega)
      have hF : ∀ (k j : Nat), ∃ v : Value, ∀ x, cellAt ((xs.drop s).take m) k j = some x → w.cell? ⟨loc'.c, loc'.o + (s + k) * i.size + j, none⟩ = some v ∧ VRel κ' w x v := fun k j => by
        cases hk : cellAt ((xs.drop s).take m) k j with
        | none => exact ⟨undef, fun x h => by cases h⟩
        | some y =>
          obtain ⟨v, hv, hvr⟩ := hra.cell _ j y (cellAt_sub hk).2
          exact ⟨v, fun x h => by cases h; exact ⟨hv, hvr.ext hx⟩⟩
      have := VRel.sv (κ := κ') (w := w) (vol := true) (sz := i.size) (xs := (xs.drop s).take m) (some (a.add 0)) m (fun k j => (hF k j).choose) (by omega) (fun _ => hlen.symm) (fun _ => ⟨_, rfl, by rw [ha']; simp [addr_add]⟩)
        (fun p k j x hp hk => by
          cases hp
          have h3 := (hF k j).choose_spec x hk
          rw [ha', addr_add]
          simp only [Nat.add_zero, hra.hsz]
          have e1 : loc'.o + s * i.size + k * i.size + j = loc'.o + (s + k) * i.size + j := by rw [Nat.add_mul]; omega
          rw [e1]
          refine ⟨h3.1, .inr ?_⟩
          rw [hp2]
          obtain ⟨g1, g2⟩ := cellAt_sub hk
          have hj := (cell_lt hra.size g2).2
          have := Nat.mul_le_mul_right i.size (show s + k + 1 ≤ xs.length by omega)
          rw [Nat.add_mul, Nat.one_mul] at this
          omega)
        (fun e he => hra.size e (List.mem_of_mem_drop (List.mem_of_mem_take he)))
        (fun k j x hk => ((hF k j).choose_spec x hk).2)
      rw [hlen] at this
      exact this
end Go.Am
end
section
set_option linter.unusedSimpArgs false
set_option linter.unusedVariables false
namespace Go.Am
open Go Go.RowKit

def isAggT (P : Program) (t : TypeId) : Option Bool := (P.underlying t).map isAggD
def sizeT (P : Program) (t : TypeId) : Option Nat := (P.info? t).map (·.size)
def scalK (P : Program) (t : TypeId) : Option SK :=
  match P.underlying t with
  | some .bool => some .b
  | some (.int _) => some .i
  | some .string => some .s
  | _ => none
def fieldKs (P : Program) : Nat → List Field → Option (List SK)
  | _, [] => some []
  | o, f :: fs => if f.offset = o ∧ f.name ≠ "_" then match scalK P f.type, fieldKs P (o + 1) fs with
      | some k, some ks => some (k :: ks)
      | _, _ => none
    else none
/-- The kinds of the cells that '==' of this type compares; is it a struct or an array? -/
def eqKs (P : Program) (t : TypeId) : Option (Bool × List SK) :=
  match P.underlying t with
  | some .bool => some (false, [.b])
  | some (.int _) => some (false, [.i])
  | some .string => some (false, [.s])
  | some (.struct fs) => if P.stoodInHeld t = false ∧ P.eqGuardType P.depth t = false then (fieldKs P 0 fs.toList).map fun ks => (true, ks) else none
  | some (.array n e) => if P.eqGuardType P.depth t = false ∧ sizeT P e = some 1 then (scalK P e).map fun k => (true, List.replicate n k) else none
  | _ => none
def oneOf (P : Program) (t : TypeId) : Option (Nat × Nat × Value) :=
  match P.info? t with
  | some i => i.zero.map fun z => (i.size, i.bytes, z)
  | none => none
def isConstNil : Operand → Bool
  | .const (.slice none 0 0) => true
  | _ => false
def partsOf (P : Program) (place : Nat → Option (Nat × Nat)) (parts : List (Nat × Operand)) : Option (List (Nat × Nat × Opd)) :=
  parts.mapM fun p => (place p.1).map fun q => (q.1, q.2, copd p.2)
def fieldPlaces (P : Program) (fs : Array Field) : Option (List (Nat × Nat)) := fs.toList.mapM fun f => (sizeT P f.type).map fun s => (f.offset, s)
def inOrder : Nat → List (Nat × Operand) → Bool
  | _, [] => true
  | n, p :: ps => p.1 == n && inOrder (n + 1) ps
def compOp (P : Program) (op : Op) (ty : TypeId) : Option AOp :=
  match op with
  | .move x => some (.mv (copd x))
  | .assign x => if isConstNil x then (match P.underlying ty with
      | some (.slice e) => (sizeT P e).map .newnil
      | _ => some (.mv (copd x)))
    else some (.mv (copd x))
  | .pick c a b => some (.pick (copd c) (copd a) (copd b))
  | .alloc e => (oneOf P e).map fun q => .alloc (ofConst q.2.2)
  | .box e x => some (.box (copd x))
  | .build t parts => match P.underlying t, oneOf P t with
    | some (.struct fs), some q => match fieldPlaces P fs with
      | some pl => match ofConst q.2.2 with
        | .agg cs => (partsOf P (pl[·]?) parts.toList).map fun ps => .build cs ps
        | _ => none
      | none => none
    | some (.array _ e), some q => match sizeT P e with
      | some s => match ofConst q.2.2 with
        | .agg cs => (partsOf P (fun i => some (i * s, s)) parts.toList).map fun ps => .build cs ps
        | _ => none
      | none => none
    | _, _ => none
  | .buildSlice t len parts => match P.underlying t with
    | some (.slice e) => match oneOf P e with
      | some (s, _, z) => if len * s ≤ 2 ^ 24 ∧ inOrder 0 parts.toList = true ∧ parts.size = len ∧ z.cells.size = s then some (.bsl s (parts.toList.map fun p => copd p.2)) else none
      | none => none
    | _ => none
  | .load t x => match isAggT P t, sizeT P t with
    | some a, some s => some (.load a s (copd x))
    | _, _ => none
  | .store t x v => match sizeT P t with
    | some s => if 0 < s then some (.store s (copd x) (copd v)) else none
    | none => none
  | .nilCheck x => some (.nchk (copd x))
  | .binOp op t x y _ => match op with
    | .eql => match eqKs P t with
      | some (false, [.i]) => some (.bin .eql (copd x) (copd y))
      | some (false, [.s]) => some (.bin .eql (copd x) (copd y))
      | some (a, ks) => some (.eqv false a ks (copd x) (copd y))
      | none => none
    | .neq => match eqKs P t with
      | some (false, [.i]) => some (.bin .neq (copd x) (copd y))
      | some (false, [.s]) => some (.bin .neq (copd x) (copd y))
      | some (a, ks) => some (.eqv true a ks (copd x) (copd y))
      | none => none
    | op => some (.bin op (copd x) (copd y))
  | .unOp .neg _ x => some (.neg (copd x))
  | .unOp .not _ x => some (.not (copd x))
  | .convert s d x => match P.underlying s, P.underlying d with
    | some (.int _), some (.int k) => some (.conv k (copd x))
    | some .string, some .string => some (.smv (copd x))
    | _, _ => none
  | .extract x i => some (.ext (copd x) i)
  | .fieldAddr s x f => match P.underlying s with
    | some (.struct fs) => match fs[f]? with
      | some fl => match sizeT P fl.type with
        | some n => if n ≠ 0 then some (.faddr (copd x) fl.offset) else none
        | none => none
      | none => none
    | _ => none
  | .field t x f => match P.underlying t with
    | some (.struct fs) => match fs[f]? with
      | some fl => match isAggT P fl.type, sizeT P fl.type with
        | some a, some n => some (.fld (copd x) fl.offset a n)
        | _, _ => none
      | none => none
    | _ => none
  | .indexAddr t x i => match P.underlying t with
    | some (.slice e) => (sizeT P e).map fun s => .iaddr s (copd x) (copd i)
    | some (.array n e) => (sizeT P e).map fun s => .iaddrA n s (copd x) (copd i)
    | _ => none
  | .index t x i => match P.underlying t with
    | some (.array n e) => match isAggT P e, sizeT P e with
      | some a, some s => some (.idxA n s a (copd x) (copd i))
      | _, _ => none
    | some .string => some (.idxS (copd x) (copd i))
    | _ => none
  | .slice t x lo hi none => match P.underlying t with
    | some (.slice e) => (sizeT P e).map fun s => .slc s (copd x) (lo.map copd) (hi.map copd)
    | _ => none
  | .slice t x none (some hi) (some m) => match P.underlying t with
    | some (.slice e) => (sizeT P e).map fun s => .slcM s (copd x) (copd hi) (copd m)
    | _ => none
  | .makeSlice t l c => match P.underlying t with
    | some (.slice e) => match oneOf P e, l, c with
      | some (s, b, z), .tmp i, .tmp j => if i = j ∧ z.cells.size = s ∧ 0 < s ∧ 0 < b ∧ b ≤ 1048576 then some (.mks s b (ofConst z) (copd l)) else none
      | _, _, _ => none
    | _ => none
  | .makeFunc (.func f) ⟨[]⟩ caps => some (.mkf f (caps.toList.map copd))
  | .call { callee := .builtin .len, args := ⟨[x]⟩, argTypes := ⟨[t]⟩ } => match P.underlying t with
    | some .string => some (.lenS (copd x))
    | some (.slice _) => some (.len (copd x))
    | some (.array n _) => some (.lenC n)
    | _ => none
  | .call { callee := .builtin .append, args := ⟨[x, y]⟩, argTypes := ⟨[s, t]⟩ } => match P.underlying s, P.underlying t with
    | some (.slice e), some (.slice _) => match oneOf P e with
      | some (n, b, z) => if z.cells.size = n ∧ 0 < b ∧ b ≤ 1048576 then some (.append n b (copd x) (copd y)) else none
      | none => none
    | _, _ => none
  | .call { callee := .builtin .clear, args := ⟨[x]⟩, argTypes := ⟨[t]⟩ } => match P.underlying t with
    | some (.slice e) => match oneOf P e with
      | some (n, _, z) => if z.cells.size = n then some (.clear n (ofConst z) (copd x)) else none
      | none => none
    | _ => none
  | .call { callee := .builtin .max, args := xs, .. } => some (.mx (xs.toList.map copd))
  | .call { callee := .builtin .min, args := xs, .. } => some (.mn (xs.toList.map copd))
  | .call { callee := .value f, args := xs, .. } => some (.call (copd f) (xs.toList.map copd))
  | _ => none
def aop (c : AOp) (sl : Nat → AV) (h : Nat → Blk) (fr : Nat) : Option Res :=
  match c with
  | .mv x => some { v := x.ev sl }
  | .smv x => match x.ev sl with
    | .str s => some { v := .str s }
    | _ => none
  | .newnil sz => some { v := .sl fr 0 0 0, ups := [(fr, .row true 0 false sz [])] }
  | .pick c a b => match c.ev sl with
    | .bool t => some { v := pickAV t (a.ev sl) (b.ev sl) }
    | _ => none
  | .alloc z => if z.elem = true then some { v := .ptr fr 0 0 0, ups := [(fr, .row false 0 false z.cells.length [z])] } else none
  | .box x => if (x.ev sl).elem = true then some { v := .ptr fr 0 0 0, ups := [(fr, .row false 0 false (x.ev sl).cells.length [x.ev sl])] } else none
  | .build z parts => if (parts.all fun p => (p.2.2.ev sl).elem) = true then (fillA z (parts.map fun p => (p.1, p.2.1, p.2.2.ev sl))).map fun cs => { v := .agg cs } else none
  | .bsl sz xs => if (xs.all fun x => (x.ev sl).elem && (x.ev sl).cells.length == sz) = true then some { v := .sl fr 0 0 xs.length, ups := [(fr, .row false 0 false sz (xs.map (·.ev sl)))] } else none
  | .load agg sz x => (loadAV h agg sz (x.ev sl)).map fun v => { v := v }
  | .store sz x v => (storeAV h sz (v.ev sl) (x.ev sl)).map fun u => { v := .und, ups := [u] }
  | .nchk x => match x.ev sl with
    | .ptr b g i o => some { v := .ptr b g i o }
    | .rp v cs => some { v := .rp v cs }
    | .clo f cs => some { v := .clo f cs }
    | _ => none
  | .bin op x y => (binAV op (x.ev sl) (y.ev sl)).map fun v => { v := v }
  | .eqv neg agg ks x y => match agg, x.ev sl, y.ev sl with
    | true, .agg xs, .agg ys => (eqCells ks xs ys).map fun b => { v := .bool (if neg then !b else b) }
    | false, .bool a, .bool b => if ks = [.b] then some { v := .bool (if neg then !(a == b) else a == b) } else none
    | _, _, _ => none
  | .neg x => match x.ev sl with
    | .int k n => some { v := .int k (k.wrap (0 - n)) }
    | _ => none
  | .not x => match x.ev sl with
    | .bool b => some { v := .bool !b }
    | _ => none
  | .conv k x => match x.ev sl with
    | .int _ n => some { v := .int k (k.wrap n) }
    | _ => none
  | .ext x i => (extAV i (x.ev sl)).map fun v => { v := v }
  | .faddr x off => (faddrAV off (x.ev sl)).map fun v => { v := v }
  | .fld x off agg sz => (fldAV off agg sz (x.ev sl)).map fun v => { v := v }
  | .iaddr sz x i => match intAV (i.ev sl) with
    | some n => (iaddrAV h sz n (x.ev sl)).map fun v => { v := v }
    | none => none
  | .iaddrA n sz x i => match intAV (i.ev sl) with
    | some k => if 0 ≤ k ∧ k < (n : Int) then (faddrAV (k.toNat * sz) (x.ev sl)).map fun v => { v := v } else none
    | none => none
  | .idxA n sz agg x i => match intAV (i.ev sl) with
    | some k => if 0 ≤ k ∧ k < (n : Int) then (fldAV (k.toNat * sz) agg sz (x.ev sl)).map fun v => { v := v } else none
    | none => none
  | .idxS x i => match x.ev sl, intAV (i.ev sl) with
    | .str s, some k => if 0 ≤ k then (match s[k.toNat]? with
      | some b => some { v := .int .u8 b.toNat }
      | none => none) else none
    | _, _ => none
  | .slc sz x lo hi => match optInt sl lo, optInt sl hi with
    | some l, some u => match x.ev sl with
      | .sl b g i n => match h b with
        | .row _ g' _ rsz _ => if g' = g ∧ rsz = sz then (slcAV l u (.sl b g i n)).map fun v => { v := v } else none
        | .dead => none
      | .sv vol rsz xs => if rsz = sz then (slcAV l u (.sv vol rsz xs)).map fun v => { v := v } else none
      | _ => none
    | _, _ => none
  | .mks sz b z n => match n.ev sl with
    | .int .i64 n => if 0 ≤ n ∧ n.toNat * b ≤ appBound ∧ z.elem = true then some { v := .sl fr 0 0 n.toNat, ups := [(fr, .row false 0 false sz (List.replicate n.toNat z))] } else none
    | _ => none
  | .mkf f caps => some { v := .clo f (caps.map (·.ev sl)) }
  | .len x => (lenAV (x.ev sl)).map fun v => { v := v }
  | .lenS x => match x.ev sl with
    | .str s => some { v := .int .i64 s.size }
    | _ => none
  | .lenC n => some { v := .int .i64 n }
  | .append sz b x y => match contAV h sz (y.ev sl) with
    | some ys => appendAV h fr sz b (x.ev sl) ys
    | none => none
  | .slcM sz x hi mx => match intAV (hi.ev sl), intAV (mx.ev sl) with
    | some u, some m => if u = m then slcMAV h sz u (x.ev sl) else none
    | _, _ => none
  | .clear sz z x => clearAV h sz z (x.ev sl)
  | .mx xs => match xs.map (·.ev sl) with
    | x :: rest => (foldAV maxI x rest).map fun v => { v := v }
    | [] => none
  | .mn xs => match xs.map (·.ev sl) with
    | x :: rest => (foldAV minI x rest).map fun v => { v := v }
    | [] => none
  | _ => none
end Go.Am
end
section
set_option linter.unusedSimpArgs false
set_option linter.unusedVariables false
namespace Go.Am
open Go Go.RowKit

variable {P : Program} {κ : K} {w : World} {h : Nat → Blk} {sl : Nat → AV} {a : Act} {fr : Nat}

theorem isAggT_spec {t : TypeId} {b : Bool} (hb : isAggT P t = some b) : ∃ d, P.underlying t = some d ∧ b = isAggD d := by
  unfold isAggT at hb
  cases hd : P.underlying t with
  | none => simp [hd] at hb
  | some d => simp only [hd, Option.map_some, Option.some.injEq] at hb; exact ⟨d, rfl, hb.symm⟩
theorem sizeT_spec {t : TypeId} {n : Nat} (hn : sizeT P t = some n) : ∃ i, P.info? t = some i ∧ i.size = n := by
  unfold sizeT at hn
  cases hd : P.info? t with
  | none => simp [hd] at hn
  | some i => simp only [hd, Option.map_some, Option.some.injEq] at hn; exact ⟨i, rfl, hn⟩
theorem oneOf_spec {t : TypeId} {q : Nat × Nat × Value} (hq : oneOf P t = some q) : ∃ i, P.info? t = some i ∧ i.size = q.1 ∧ i.bytes = q.2.1 ∧ i.zero = some q.2.2 := by
  unfold oneOf at hq
  cases hd : P.info? t with
  | none => simp [hd] at hq
  | some i =>
    simp only [hd] at hq
    cases hz : i.zero with
    | none => simp [hz] at hq
    | some z => simp only [hz, Option.map_some, Option.some.injEq] at hq; subst hq; exact ⟨i, rfl, rfl, rfl, hz⟩
theorem run_zero {t : TypeId} {i : TypeInfo} {z : Value} (hi : P.info? t = some i) (hz : i.zero = some z) (w0 : World) : (zeroValue t).run P w0 = .ok z w0 := by
  simp only [zeroValue, typeInfo, Sem.run_bind, run_program, Result.andThen_ok, hi]
  simp only [pure, Sem.run, Result.andThen_ok, hz]
theorem run_size {t : TypeId} {i : TypeInfo} (hi : P.info? t = some i) (w0 : World) : (sizeOf t).run P w0 = .ok i.size w0 := by
  simp only [sizeOf, typeInfo, Sem.run_bind, run_program, Result.andThen_ok, hi]
  simp only [pure, Sem.run, Result.andThen_ok]
/-- An operation that hands back a value and looks at memory alone. -/
theorem Runs.val {s : Sem Value} {x : AV} {v : Value} (hs : s.run P w = .ok v w) (hi : Inv κ h w) (hv : VRel κ w x v) : Runs P (s >>= fun v => Pure.pure (Next.value v)) κ h w x (updL h []) := by
  refine Runs.pure (v := v) ?_ hi hv
  rw [Sem.run_bind, hs]; rfl
theorem vrel_agg_ne {v : Value} {cs : List AV} (h : VRel κ w (.agg cs) v) : ∃ vs, v = .agg vs ∧ CRel κ w cs vs := by
  cases h with
  | agg hl hr => exact ⟨_, rfl, hl, hr⟩
theorem run_newVar (t : TypeId) (v : Value) (w0 : World) : (newVar t v).run P w0 = .ok ⟨w0.heap.size, 0, none⟩ (w0.alloc (.cells v.cells t)) := by
  simp only [newVar, newRow, Sem.run_bind, run_newObj_alloc, Result.andThen_ok]; rfl
/-- A variable in memory. -/
theorem box_runs (hi : Inv κ h w) (hf : h fr = .dead) {x : AV} {v : Value} (hv : VRel κ w x v) (he : x.elem = true) (t : TypeId) :
    ∃ κ' w', (newVar t v).run P w = .ok ⟨w.heap.size, 0, none⟩ w' ∧ Ext κ w κ' w' ∧ Inv κ' (updL h [(fr, .row false 0 false x.cells.length [x])]) w' ∧ VRel κ' w' (.ptr fr 0 0 0) (.pointer (some ⟨w.heap.size, 0, none⟩)) ∧ Chg κ h w κ' (updL h [(fr, .row false 0 false x.cells.length [x])]) w' := by
  obtain ⟨h1, h2, _⟩ := cells_rel hv he
  obtain ⟨κ', hx, hinv, hρ, hchg⟩ := hi.new hf v.cells t (sz := x.cells.length) (xs := [x]) (by simp) (by simp [h1]) (fun k j y hk => by
    unfold cellAt at hk
    cases k with
    | zero =>
      simp only [List.getElem?_cons_zero, Option.bind_some] at hk
      obtain ⟨u, hu, hur, _⟩ := h2 j y hk
      exact ⟨u, by simpa using hu, hur⟩
    | succ k => simp at hk)
  exact ⟨κ', _, run_newVar t v w, hx, hinv, by simpa using VRel.ptr (i := 0) (o := 0) _ hρ, hchg⟩
theorem inOrder_zip : ∀ (ps : List (Nat × Operand)) (n : Nat), inOrder n ps = true → ps.map (fun p => (p.1, a.eval p.2)) = ((ps.map fun p => a.eval p.2).zipIdx n).map fun q => (q.2, q.1) := by
  intro ps
  induction ps with
  | nil => intro n _; rfl
  | cons p ps ih =>
    intro n hn
    simp only [inOrder, Bool.and_eq_true, beq_iff_eq] at hn
    simp only [List.map_cons, List.zipIdx_cons, hn.1, ih (n + 1) hn.2]
theorem bin_sound {op : BinOp} {x y z : AV} {v u : Value} {t : TypeId} (hv : VRel κ w x v) (hu : VRel κ w y u) (hz : binAV op x y = some z) (ox oy : Operand) :
    ∃ q, (do eqGuard op t ox oy v u; binOp op t v u : Sem Value).run P w = .ok q w ∧ VRel κ w z q := by
  unfold binAV at hz
  split at hz
  · rename_i k n k' m
    cases hv; cases hu
    split at hz
    · rename_i hk; subst hk
      have hg : (eqGuard op t ox oy (.int k n) (.int k m)).run P w = .ok () w := by cases op <;> rfl
      rw [Sem.run_bind, hg]
      simp only [Result.andThen_ok]
      cases op <;> first
        | (simp only [Option.some.injEq] at hz; subst hz; refine ⟨_, ?_, by constructor⟩; simp [binOp, Op.intArith, Op.intCmp, Sem.run, pure])
        | (dsimp only at hz
           split at hz
           · cases hz
           · rename_i hm
             simp only [Option.some.injEq] at hz
             subst hz
             refine ⟨_, ?_, by constructor⟩
             simp only [binOp, ne_eq, not_true_eq_false, if_false, Op.intDiv, if_neg hm]
             rfl)
        | cases hz
    · cases hz
  · rename_i n m
    cases hv; cases hu
    have hg : (eqGuard op t ox oy (.string n) (.string m)).run P w = .ok () w := by cases op <;> rfl
    rw [Sem.run_bind, hg]
    simp only [Result.andThen_ok]
    cases op <;> first
      | (simp only [Option.some.injEq] at hz; subst hz; refine ⟨_, ?_, by constructor⟩; simp [binOp, Op.stringOp, Sem.run, pure])
      | (dsimp only at hz
         split at hz
         · rename_i hm
           simp only [Option.some.injEq] at hz; subst hz; refine ⟨_, ?_, by constructor⟩
           simp only [binOp, Op.stringOp]
           rw [if_neg (by simp only [IntKind.max, IntKind.signed, IntKind.bits, if_true]; omega)]
           rfl
         · cases hz)
      | cases hz
  · cases hz
theorem eqCell_sound {k : SK} {t : TypeId} (hk : scalK P t = some k) {x y : AV} {v u : Value} (hv : VRel κ w x v) (hu : VRel κ w y u) {b : Bool} (hb : eqCell k x y = some b) (d : Nat) :
    (Op.equalIn (d + 1) t v u).run P w = .ok b w := by
  unfold scalK at hk
  unfold eqCell at hb
  split at hb
  · cases hv; cases hu
    split at hb
    · rename_i hkk; subst hkk; cases hb
      split at hk <;> first | (cases hk; done) | skip
      rename_i k' hu'
      exact run_equalIn_int w d t _ _ _ _ hu'
    · cases hb
  · cases hv; cases hu; cases hb
    split at hk <;> first | (cases hk; done) | skip
    rename_i hu'
    exact run_equalIn_bool w d t _ _ hu'
  · cases hv; cases hu; cases hb
    split at hk <;> first | (cases hk; done) | skip
    rename_i hu'
    exact run_equalIn_string w d t _ _ hu'
  · cases hb
theorem scalK_notAgg {t : TypeId} {k : SK} (hk : scalK P t = some k) : isAggT P t = some false := by
  unfold scalK at hk
  unfold isAggT
  split at hk <;> simp_all [isAggD]
theorem run_part_scal {t : TypeId} {k : SK} (hk : scalK P t = some k) {cs : Array Value} {o : Nat} {v : Value} (hv : cs[o]? = some v) : (part t cs o).run P w = .ok v w := by
  obtain ⟨d, hd, hb⟩ := isAggT_spec (scalK_notAgg hk)
  unfold part
  have : (isAgg t).run P w = .ok false w := by
    unfold isAgg
    simp only [Sem.run_bind, run_underlying hd, Result.andThen_ok]
    cases d <;> first | rfl | (simp [isAggD] at hb)
  rw [Sem.run_bind, this]
  simp [hv, Sem.run, pure]
theorem eqFields_sound (d : Nat) {vs us : Array Value} : ∀ (fs : List Field) (o : Nat) (ks : List SK) (xs ys : List AV) (b : Bool), fieldKs P o fs = some ks → eqCells ks xs ys = some b →
    (∀ (i : Nat) (x : AV), xs[i]? = some x → ∃ v, vs[o + i]? = some v ∧ VRel κ w x v) → (∀ (i : Nat) (x : AV), ys[i]? = some x → ∃ v, us[o + i]? = some v ∧ VRel κ w x v) →
    (Op.eqFields (d + 1) vs us fs).run P w = .ok b w := by
  intro fs
  induction fs with
  | nil =>
    intro o ks xs ys b hf hb _ _
    simp only [fieldKs, Option.some.injEq] at hf; subst hf
    cases xs <;> cases ys <;> simp [eqCells] at hb
    subst hb; rfl
  | cons f fs ih =>
    intro o ks xs ys b hf hb hx hy
    simp only [fieldKs] at hf
    split at hf
    · rename_i hcond
      obtain ⟨h1, h2⟩ := hcond
      split at hf
      · rename_i k ks' hk hks
        cases hf
        obtain ⟨x, xs, rfl⟩ : ∃ x xs', xs = x :: xs' := by cases xs with | nil => cases ys <;> simp [eqCells] at hb | cons x xs => exact ⟨x, xs, rfl⟩
        obtain ⟨y, ys, rfl⟩ : ∃ y ys', ys = y :: ys' := by cases ys with | nil => simp [eqCells] at hb | cons y ys => exact ⟨y, ys, rfl⟩
        simp only [eqCells] at hb
        split at hb
        · rename_i p q hp hq
          cases hb
          obtain ⟨v, hv, hvr⟩ := hx 0 x rfl
          obtain ⟨u, hu, hur⟩ := hy 0 y rfl
          simp only [Nat.add_zero] at hv hu
          subst h1
          have hrest := ih (f.offset + 1) ks' xs ys q hks hq (fun i z hz => by have := hx (i + 1) z hz; rwa [show f.offset + 1 + i = f.offset + (i + 1) by omega]) (fun i z hz => by have := hy (i + 1) z hz; rwa [show f.offset + 1 + i = f.offset + (i + 1) by omega])
          simp only [Op.eqFields, if_pos h2, Sem.run_bind, run_part_scal hk hv, run_part_scal hk hu, Result.andThen_ok, eqCell_sound hk hvr hur hp]
          cases p
          · simp [Sem.run, pure]
          · simpa using hrest
        · cases hb
      · cases hf
    · cases hf
end Go.Am
end
section
set_option linter.unusedSimpArgs false
set_option linter.unusedVariables false
namespace Go.Am
open Go Go.RowKit

variable {P : Program} {κ : K} {w : World} {h : Nat → Blk} {sl : Nat → AV} {a : Act} {fr : Nat}

theorem map_val {o : Option AV} {r : Res} (hr : (o.map fun v => ({ v := v } : Res)) = some r) : ∃ v, o = some v ∧ r = { v := v } := by
  cases o with
  | none => simp at hr
  | some v => simp only [Option.map_some, Option.some.injEq] at hr; exact ⟨v, rfl, hr.symm⟩
theorem snd_move (x : Operand) (hi : Inv κ h w) (hs : SRel κ w sl a) {r : Res} (hr : some ({ v := (copd x).ev sl } : Res) = some r) (s : Sem Next) (hrun : s.run P w = .ok (.value (a.eval x)) w) : Runs P s κ h w r.v (updL h r.ups) := by
  cases hr
  exact Runs.pure hrun hi (ev_rel hs x)
theorem args_rel (hs : SRel κ w sl a) (xs : List Operand) : ∀ (i : Nat) (x : AV) (v : Value), ((xs.map copd).map (·.ev sl))[i]? = some x → (xs.map a.eval)[i]? = some v → VRel κ w x v := by
  intro i x v hx hv
  rw [List.getElem?_map, List.getElem?_map] at hx
  rw [List.getElem?_map] at hv
  cases ho : xs[i]? with
  | none => simp [ho] at hx
  | some o =>
    simp only [ho, Option.map_some, Option.some.injEq] at hx hv
    subst hx hv
    exact ev_rel hs o
theorem snd_fld {t : TypeId} {f : Field} {b : Bool} {n : Nat} {fs : Array Field} {j : Nat} (hu : P.underlying t = some (.struct fs)) (hf : fs[j]? = some f) (hb : isAggT P f.type = some b) (hn : sizeT P f.type = some n) {x y : AV} {v : Value}
    (hv : VRel κ w x v) (hy : fldAV f.offset b n x = some y) : ∃ u, (Instr.field t v j).run P w = .ok u w ∧ VRel κ w y u := by
  obtain ⟨d, hd, hbd⟩ := isAggT_spec hb
  obtain ⟨i, hi, rfl⟩ := sizeT_spec hn
  cases x <;> simp only [fldAV] at hy <;> first | (cases hy; done) | skip
  rename_i cs
  obtain ⟨vs, rfl, hl, hr⟩ := vrel_agg_ne hv
  have hpart : ∃ u, (part f.type vs f.offset).run P w = .ok u w ∧ VRel κ w y u := by
    unfold part
    have hagg : (isAgg f.type).run P w = .ok b w := by
      unfold isAgg
      simp only [Sem.run_bind, run_underlying hd, Result.andThen_ok]
      subst hbd
      cases d <;> rfl
    rw [Sem.run_bind, hagg]
    simp only [Result.andThen_ok]
    unfold loadCells' at hy
    cases b with
    | true =>
      simp only [if_true] at hy ⊢
      split at hy
      · rename_i hle
        cases hy
        simp only [Sem.run_bind, run_size hi, Result.andThen_ok]
        refine ⟨_, rfl, .agg ?_ (fun q z u hz hu => ?_)⟩
        · simp only [List.length_drop, List.length_take, Array.size_extract] at hle ⊢; omega
        · have hq : q < i.size := by have := (List.getElem?_eq_some_iff.1 hz).1; simp at this; omega
          rw [List.getElem?_take, if_pos hq, List.getElem?_drop] at hz
          rw [Array.getElem?_extract] at hu
          split at hu
          · exact hr _ z u hz hu
          · cases hu
      · cases hy
    | false =>
      simp only [Bool.false_eq_true, if_false] at hy ⊢
      rw [List.getElem?_drop, Nat.add_zero] at hy
      have hlt : f.offset < vs.size := by rw [← hl]; exact (List.getElem?_eq_some_iff.1 hy).1
      refine ⟨vs[f.offset], ?_, hr _ y _ hy (by simp [hlt])⟩
      simp [hlt, Sem.run, pure]
  obtain ⟨u, hrun, hur⟩ := hpart
  refine ⟨u, ?_, hur⟩
  simp only [Instr.field, Sem.run_bind, run_underlying hu, Result.andThen_ok, hf, asAgg, pure_bind]
  exact hrun
/-- The same of an array's element. -/
theorem snd_idxA {t e : TypeId} {n : Nat} {b : Bool} {s : Nat} (hu : P.underlying t = some (.array n e)) (hb : isAggT P e = some b) (hn : sizeT P e = some s) {x y : AV} {v : Value} (hv : VRel κ w x v) {k : IntKind} {m : Int} (h0 : 0 ≤ m) (h1 : m < (n : Int))
    (hy : fldAV (m.toNat * s) b s x = some y) : ∃ u, (Instr.index t v (.int k m)).run P w = .ok u w ∧ VRel κ w y u := by
  obtain ⟨d, hd, hbd⟩ := isAggT_spec hb
  obtain ⟨i, hi, rfl⟩ := sizeT_spec hn
  cases x <;> simp only [fldAV] at hy <;> first | (cases hy; done) | skip
  rename_i cs
  obtain ⟨vs, rfl, hl, hr⟩ := vrel_agg_ne hv
  have hagg : (isAgg e).run P w = .ok b w := by
    unfold isAgg
    simp only [Sem.run_bind, run_underlying hd, Result.andThen_ok]
    subst hbd
    cases d <;> rfl
  have hpart : ∃ u, (part e vs (m.toNat * i.size)).run P w = .ok u w ∧ VRel κ w y u := by
    unfold part
    rw [Sem.run_bind, hagg]
    simp only [Result.andThen_ok]
    unfold loadCells' at hy
    cases b with
    | true =>
      simp only [if_true] at hy ⊢
      split at hy
      · rename_i hle
        cases hy
        simp only [Sem.run_bind, run_size hi, Result.andThen_ok]
        refine ⟨_, rfl, .agg ?_ (fun q z u hz hu => ?_)⟩
        · simp only [List.length_drop, List.length_take, Array.size_extract] at hle ⊢; omega
        · have hq : q < i.size := by have := (List.getElem?_eq_some_iff.1 hz).1; simp at this; omega
          rw [List.getElem?_take, if_pos hq, List.getElem?_drop] at hz
          rw [Array.getElem?_extract] at hu
          split at hu
          · exact hr _ z u hz hu
          · cases hu
      · cases hy
    | false =>
      simp only [Bool.false_eq_true, if_false] at hy ⊢
      rw [List.getElem?_drop, Nat.add_zero] at hy
      have hlt : m.toNat * i.size < vs.size := by rw [← hl]; exact (List.getElem?_eq_some_iff.1 hy).1
      refine ⟨vs[m.toNat * i.size], ?_, hr _ y _ hy (by simp [hlt])⟩
      simp [hlt, Sem.run, pure]
  obtain ⟨u, hrun, hur⟩ := hpart
  refine ⟨u, ?_, hur⟩
  simp only [Instr.index, asIntOf, pure_bind, Sem.run_bind, run_underlying hu, Result.andThen_ok]
  rw [if_pos ⟨h0, h1⟩]
  simp only [Sem.run_bind, run_size hi, Result.andThen_ok]
  exact hrun
theorem fold_run (f : Int → Int → Int) (m2 : Value → Value → Sem Value) (hm : ∀ k x k' y, m2 (.int k x) (.int k' y) = Pure.pure (.int k (f x y))) :
    ∀ (rest : List AV) (vs : List Value) (k : IntKind) (n : Int) (y : AV), rest.length = vs.length → (∀ (i : Nat) (x : AV) (v : Value), rest[i]? = some x → vs[i]? = some v → VRel κ w x v) → foldAV f (.int k n) rest = some y →
      ∃ q, (vs.foldlM m2 (.int k n)).run P w = .ok q w ∧ VRel κ w y q := by
  intro rest
  induction rest with
  | nil =>
    intro vs k n y hl _ hy
    have : vs = [] := List.eq_nil_of_length_eq_zero (by simpa using hl.symm)
    subst this
    simp only [foldAV, Option.some.injEq] at hy; subst hy
    exact ⟨_, rfl, .int _ _⟩
  | cons x rest ih =>
    intro vs k n y hl hr hy
    obtain ⟨v, vs, rfl⟩ : ∃ v vs', vs = v :: vs' := by cases vs with | nil => simp at hl | cons v vs => exact ⟨v, vs, rfl⟩
    have hx := hr 0 x v rfl rfl
    cases x <;> simp only [foldAV] at hy <;> first | (cases hy; done) | skip
    cases hx
    obtain ⟨q, hq, hqr⟩ := ih vs k _ y (by simpa using hl) (fun i x v h1 h2 => hr (i + 1) x v h1 h2) hy
    refine ⟨q, ?_, hqr⟩
    simp only [List.foldlM_cons, hm, pure_bind]
    exact hq
end Go.Am
end
