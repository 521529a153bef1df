/- The compiled code is that of the program.
   Conditions: none. -/
import Derived.Test.YtkbpkbjfphdgeaaPart7
section
set_option linter.unusedVariables false
namespace Go.Hull
open Go Go.Am Go.Proofs
theorem hm : Try.prog.follows .mixedOrders = true := by kernel_rfl
theorem hf6 : compF Try.prog 6 = some cf6 := by kernel_rfl
theorem hf12 : compF Try.prog 12 = some cf12 := by kernel_rfl
theorem hf13 : compF Try.prog 13 = some cf13 := by kernel_rfl
theorem hf15 : compF Try.prog 15 = some cf15 := by kernel_rfl
theorem hf17 : compF Try.prog 17 = some cf17 := by kernel_rfl
theorem hf20 : compF Try.prog 20 = some cf20 := by kernel_rfl
theorem hf23 : compF Try.prog 23 = some cf23 := by kernel_rfl
theorem hf25 : compF Try.prog 25 = some cf25 := by kernel_rfl
theorem hf26 : compF Try.prog 26 = some cf26 := by kernel_rfl
theorem hf27 : compF Try.prog 27 = some cf27 := by kernel_rfl
theorem hf28 : compF Try.prog 28 = some cf28 := by kernel_rfl
theorem hf29 : compF Try.prog 29 = some cf29 := by kernel_rfl
theorem hf30 : compF Try.prog 30 = some cf30 := by kernel_rfl
theorem hf31 : compF Try.prog 31 = some cf31 := by kernel_rfl
theorem hf32 : compF Try.prog 32 = some cf32 := by kernel_rfl
theorem hf33 : compF Try.prog 33 = some cf33 := by kernel_rfl
theorem hf38 : compF Try.prog 38 = some cf38 := by kernel_rfl
theorem hf39 : compF Try.prog 39 = some cf39 := by kernel_rfl
theorem hf44 : compF Try.prog 44 = some cf44 := by kernel_rfl
theorem hf49 : compF Try.prog 49 = some cf49 := by kernel_rfl
theorem hf50 : compF Try.prog 50 = some cf50 := by kernel_rfl
theorem hf51 : compF Try.prog 51 = some cf51 := by kernel_rfl
theorem hf54 : compF Try.prog 54 = some cf54 := by kernel_rfl
theorem hf55 : compF Try.prog 55 = some cf55 := by kernel_rfl
theorem hf56 : compF Try.prog 56 = some cf56 := by kernel_rfl
theorem hf57 : compF Try.prog 57 = some cf57 := by kernel_rfl
theorem hf58 : compF Try.prog 58 = some cf58 := by kernel_rfl
theorem hf59 : compF Try.prog 59 = some cf59 := by kernel_rfl
theorem hf61 : compF Try.prog 61 = some cf61 := by kernel_rfl
theorem hf63 : compF Try.prog 63 = some cf63 := by kernel_rfl
theorem hf64 : compF Try.prog 64 = some cf64 := by kernel_rfl
theorem hf65 : compF Try.prog 65 = some cf65 := by kernel_rfl
theorem hf67 : compF Try.prog 67 = some cf67 := by kernel_rfl
theorem hf71 : compF Try.prog 71 = some cf71 := by kernel_rfl
theorem hf72 : compF Try.prog 72 = some cf72 := by kernel_rfl
theorem hf73 : compF Try.prog 73 = some cf73 := by kernel_rfl
theorem hf74 : compF Try.prog 74 = some cf74 := by kernel_rfl
theorem hf75 : compF Try.prog 75 = some cf75 := by kernel_rfl
theorem hf81 : compF Try.prog 81 = some cf81 := by kernel_rfl
theorem hf82 : compF Try.prog 82 = some cf82 := by kernel_rfl
theorem hf83 : compF Try.prog 83 = some cf83 := by kernel_rfl
theorem hf84 : compF Try.prog 84 = some cf84 := by kernel_rfl
theorem hf85 : compF Try.prog 85 = some cf85 := by kernel_rfl
theorem hf86 : compF Try.prog 86 = some cf86 := by kernel_rfl
theorem hf87 : compF Try.prog 87 = some cf87 := by kernel_rfl
theorem hf91 : compF Try.prog 91 = some cf91 := by kernel_rfl
theorem hf92 : compF Try.prog 92 = some cf92 := by kernel_rfl
theorem hf93 : compF Try.prog 93 = some cf93 := by kernel_rfl
theorem hf94 : compF Try.prog 94 = some cf94 := by kernel_rfl
theorem hf95 : compF Try.prog 95 = some cf95 := by kernel_rfl
theorem hf97 : compF Try.prog 97 = some cf97 := by kernel_rfl
theorem hf102 : compF Try.prog 102 = some cf102 := by kernel_rfl
theorem hf103 : compF Try.prog 103 = some cf103 := by kernel_rfl
theorem hf104 : compF Try.prog 104 = some cf104 := by kernel_rfl
theorem hf105 : compF Try.prog 105 = some cf105 := by kernel_rfl
theorem hf106 : compF Try.prog 106 = some cf106 := by kernel_rfl
theorem hf107 : compF Try.prog 107 = some cf107 := by kernel_rfl
theorem hf108 : compF Try.prog 108 = some cf108 := by kernel_rfl
theorem hf109 : compF Try.prog 109 = some cf109 := by kernel_rfl
theorem hf110 : compF Try.prog 110 = some cf110 := by kernel_rfl
theorem hf114 : compF Try.prog 114 = some cf114 := by kernel_rfl
theorem hf115 : compF Try.prog 115 = some cf115 := by kernel_rfl
theorem hf116 : compF Try.prog 116 = some cf116 := by kernel_rfl
theorem hf117 : compF Try.prog 117 = some cf117 := by kernel_rfl
theorem hf118 : compF Try.prog 118 = some cf118 := by kernel_rfl
theorem hf119 : compF Try.prog 119 = some cf119 := by kernel_rfl
theorem hf120 : compF Try.prog 120 = some cf120 := by kernel_rfl
theorem hf121 : compF Try.prog 121 = some cf121 := by kernel_rfl
theorem hf122 : compF Try.prog 122 = some cf122 := by kernel_rfl
theorem hf123 : compF Try.prog 123 = some cf123 := by kernel_rfl
theorem hf124 : compF Try.prog 124 = some cf124 := by kernel_rfl
theorem hf125 : compF Try.prog 125 = some cf125 := by kernel_rfl
theorem hf126 : compF Try.prog 126 = some cf126 := by kernel_rfl
theorem hf127 : compF Try.prog 127 = some cf127 := by kernel_rfl
theorem hf128 : compF Try.prog 128 = some cf128 := by kernel_rfl
theorem hf129 : compF Try.prog 129 = some cf129 := by kernel_rfl
theorem hf130 : compF Try.prog 130 = some cf130 := by kernel_rfl
theorem hf131 : compF Try.prog 131 = some cf131 := by kernel_rfl
theorem hf132 : compF Try.prog 132 = some cf132 := by kernel_rfl
theorem hf133 : compF Try.prog 133 = some cf133 := by kernel_rfl
theorem hf134 : compF Try.prog 134 = some cf134 := by kernel_rfl
theorem hf135 : compF Try.prog 135 = some cf135 := by kernel_rfl
theorem hf136 : compF Try.prog 136 = some cf136 := by kernel_rfl
def tbl : FT := (.node 97 (.node 61 (.node 44 (.node 20 (.node 15 (.node 13 (.leaf 12 cf12) (.leaf 13 cf13)) (.node 17 (.leaf 15 cf15) (.leaf 17 cf17))) (.node 38 (.node 23 (.leaf 20 cf20) (.leaf 23 cf23)) (.node 39 (.leaf 38 cf38) (.leaf 39 cf39)))) (.node 54 (.node 50 (.node 49 (.leaf 44 cf44) (.leaf 49 cf49)) (.node 51 (.leaf 50 cf50) (.leaf 51 cf51))) (.node 56 (.node 55 (.leaf 54 cf54) (.leaf 55 cf55)) (.node 57 (.leaf 56 cf56) (.leaf 57 cf57))))) (.node 84 (.node 67 (.node 64 (.node 63 (.leaf 61 cf61) (.leaf 63 cf63)) (.node 65 (.leaf 64 cf64) (.leaf 65 cf65))) (.node 82 (.node 81 (.leaf 67 cf67) (.leaf 81 cf81)) (.node 83 (.leaf 82 cf82) (.leaf 83 cf83)))) (.node 92 (.node 86 (.node 85 (.leaf 84 cf84) (.leaf 85 cf85)) (.node 87 (.leaf 86 cf86) (.leaf 87 cf87))) (.node 94 (.node 93 (.leaf 92 cf92) (.leaf 93 cf93)) (.node 95 (.leaf 94 cf94) (.leaf 95 cf95)))))) (.node 120 (.node 109 (.node 105 (.node 103 (.node 102 (.leaf 97 cf97) (.leaf 102 cf102)) (.node 104 (.leaf 103 cf103) (.leaf 104 cf104))) (.node 107 (.node 106 (.leaf 105 cf105) (.leaf 106 cf106)) (.node 108 (.leaf 107 cf107) (.leaf 108 cf108)))) (.node 116 (.node 114 (.node 110 (.leaf 109 cf109) (.leaf 110 cf110)) (.node 115 (.leaf 114 cf114) (.leaf 115 cf115))) (.node 118 (.node 117 (.leaf 116 cf116) (.leaf 117 cf117)) (.node 119 (.leaf 118 cf118) (.leaf 119 cf119))))) (.node 128 (.node 124 (.node 122 (.node 121 (.leaf 120 cf120) (.leaf 121 cf121)) (.node 123 (.leaf 122 cf122) (.leaf 123 cf123))) (.node 126 (.node 125 (.leaf 124 cf124) (.leaf 125 cf125)) (.node 127 (.leaf 126 cf126) (.leaf 127 cf127)))) (.node 132 (.node 130 (.node 129 (.leaf 128 cf128) (.leaf 129 cf129)) (.node 131 (.leaf 130 cf130) (.leaf 131 cf131))) (.node 134 (.node 133 (.leaf 132 cf132) (.leaf 133 cf133)) (.node 135 (.leaf 134 cf134) (.node 136 (.leaf 135 cf135) (.leaf 136 cf136))))))))
def T : Nat → Option CFn := tbl.look
theorem tOk : TOk Try.prog T := FT.tOk tbl (⟨⟨⟨⟨⟨⟨hf12, hf13⟩, ⟨hf15, hf17⟩⟩, ⟨⟨hf20, hf23⟩, ⟨hf38, hf39⟩⟩⟩, ⟨⟨⟨hf44, hf49⟩, ⟨hf50, hf51⟩⟩, ⟨⟨hf54, hf55⟩, ⟨hf56, hf57⟩⟩⟩⟩, ⟨⟨⟨⟨hf61, hf63⟩, ⟨hf64, hf65⟩⟩, ⟨⟨hf67, hf81⟩, ⟨hf82, hf83⟩⟩⟩, ⟨⟨⟨hf84, hf85⟩, ⟨hf86, hf87⟩⟩, ⟨⟨hf92, hf93⟩, ⟨hf94, hf95⟩⟩⟩⟩⟩, ⟨⟨⟨⟨⟨hf97, hf102⟩, ⟨hf103, hf104⟩⟩, ⟨⟨hf105, hf106⟩, ⟨hf107, hf108⟩⟩⟩, ⟨⟨⟨hf109, hf110⟩, ⟨hf114, hf115⟩⟩, ⟨⟨hf116, hf117⟩, ⟨hf118, hf119⟩⟩⟩⟩, ⟨⟨⟨⟨hf120, hf121⟩, ⟨hf122, hf123⟩⟩, ⟨⟨hf124, hf125⟩, ⟨hf126, hf127⟩⟩⟩, ⟨⟨⟨hf128, hf129⟩, ⟨hf130, hf131⟩⟩, ⟨⟨hf132, hf133⟩, ⟨hf134, ⟨hf135, hf136⟩⟩⟩⟩⟩⟩⟩ : FT.Ok Try.prog tbl)
end Go.Hull
end
section
namespace Go.Am
open Go Go.RowKit

def eqB {α : Type} (f : α → α → Bool) : List α → List α → Bool
  | [], [] => true
  | x :: xs, y :: ys => match f x y with
    | true => eqB f xs ys
    | false => false
  | _, _ => false
theorem eqB_spec {α : Type} {f : α → α → Bool} (hf : ∀ x y, f x y = true → x = y) : ∀ (l l' : List α), eqB f l l' = true → l = l' := by
  intro l
  induction l with
  | nil => intro l' h; cases l' with
    | nil => rfl
    | cons => simp [eqB] at h
  | cons x l ih =>
    intro l' h
    cases l' with
    | nil => simp [eqB] at h
    | cons y l' =>
      simp only [eqB] at h
      split at h
      · rename_i h1; rw [hf x y h1, ih l' h]
      · cases h
/-- The same plain values, n deep. -/
def eqN : Nat → AV → AV → Bool
  | 0, _, _ => false
  | n + 1, x, y => match x, y with
    | .int .i64 a, .int .i64 b => decide (a = b)
    | .bool true, .bool true => true
    | .bool false, .bool false => true
    | .agg cs, .agg ds => eqB (eqN n) cs ds
    | .sv false a xs, .sv false b ys => Nat.beq a b && eqB (eqN n) xs ys
    | .clo f cs, .clo g ds => Nat.beq f g && eqB (eqN n) cs ds
    | .rp true cs, .rp true ds => eqB (eqN n) cs ds
    | _, _ => false
theorem eqN_spec : ∀ (n : Nat) (x y : AV), eqN n x y = true → x = y := by
  intro n
  induction n with
  | zero => intro x y h; simp [eqN] at h
  | succ n ih =>
    intro x y h
    simp only [eqN] at h
    split at h <;> first | (cases h; done) | rfl | skip
    · simp only [decide_eq_true_eq] at h; rw [h]
    · rw [eqB_spec ih _ _ h]
    · simp only [Bool.and_eq_true] at h
      rw [Nat.eq_of_beq_eq_true h.1, eqB_spec ih _ _ h.2]
    · simp only [Bool.and_eq_true] at h
      rw [Nat.eq_of_beq_eq_true h.1, eqB_spec ih _ _ h.2]
    · rw [eqB_spec ih _ _ h]
structure Memo where
  f : Nat
  args : List AV
  r : AV
  hl : List Blk
def memoX (cx : XC) : List Memo → XC
  | [], f, args, hl => cx f args hl
  | m :: ms, f, args, hl => match hl with
    | [] => match Nat.beq f m.f && eqB (eqN 5) args m.args with
      | true => some (m.r, m.hl)
      | false => memoX cx ms f args []
    | hl => cx f args hl
def MemoOk (P : Program) (ms : List Memo) : Prop := ∀ m ∈ ms, CallsF P m.f m.args [] m.r m.hl
theorem memoOk_nil {P : Program} : MemoOk P [] := fun m h => by cases h
theorem memoOk_cons {P : Program} {m : Memo} {ms : List Memo} (h : CallsF P m.f m.args [] m.r m.hl) (hs : MemoOk P ms) : MemoOk P (m :: ms) := fun x hx => by
  rcases List.mem_cons.1 hx with rfl | hx
  · exact h
  · exact hs x hx
theorem memoX_ok {P : Program} {cx : XC} (hcx : cx.Ok P) : ∀ (ms : List Memo), MemoOk P ms → (memoX cx ms).Ok P := by
  intro ms
  induction ms with
  | nil => intro _ f args hl r hl' h; exact hcx f args hl r hl' h
  | cons m ms ih =>
    intro hm f args hl r hl' h
    simp only [memoX] at h
    split at h
    · split at h
      · rename_i hb
        simp only [Bool.and_eq_true] at hb
        simp only [Option.some.injEq, Prod.mk.injEq] at h
        obtain ⟨rfl, rfl⟩ := h
        rw [Nat.eq_of_beq_eq_true hb.1, eqB_spec (eqN_spec 5) _ _ hb.2]
        exact hm m (by simp)
      · exact ih (fun m hm' => hm m (by simp [hm'])) f args [] r hl' h
    · exact hcx f args _ r hl' h
/-- Functions, some of whose calls are known. -/
def xFm (nm : FuncId → Bool) (T : FuncId → Option CFn) (ms : List Memo) (n : Nat) : Nat → XC
  | 0 => fun _ _ _ => none
  | d + 1 => fun f args hl => match T f with
    | none => none
    | some F => match Nat.ble args.length F.n with
      | false => none
      | true => match xC (memoX (xFm nm T ms n d) ms) nm T n F.code true ⟨argsAl 0 args, hl⟩ with
        | none => none
        | some (e, s) => match endOk e with
          | true => xFin F.rvs hl.length s
          | false => none
theorem xFm_sound {P : Program} (hm : P.follows .mixedOrders = true) {nm : FuncId → Bool} {T : FuncId → Option CFn} (hT : TOk P T) {ms : List Memo} (hms : MemoOk P ms) {n : Nat} : ∀ d, (xFm nm T ms n d).Ok P := by
  intro d
  induction d with
  | zero => intro f args hl r hl' h; simp [xFm] at h
  | succ d ih =>
    intro f args hl r hl' h
    simp only [xFm] at h
    split at h <;> first | (cases h; done) | skip
    rename_i F hF
    split at h <;> first | (cases h; done) | skip
    rename_i hargs
    split at h <;> first | (cases h; done) | skip
    rename_i e s hrun
    split at h <;> first | (cases h; done) | skip
    rename_i he
    refine callsF_comp hm (hT _ _ hF) (Nat.le_of_ble_eq_true hargs) (xC_sound (memoX_ok ih ms hms) hT _ _ _ _ _ hrun _ _ (xFin_spec h ?_))
    cases e <;> simp [endOk] at he ⊢
end Go.Am
end
section
set_option linter.unusedSimpArgs false
set_option linter.unusedVariables false
namespace Go.Am
open Go Go.RowKit

variable {P : Program} {K : St → List (List Nat × List Nat × Nat) → Prop}

/-- An operation with a guard. -/
def ROg (P : Program) (v : AV) (w : Bool) (op : AOp) (dst : Option Nat) (bef : Nat) (cs : List COp) (al : List (Nat × AV)) (hl : List Blk) (tr : List (List Nat × List Nat × Nat)) (K : St → List (List Nat × List Nat × Nat) → Prop) : Prop :=
  match v with
  | .bool b => if b = w then RO P (⟨op, dst, none, bef⟩ :: cs) al hl tr K else RO P cs (setO al dst (.tup [])) hl (([], [], bef) :: tr) K
  | .tup [] => RO P cs (setO al dst (.tup [])) hl (([], [], bef) :: tr) K
  | _ => False
theorem RO_guard (op : AOp) (dst : Option Nat) (d : Nat) (w : Bool) (bef : Nat) (cs : List COp) (al : List (Nat × AV)) (hl : List Blk) (tr : List (List Nat × List Nat × Nat)) :
    RO P (⟨op, dst, some (d, w), bef⟩ :: cs) al hl tr K = ROg P (get al d) w op dst bef cs al hl tr K := by
  unfold ROg
  simp only [RO_eq]
  simp only [RunOps, wantedAV]
  generalize get al d = v
  cases v <;> try rfl
  · rename_i b
    cases b <;> cases w <;> rfl
  · rename_i vs
    cases vs <;> rfl
theorem ROg_yes {w : Bool} (b : Bool) (op : AOp) (dst : Option Nat) (bef : Nat) (cs : List COp) (al : List (Nat × AV)) (hl : List Blk) (tr : List (List Nat × List Nat × Nat)) :
    ROg P (.bool b) w op dst bef cs al hl tr K = if b = w then RO P (⟨op, dst, none, bef⟩ :: cs) al hl tr K else RO P cs (setO al dst (.tup [])) hl (([], [], bef) :: tr) K := rfl
theorem ROg_no {w : Bool} (op : AOp) (dst : Option Nat) (bef : Nat) (cs : List COp) (al : List (Nat × AV)) (hl : List Blk) (tr : List (List Nat × List Nat × Nat)) :
    ROg P (.tup []) w op dst bef cs al hl tr K = RO P cs (setO al dst (.tup [])) hl (([], [], bef) :: tr) K := rfl
/-- What is kept at a loop's head. -/
structure Fgt (m0 : Nat) (s t : St) : Prop where
  ex : ∃ m, m0 ≤ m ∧ (∀ p ∈ t.al, get s.al p.1 = p.2 ∧ (p.2.lt m || p.2.isY) = true) ∧ t.hl = s.hl.take m ∧ ∀ b ∈ t.hl, b.lt m = true
def keepB (s : List (Nat × AV)) (m : Nat) : List (Nat × AV) → Prop
  | [] => True
  | p :: ps => (get s p.1 = p.2 ∧ (p.2.lt m || p.2.isY) = true) ∧ keepB s m ps
theorem keepB_mem {s : List (Nat × AV)} {m : Nat} : ∀ {l : List (Nat × AV)}, keepB s m l → ∀ p ∈ l, get s p.1 = p.2 ∧ (p.2.lt m || p.2.isY) = true := by
  intro l
  induction l with
  | nil => intro _ p hp; cases hp
  | cons a l ih =>
    intro h p hp
    rcases List.mem_cons.1 hp with rfl | hp
    · exact h.1
    · exact ih h.2 p hp
def ltB (m : Nat) : List Blk → Prop
  | [] => True
  | b :: bs => b.lt m = true ∧ ltB m bs
theorem ltB_mem {m : Nat} : ∀ {l : List Blk}, ltB m l → ∀ b ∈ l, b.lt m = true := by
  intro l
  induction l with
  | nil => intro _ p hp; cases hp
  | cons a l ih =>
    intro h p hp
    rcases List.mem_cons.1 hp with rfl | hp
    · exact h.1
    · exact ih h.2 p hp
theorem Fgt.mk' {m0 : Nat} {sal tal : List (Nat × AV)} {shl thl : List Blk} (m : Nat) (h0 : m0 ≤ m) (h1 : keepB sal m tal) (h2 : thl = shl.take m) (h3 : ltB m thl) : Fgt m0 ⟨sal, shl⟩ ⟨tal, thl⟩ := ⟨m, h0, keepB_mem h1, h2, ltB_mem h3⟩
/-- A loop: each state at its head is one of a family; a measure falls. -/
theorem CW.loopF {ι : Type} {m0 : Nat} {tp : Bool} {c : CCode} {K : Exit → St → Prop} (μ : ι → Nat) (st : ι → St) (Q : ι → Prop)
    (h : ∀ i, Q i → CW P m0 tp c (st i) (thenK K fun s' => ∃ j, μ j < μ i ∧ Q j ∧ Fgt m0 s' (st j))) (i0 : ι) (hq : Q i0) (s : St) (hs : Fgt m0 s (st i0)) : CW P m0 tp (.loop c) s K := by
  refine ⟨fun X hX => ?_⟩
  have hstep : ∀ i, Q i → (∀ j, μ j < μ i → Q j → ∀ s, Fgt m0 s (st j) → X s) → ∀ s, Fgt m0 s (st i) → X s := by
    intro i hq ih s hs
    obtain ⟨m, h0, h1, h2, h3⟩ := hs.ex
    refine hX s (.inl ⟨m, (st i).al, ⟨h0, h1, by rw [← h2]; exact h3⟩, ?_⟩)
    rw [← h2]
    have hn : ∀ s', (∃ j, μ j < μ i ∧ Q j ∧ Fgt m0 s' (st j)) → X s' := by
      intro s' hh
      obtain ⟨j, hj, hqj, hf⟩ := hh
      exact ih j hj hqj s' hf
    have hw := (h i hq).run
    refine CWp.mono c m0 tp (st i) ?_ hw
    intro e s' he
    cases e <;> first | exact hn s' he | exact he
  have key : ∀ n i, μ i < n → Q i → ∀ s, Fgt m0 s (st i) → X s := by
    intro n
    induction n with
    | zero => intro i hi; omega
    | succ n ih => intro i hi hq s hs; exact hstep i hq (fun j hj hqj => ih j (by omega) hqj) s hs
  exact key (μ i0 + 1) i0 (Nat.lt_succ_self _) hq s hs
/-- A call of a function that is told on a heap of its own; own rows may be looked at. -/
theorem RunCall.view {f : Opd} {xs : List Opd} {dst : Option Nat} {bef : Nat} {al : List (Nat × AV)} {hl : List Blk} {tr : List (List Nat × List Nat × Nat)} {next : List (Nat × AV) → List Blk → List (List Nat × List Nat × Nat) → Prop}
    {fid : FuncId} {caps : List AV} (hf : f.ev (get al) = .clo fid caps) {X args : List AV} (hX : xs.map (·.ev (get al)) ++ caps = X) {T0 : List Nat} (hv : viewArgs hl X = some (args, T0)) {r : AV} (hC : CallsF P fid args [] r []) (hr : flatN false 5 r = true)
    (h : next (setO al dst r) hl ((T0, [], bef) :: tr)) : RunCall P f xs dst bef al hl tr next := by
  obtain ⟨f1, f2, f3⟩ := flatN_spec 5 _ hr
  obtain ⟨h1, h2⟩ := viewArgs_spec _ _ _ hv
  refine ⟨fid, caps, T0, r, [], hf, ?_, rfl, h⟩
  have := CallsF.frame true hC (h := hget hl) (T := T0) (names := []) (n := hl.length) ⟨rfl, Nat.le_refl _, List.nodup_nil, fun x hx => (by cases hx), fun i x hx => (by simp at hx), fun b hb1 hb2 => (by simp at hb2; omega), fun b hb => (by cases hb)⟩ (fun x hx => (by cases hx))
    (fun b hb1 hb2 => (by simp at hb2; omega)) h1 (fun i Y y hY hy => h2 i Y y hY hy _ (fun b hb => hb)) (fun _ => ⟨f3 rfl, fun b hb => (by cases hb)⟩)
  rw [ren_id _ f1] at this
  rw [hX]
  exact this
theorem viewG_flat {hl : List Blk} {x : AV} (h : flatN true 5 x = true) (n : Nat) : viewG hl (n + 1) x = some (x, []) := by
  simp only [viewG, h]
theorem viewArgs_flat1 {hl : List Blk} {x : AV} (h : flatN true 5 x = true) : viewArgs hl [x] = some ([x], []) := by
  simp only [viewArgs, viewG_flat h, List.append_nil]
theorem viewArgs_flat2 {hl : List Blk} {x y : AV} (h : flatN true 5 x = true) (h' : flatN true 5 y = true) : viewArgs hl [x, y] = some ([x, y], []) := by
  simp only [viewArgs, viewG_flat h, viewG_flat h', List.append_nil]
end Go.Am
end
section
set_option linter.unusedSimpArgs false
set_option linter.unusedVariables false
namespace Go.Am
open Go Go.RowKit

/-- What a value is handed over as, the row b being handed over as row 0. -/
inductive ArgB (hl : List Blk) (b : Nat) : List Nat → AV → AV → Prop where
  | row (g i n : Nat) : ArgB hl b [] (.sl b g i n) (.sl 0 g i n)
  | flat {x : AV} (h : flatN true 5 x = true) : ArgB hl b [] x x
  | view {x y : AV} {T0 : List Nat} (h : viewG hl 6 x = some (y, T0)) (hT : natIn b T0 = false) : ArgB hl b T0 x y
theorem ArgB.view' {hl : List Blk} {b : Nat} {T0 : List Nat} {x y : AV} (h : ArgB hl b T0 x y) {T : List Nat} (hT : ∀ b' ∈ T0, b' ∈ T) : ArgView true (hget hl) T [b] x y := by
  cases h with
  | row g i n =>
    have := ArgView.same (vw := true) (h := hget hl) (T := T) (names := [b]) (n := 0) (x := .sl 0 g i n) (by simp [AV.lt])
    simpa [AV.ren, sigma] using this
  | flat h => exact .plain (flatN_spec 5 _ h).1
  | view h hb => exact (viewG_sound 6 _ _ _ h T [b] hT (fun b' hb' hmem => by
      rw [List.mem_singleton.1 hmem] at hb'
      rw [natIn_iff.2 hb'] at hb; cases hb)).1
inductive ArgsB (hl : List Blk) (b : Nat) : List Nat → List AV → List AV → Prop where
  | nil : ArgsB hl b [] [] []
  | cons {T T' : List Nat} {x y : AV} {xs ys : List AV} (h : ArgB hl b T x y) (hs : ArgsB hl b T' xs ys) : ArgsB hl b (T ++ T') (x :: xs) (y :: ys)
theorem ArgsB.spec {hl : List Blk} {b : Nat} {T0 : List Nat} {X args : List AV} (h : ArgsB hl b T0 X args) : X.length = args.length ∧ ∀ (i : Nat) (Y y : AV), X[i]? = some Y → args[i]? = some y → ∀ {T : List Nat}, (∀ b' ∈ T0, b' ∈ T) → ArgView true (hget hl) T [b] Y y := by
  induction h with
  | nil => exact ⟨rfl, fun i Y y h => by simp at h⟩
  | cons h hs ih =>
    refine ⟨by simp [ih.1], fun i Y y hY hy T hT => ?_⟩
    cases i with
    | zero =>
      simp only [List.getElem?_cons_zero, Option.some.injEq] at hY hy
      subst hY hy
      exact h.view' fun b' hb' => hT b' (by simp [hb'])
    | succ i => exact ih.2 i Y y (by simpa using hY) (by simpa using hy) fun b' hb' => hT b' (by simp [hb'])
theorem ltB_zero {b : Blk} (h : b.lt 0 = true) (σ : Nat → Nat) : b.ren σ = b := by
  cases b with
  | dead => rfl
  | row nil g frz sz xs => simp only [Blk.ren]; rw [renL_id xs h]
theorem blt_mono {m m' : Nat} (hm : m ≤ m') {b : Blk} (h : b.lt m = true) : b.lt m' = true := by
  cases b with
  | dead => rfl
  | row nil g frz sz xs => exact ltL_mono hm xs h
/-- A call that may change one row of the caller's. -/
theorem RunCall.one {P : Program} {f : Opd} {xs : List Opd} {dst : Option Nat} {bef : Nat} {al : List (Nat × AV)} {hl : List Blk} {tr : List (List Nat × List Nat × Nat)} {next : List (Nat × AV) → List Blk → List (List Nat × List Nat × Nat) → Prop}
    {fid : FuncId} {caps : List AV} (hf : f.ev (get al) = .clo fid caps) {X args : List AV} (hX : xs.map (·.ev (get al)) ++ caps = X) {b : Nat} {T0 : List Nat} (hv : ArgsB hl b T0 X args) {blk blk' : Blk} {r : AV} (hC : CallsF P fid args [blk] r [blk']) (hb : b < hl.length) (hblk : hget hl b = blk) (hl0 : blk.lt 0 = true)
    (hr : flatN false 5 r = true) (hl1 : blk'.lt 0 = true) (hcl : blk'.clean = true) (h : next (setO al dst r) (hsetL hl [(b, blk')]) ((b :: T0, [b], bef) :: tr)) : RunCall P f xs dst bef al hl tr next := by
  obtain ⟨f1, f2, f3⟩ := flatN_spec 5 _ hr
  obtain ⟨h1, h2⟩ := hv.spec
  refine ⟨fid, caps, b :: T0, r, [(b, blk')], hf, ?_, ?_, h⟩
  · have := CallsF.frame true hC (h := hget hl) (T := b :: T0) (names := [b]) (n := hl.length) ⟨rfl, Nat.le_refl _, by simp, fun x hx => (by rw [List.mem_singleton.1 hx]; exact hb), fun i x hx => (by
        cases i with
        | zero => simp only [List.getElem?_cons_zero, Option.some.injEq] at hx; subst hx; rw [hblk]; exact (ltB_zero hl0 _).symm
        | succ i => simp at hx), fun b hb1 hb2 => (by simp at hb2; omega), fun b' hb' => (by rw [List.mem_singleton.1 hb']; exact blt_mono (Nat.zero_le _) hl0)⟩ (fun x hx => (by rw [List.mem_singleton.1 hx]; simp))
      (fun b hb1 hb2 => (by simp at hb2; omega)) h1 (fun i Y y hY hy => h2 i Y y hY hy (fun b' hb' => List.mem_cons_of_mem _ hb')) (fun _ => ⟨f3 rfl, fun b' hb' => (by rw [List.mem_singleton.1 hb']; exact hcl)⟩)
    rw [ren_id _ f1] at this
    simp only [frW, ltB_zero hl1] at this
    rw [hX]
    simpa [sigma] using this
  · simp [okW]; omega
/-- A closure over a variable in memory. -/
theorem viewG_clo {hl : List Blk} {b g sz : Nat} {nil frz : Bool} {f : FuncId} {y : AV} (hb : hget hl b = .row nil g frz sz [y]) (hy : flatN true 5 y = true) (hone : y.cells = [y]) : viewG hl 6 (.clo f [.ptr b g 0 0]) = some (.clo f [.rp true [y]], [b]) := by
  have h1 : viewG hl 4 y = some (y, []) := by simp only [viewG, hy]
  have h2 : viewG hl 5 (.ptr b g 0 0) = some (.rp true [y], [b]) := by
    unfold viewG
    simp only [flatN, AV.lt, Nat.not_lt_zero, decide_false, Bool.false_eq_true, if_false, hb, if_true, List.getElem?_cons_zero, hone, List.drop_zero, optL, h1, List.map_cons, List.map_nil, catT, List.append_nil]
  unfold viewG
  simp only [flatN, allB, AV.lt, ltL, Nat.not_lt_zero, decide_false, Bool.false_eq_true, Bool.false_and, if_false, optL, h2, List.map_cons, List.map_nil, catT, List.append_nil]
end Go.Am
end
section
set_option linter.unusedSimpArgs false
set_option linter.unusedVariables false
namespace Go.Am
open Go Go.RowKit

def consO (l : List (Nat × AV)) (d : Option Nat) (v : AV) : List (Nat × AV) := match d with
  | some d => (d, v) :: l
  | none => l
theorem get_consO {al l : List (Nat × AV)} (h : get al = get l) (d : Option Nat) (v : AV) : get (setO al d v) = get (consO l d v) := by
  cases d with
  | none => exact h
  | some d =>
    rw [get_setO]
    funext t
    simp only [updO, consO, get, upd]
    by_cases ht : d = t
    · subst ht; simp
    · rw [if_neg ht, if_neg (Ne.symm ht), h]
abbrev KX := List (Nat × AV) → List Blk → Tr → Prop
structure ROx (P : Program) (ops : List COp) (l : List (Nat × AV)) (hl : List Blk) (tr : Tr) (K : KX) : Prop where
  run : ∀ al, get al = get l → RO P ops al hl tr fun s tr' => ∃ l', get s.al = get l' ∧ K l' s.hl tr'
structure CWx (P : Program) (m0 : Nat) (tp : Bool) (c : CCode) (l : List (Nat × AV)) (hl : List Blk) (K : Exit → St → Prop) : Prop where
  run : ∀ al, get al = get l → CW P m0 tp c ⟨al, hl⟩ K
theorem aopA_congr {op : AOp} {al l : List (Nat × AV)} {hl : List Blk} (h : get al = get l) : aopA op al hl = aopA op l hl := by unfold aopA; rw [h]
theorem refA_congr {op : AOp} {al l : List (Nat × AV)} (h : get al = get l) : refA op al = refA op l := by rw [← touchA_eq, ← touchA_eq]; unfold touchA; rw [h]
def afterx (P : Program) (cs : List COp) (op : AOp) (dst : Option Nat) (bef : Nat) (l : List (Nat × AV)) (hl : List Blk) (tr : Tr) (K : KX) : Option Res → Prop
  | none => False
  | some r => ROx P cs (consO l dst r.v) (hsetL hl r.ups) ((refA op l ++ r.ups.map Prod.fst, r.ups.map Prod.fst, bef) :: tr) K
section
variable {P : Program} {K : KX}

theorem X_nil (l : List (Nat × AV)) (hl : List Blk) (tr : Tr) (h : K l hl tr.reverse) : ROx P [] l hl tr K := ⟨fun al hal => by rw [RunOps_nil]; exact ⟨l, hal, h⟩⟩
theorem X_op (op : AOp) (hc : isCall op = false) (dst : Option Nat) (bef : Nat) (cs : List COp) (l : List (Nat × AV)) (hl : List Blk) (tr : Tr) (h : afterx P cs op dst bef l hl tr K (aopA op l hl)) : ROx P (⟨op, dst, none, bef⟩ :: cs) l hl tr K := by
  refine ⟨fun al hal => ?_⟩
  rw [RunOps_op dst bef cs al hl tr op hc, aopA_congr hal]
  cases hr : aopA op l hl with
  | none => rw [hr] at h; exact h
  | some r =>
    rw [hr] at h
    simp only [after, refA_congr hal]
    exact h.run _ (get_consO hal dst r.v)
/-- Guards. -/
def ROgx (P : Program) (v : AV) (w : Bool) (op : AOp) (dst : Option Nat) (bef : Nat) (cs : List COp) (l : List (Nat × AV)) (hl : List Blk) (tr : Tr) (K : KX) : Prop :=
  match v with
  | .bool b => if b = w then ROx P (⟨op, dst, none, bef⟩ :: cs) l hl tr K else ROx P cs (consO l dst (.tup [])) hl (([], [], bef) :: tr) K
  | .tup [] => ROx P cs (consO l dst (.tup [])) hl (([], [], bef) :: tr) K
  | _ => False
theorem X_guard (op : AOp) (dst : Option Nat) (d : Nat) (w : Bool) (bef : Nat) (cs : List COp) (l : List (Nat × AV)) (hl : List Blk) (tr : Tr) (h : ROgx P (get l d) w op dst bef cs l hl tr K) : ROx P (⟨op, dst, some (d, w), bef⟩ :: cs) l hl tr K := by
  refine ⟨fun al hal => ?_⟩
  rw [RO_guard, hal]
  unfold ROgx at h
  unfold ROg
  split at h <;> first | exact h.elim | skip
  · rename_i b hb
    try rw [hb]
    try simp only
    split at h
    · rename_i hbw; rw [if_pos hbw]; exact h.run al hal
    · rename_i hbw; rw [if_neg hbw]; exact h.run _ (get_consO hal dst _)
  · rename_i hb
    try rw [hb]
    exact h.run _ (get_consO hal dst _)
/-- A call. -/
structure RCx (P : Program) (f : Opd) (xs : List Opd) (dst : Option Nat) (bef : Nat) (l : List (Nat × AV)) (hl : List Blk) (tr : Tr) (next : List (Nat × AV) → List Blk → Tr → Prop) : Prop where
  run : ∃ (fid : FuncId) (caps : List AV) (T : List Nat) (r : AV) (W : List (Nat × Blk)), f.ev (get l) = .clo fid caps ∧ CallsL P fid (xs.map (·.ev (get l)) ++ caps) (hget hl) T r W ∧
    (okW hl.length W && W.all (fun p => T.contains p.1)) = true ∧ next (consO l dst r) (hsetL hl W) ((T, W.map Prod.fst, bef) :: tr)
theorem X_call (f : Opd) (xs : List Opd) (dst : Option Nat) (bef : Nat) (cs : List COp) (l : List (Nat × AV)) (hl : List Blk) (tr : Tr) (h : RCx P f xs dst bef l hl tr fun l hl tr => ROx P cs l hl tr K) : ROx P (⟨.call f xs, dst, none, bef⟩ :: cs) l hl tr K := by
  refine ⟨fun al hal => ?_⟩
  rw [RunOps_call]
  obtain ⟨fid, caps, T, r, W, h1, h2, h3, h4⟩ := h.run
  exact ⟨fid, caps, T, r, W, by rw [hal]; exact h1, by rw [hal]; exact h2, h3, h4.run _ (get_consO hal dst r)⟩
theorem RCx.view {f : Opd} {xs : List Opd} {dst : Option Nat} {bef : Nat} {l : List (Nat × AV)} {hl : List Blk} {tr : Tr} {next : List (Nat × AV) → List Blk → Tr → Prop}
    {fid : FuncId} {caps : List AV} (hf : evA l f = .clo fid caps) {X args : List AV} (hX : evsA l xs ++ caps = X) {T0 : List Nat} (hv : viewArgs hl X = some (args, T0)) {r : AV} (hC : CallsF P fid args [] r []) (hr : flatN false 5 r = true)
    (h : next (consO l dst r) hl ((T0, [], bef) :: tr)) : RCx P f xs dst bef l hl tr next := by
  obtain ⟨f1, f2, f3⟩ := flatN_spec 5 _ hr
  obtain ⟨h1, h2⟩ := viewArgs_spec _ _ _ hv
  refine ⟨fid, caps, T0, r, [], by rw [evA_eq]; exact hf, ?_, rfl, h⟩
  have := CallsF.frame true hC (h := hget hl) (T := T0) (names := []) (n := hl.length) ⟨rfl, Nat.le_refl _, List.nodup_nil, fun x hx => (by cases hx), fun i x hx => (by simp at hx), fun b hb1 hb2 => (by simp at hb2; omega), fun b hb => (by cases hb)⟩ (fun x hx => (by cases hx))
    (fun b hb1 hb2 => (by simp at hb2; omega)) h1 (fun i Y y hY hy => h2 i Y y hY hy _ (fun b hb => hb)) (fun _ => ⟨f3 rfl, fun b hb => (by cases hb)⟩)
  rw [ren_id _ f1] at this
  rw [evsA_eq, hX]
  exact this
theorem RCx.one {f : Opd} {xs : List Opd} {dst : Option Nat} {bef : Nat} {l : List (Nat × AV)} {hl : List Blk} {tr : Tr} {next : List (Nat × AV) → List Blk → Tr → Prop}
    {fid : FuncId} {caps : List AV} (hf : evA l f = .clo fid caps) {X args : List AV} (hX : evsA l xs ++ caps = X) {b : Nat} {T0 : List Nat} (hv : ArgsB hl b T0 X args) {blk blk' : Blk} {r : AV} (hC : CallsF P fid args [blk] r [blk']) (hb : b < hl.length) (hblk : hget hl b = blk) (hl0 : blk.lt 0 = true)
    (hr : flatN false 5 r = true) (hl1 : blk'.lt 0 = true) (hcl : blk'.clean = true) (h : next (consO l dst r) (hsetL hl [(b, blk')]) ((b :: T0, [b], bef) :: tr)) : RCx P f xs dst bef l hl tr next := by
  obtain ⟨f1, f2, f3⟩ := flatN_spec 5 _ hr
  obtain ⟨h1, h2⟩ := hv.spec
  refine ⟨fid, caps, b :: T0, r, [(b, blk')], by rw [evA_eq]; exact hf, ?_, ?_, h⟩
  · have := CallsF.frame true hC (h := hget hl) (T := b :: T0) (names := [b]) (n := hl.length) ⟨rfl, Nat.le_refl _, by simp, fun x hx => (by rw [List.mem_singleton.1 hx]; exact hb), fun i x hx => (by
        cases i with
        | zero => simp only [List.getElem?_cons_zero, Option.some.injEq] at hx; subst hx; rw [hblk]; exact (ltB_zero hl0 _).symm
        | succ i => simp at hx), fun b hb1 hb2 => (by simp at hb2; omega), fun b' hb' => (by rw [List.mem_singleton.1 hb']; exact blt_mono (Nat.zero_le _) hl0)⟩ (fun x hx => (by rw [List.mem_singleton.1 hx]; simp))
      (fun b hb1 hb2 => (by simp at hb2; omega)) h1 (fun i Y y hY hy => h2 i Y y hY hy (fun b' hb' => List.mem_cons_of_mem _ hb')) (fun _ => ⟨f3 rfl, fun b' hb' => (by rw [List.mem_singleton.1 hb']; exact hcl)⟩)
    rw [ren_id _ f1] at this
    simp only [frW, ltB_zero hl1] at this
    rw [evsA_eq, hX]
    simpa [sigma] using this
  · simp [okW]; omega
end

section
variable {P : Program} {m0 : Nat} {tp : Bool} {K : Exit → St → Prop}

theorem CWx.rI {draw : Bool} {ops : List COp} {y : CCode} {l : List (Nat × AV)} {hl : List Blk} (h : ∀ K' : KX, (∀ l hl tr, (draw = true → blkOk 0 tr = true) → CWx P m0 tp y l hl K → K' l hl tr) → ROx P ops l hl [] K') : CWx P m0 tp (.seq (.region draw ops) y) l hl K := by
  refine ⟨fun al hal => CW.rI fun K' hK' => ?_⟩
  have := (h (fun l hl tr => (draw = true → blkOk 0 tr = true) ∧ CWx P m0 tp y l hl K) (fun l hl tr h1 h2 => ⟨h1, h2⟩)).run al hal
  rw [RO_eq] at this ⊢
  exact RunOps.mono _ _ _ _ (fun s tr ⟨l', e, h1, h2⟩ => hK' s tr h1 (h2.run s.al e)) this
theorem CWx.rE {draw : Bool} {ops : List COp} {l : List (Nat × AV)} {hl : List Blk} (h : ∀ K' : KX, (∀ l hl tr, (draw = true → blkOk 0 tr = true) → (∀ al, get al = get l → K .normal ⟨al, hl⟩) → K' l hl tr) → ROx P ops l hl [] K') : CWx P m0 tp (.region draw ops) l hl K := by
  refine ⟨fun al hal => CW.rE fun K' hK' => ?_⟩
  have := (h (fun l hl tr => (draw = true → blkOk 0 tr = true) ∧ ∀ al, get al = get l → K .normal ⟨al, hl⟩) (fun l hl tr h1 h2 => ⟨h1, h2⟩)).run al hal
  rw [RO_eq] at this ⊢
  exact RunOps.mono _ _ _ _ (fun s tr ⟨l', e, h1, h2⟩ => hK' s tr h1 (h2 s.al e)) this
theorem CWx.seq {x y : CCode} {l : List (Nat × AV)} {hl : List Blk} (h : CWx P m0 tp x l hl (thenK K fun s' => CW P m0 tp y s' K)) : CWx P m0 tp (.seq x y) l hl K := ⟨fun al hal => CW.seq (h.run al hal)⟩
theorem CWx.block {id : Nat} {c : CCode} {l : List (Nat × AV)} {hl : List Blk} (h : CWx P m0 tp c l hl (blockK id K)) : CWx P m0 tp (.block id c) l hl K := ⟨fun al hal => CW.block (h.run al hal)⟩
theorem CWx.condT {c : Opd} {x y : CCode} {l : List (Nat × AV)} {hl : List Blk} (hc : evA l c = .bool true) (h : CWx P m0 tp x l hl K) : CWx P m0 tp (.cond c x y) l hl K := ⟨fun al hal => CW.condT (by rw [← evA_eq, hal, evA_eq]; exact hc) (h.run al hal)⟩
theorem CWx.condF {c : Opd} {x y : CCode} {l : List (Nat × AV)} {hl : List Blk} (hc : evA l c = .bool false) (h : CWx P m0 tp y l hl K) : CWx P m0 tp (.cond c x y) l hl K := ⟨fun al hal => CW.condF (by rw [← evA_eq, hal, evA_eq]; exact hc) (h.run al hal)⟩
theorem CWx.skip {l : List (Nat × AV)} {hl : List Blk} (h : ∀ al, get al = get l → K .normal ⟨al, hl⟩) : CWx P m0 tp .skip l hl K := ⟨fun al hal => CW.skip (h al hal)⟩
theorem CWx.exit {id : Nat} {l : List (Nat × AV)} {hl : List Blk} (h : ∀ al, get al = get l → K (.exit id) ⟨al, hl⟩) : CWx P m0 tp (.exit id) l hl K := ⟨fun al hal => CW.exit (h al hal)⟩
theorem CWx.ret {l : List (Nat × AV)} {hl : List Blk} (h : ∀ al, get al = get l → K .ret ⟨al, hl⟩) : CWx P m0 tp .ret l hl K := ⟨fun al hal => CW.ret (h al hal)⟩
/-- On behind a piece. -/
theorem CWx.go {y : CCode} {l : List (Nat × AV)} {hl : List Blk} (h : CWx P m0 tp y l hl K) : ∀ al, get al = get l → CW P m0 tp y ⟨al, hl⟩ K := fun al hal => h.run al hal
theorem CW.ofx {y : CCode} {l : List (Nat × AV)} {hl : List Blk} (h : CWx P m0 tp y l hl K) : CW P m0 tp y ⟨l, hl⟩ K := h.run l rfl
theorem Fgt.ofx {al l : List (Nat × AV)} {hl : List Blk} {t : St} (hal : get al = get l) (h : Fgt m0 ⟨l, hl⟩ t) : Fgt m0 ⟨al, hl⟩ t := by
  obtain ⟨m, h0, h1, h2, h3⟩ := h.ex
  exact ⟨m, h0, fun p hp => by simp only [hal]; exact h1 p hp, h2, h3⟩
theorem finK_ext {rvs : List RV} {n : Nat} {r : AV} {hl' : List Blk} {e : Exit} {al l : List (Nat × AV)} {hl : List Blk} (hal : get al = get l) (h : finK rvs n r hl' e ⟨l, hl⟩) : finK rvs n r hl' e ⟨al, hl⟩ := by
  have hres : ∀ rvs : List RV, resRV al hl rvs = resRV l hl rvs := by
    intro rvs
    induction rvs with
    | nil => rfl
    | cons x xs ih => cases x <;> simp only [resRV, ih, hal]
  obtain ⟨h1, xs, sg, h2, h3⟩ := h
  exact ⟨h1, xs, sg, (hres rvs).trans h2, h3⟩
theorem CWx.loopF {ι : Type} {c : CCode} (μ : ι → Nat) (st : ι → St) (Q : ι → Prop)
    (h : ∀ i, Q i → CWx P m0 tp c (st i).al (st i).hl (thenK K fun s' => ∃ j, μ j < μ i ∧ Q j ∧ Fgt m0 s' (st j))) (i0 : ι) (hq : Q i0) {l : List (Nat × AV)} {hl : List Blk} (hs : Fgt m0 ⟨l, hl⟩ (st i0)) : CWx P m0 tp (.loop c) l hl K :=
  ⟨fun al hal => CW.loopF μ st Q (fun i hi => (h i hi).run (st i).al rfl) i0 hq _ (Fgt.ofx hal hs)⟩
theorem callsF_cwx (hm : P.follows .mixedOrders = true) {f : FuncId} {F : CFn} (hF : compF P f = some F) {args : List AV} {hl : List Blk} {r : AV} {hl' : List Blk} (hargs : args.length ≤ F.n) (h : CWx P hl.length true F.code (argsAl 0 args) hl (finK F.rvs hl.length r hl')) : CallsF P f args hl r hl' := callsF_cw hm hF hargs (h.run _ rfl)
end

end Go.Am
end
section
set_option linter.unusedSimpArgs false
set_option linter.unusedVariables false
namespace Go.Am
open Go Go.RowKit

def RunX (P : Program) : List COp → List (Nat × AV) → List Blk → Tr → KX → Prop
  | [], l, hl, tr, K => K l hl tr.reverse
  | c :: cs, l, hl, tr, K => match wantedA l c.guard with
    | none => False
    | some false => RunX P cs (consO l c.dst (.tup [])) hl (([], [], c.bef) :: tr) K
    | some true => match c.op with
      | .call f xs => RCx P f xs c.dst c.bef l hl tr fun l hl tr => RunX P cs l hl tr K
      | op => match aopA op l hl with
        | none => False
        | some r => RunX P cs (consO l c.dst r.v) (hsetL hl r.ups) ((refA op l ++ r.ups.map Prod.fst, r.ups.map Prod.fst, c.bef) :: tr) K
structure RX (P : Program) (ops : List COp) (l : List (Nat × AV)) (hl : List Blk) (tr : Tr) (K : KX) : Prop where
  run : RunX P ops l hl tr K
theorem RX_eq (P : Program) (ops : List COp) (l : List (Nat × AV)) (hl : List Blk) (tr : Tr) (K : KX) : RX P ops l hl tr K = RunX P ops l hl tr K := propext ⟨fun h => h.run, fun h => ⟨h⟩⟩
variable {P : Program} {K : KX}

theorem RunX.sound : ∀ (cs : List COp) (l : List (Nat × AV)) (hl : List Blk) (tr : Tr), RunX P cs l hl tr K → ROx P cs l hl tr K := by
  intro cs
  induction cs with
  | nil => intro l hl tr h; exact X_nil l hl tr h
  | cons c cs ih =>
    intro l hl tr h
    obtain ⟨op, dst, guard, bef⟩ := c
    have plain : RunX P (⟨op, dst, none, bef⟩ :: cs) l hl tr K → ROx P (⟨op, dst, none, bef⟩ :: cs) l hl tr K := by
      intro h
      cases hc : isCall op with
      | true =>
        obtain ⟨f, xs, rfl⟩ : ∃ f xs, op = .call f xs := by cases op <;> first | (cases hc; done) | exact ⟨_, _, rfl⟩
        simp only [RunX, wantedA] at h
        obtain ⟨fid, caps, T, r, W, h1, h2, h3, h4⟩ := h.run
        exact X_call f xs dst bef cs l hl tr ⟨fid, caps, T, r, W, h1, h2, h3, ih _ _ _ h4⟩
      | false =>
        refine X_op op hc dst bef cs l hl tr ?_
        have h' : (match aopA op l hl with
          | none => False
          | some r => RunX P cs (consO l dst r.v) (hsetL hl r.ups) ((refA op l ++ r.ups.map Prod.fst, r.ups.map Prod.fst, bef) :: tr) K) := by
          cases op <;> first | (cases hc; done) | exact h
        cases hr : aopA op l hl with
        | none => rw [hr] at h'; exact h'.elim
        | some r => rw [hr] at h'; exact ih _ _ _ h'
    cases guard with
    | none => exact plain h
    | some q =>
      obtain ⟨d, w⟩ := q
      refine X_guard op dst d w bef cs l hl tr ?_
      unfold ROgx
      simp only [RunX, wantedA] at h
      generalize hg : get l d = v at h
      cases v <;> first | exact h.elim | skip
      · rename_i b
        simp only
        cases b <;> cases w <;> first
          | (rw [if_pos rfl]; exact plain h)
          | (rw [if_neg (by decide)]; exact ih _ _ _ h)
      · rename_i vs
        cases vs with
        | nil => exact ih _ _ _ h
        | cons => exact h.elim
def afterX (P : Program) (cs : List COp) (op : AOp) (dst : Option Nat) (bef : Nat) (l : List (Nat × AV)) (hl : List Blk) (tr : Tr) (K : KX) : Option Res → Prop
  | none => False
  | some r => RX P cs (consO l dst r.v) (hsetL hl r.ups) ((refA op l ++ r.ups.map Prod.fst, r.ups.map Prod.fst, bef) :: tr) K
theorem afterX_some (cs : List COp) (op : AOp) (dst : Option Nat) (bef : Nat) (l : List (Nat × AV)) (hl : List Blk) (tr : Tr) (v : AV) (W : List (Nat × Blk)) :
    afterX P cs op dst bef l hl tr K (some ⟨v, W⟩) = RX P cs (consO l dst v) (hsetL hl W) ((refA op l ++ W.map Prod.fst, W.map Prod.fst, bef) :: tr) K := rfl
theorem X_end (l : List (Nat × AV)) (hl : List Blk) (tr : Tr) : RX P [] l hl tr K = K l hl tr.reverse := by rw [RX_eq]; rfl
theorem X_cl (f : Opd) (xs : List Opd) (dst : Option Nat) (bef : Nat) (cs : List COp) (l : List (Nat × AV)) (hl : List Blk) (tr : Tr) :
    RX P (⟨.call f xs, dst, none, bef⟩ :: cs) l hl tr K = RCx P f xs dst bef l hl tr fun l hl tr => RX P cs l hl tr K := by simp only [RX_eq]; rfl
def gX (P : Program) (v : AV) (w : Bool) (op : AOp) (dst : Option Nat) (bef : Nat) (cs : List COp) (l : List (Nat × AV)) (hl : List Blk) (tr : Tr) (K : KX) : Prop :=
  match v with
  | .bool b => if b = w then RX P (⟨op, dst, none, bef⟩ :: cs) l hl tr K else RX P cs (consO l dst (.tup [])) hl (([], [], bef) :: tr) K
  | .tup [] => RX P cs (consO l dst (.tup [])) hl (([], [], bef) :: tr) K
  | _ => False
theorem X_g (op : AOp) (dst : Option Nat) (d : Nat) (w : Bool) (bef : Nat) (cs : List COp) (l : List (Nat × AV)) (hl : List Blk) (tr : Tr) :
    RX P (⟨op, dst, some (d, w), bef⟩ :: cs) l hl tr K = gX P (get l d) w op dst bef cs l hl tr K := by
  unfold gX
  simp only [RX_eq, RunX, wantedA]
  generalize get l d = v
  cases v <;> try rfl
  · rename_i b
    cases b <;> cases w <;> rfl
  · rename_i vs
    cases vs <;> rfl
theorem gX_tt (op : AOp) (dst : Option Nat) (bef : Nat) (cs : List COp) (l : List (Nat × AV)) (hl : List Blk) (tr : Tr) : gX P (.bool true) true op dst bef cs l hl tr K = RX P (⟨op, dst, none, bef⟩ :: cs) l hl tr K := rfl
theorem gX_ff (op : AOp) (dst : Option Nat) (bef : Nat) (cs : List COp) (l : List (Nat × AV)) (hl : List Blk) (tr : Tr) : gX P (.bool false) false op dst bef cs l hl tr K = RX P (⟨op, dst, none, bef⟩ :: cs) l hl tr K := rfl
theorem gX_tf (op : AOp) (dst : Option Nat) (bef : Nat) (cs : List COp) (l : List (Nat × AV)) (hl : List Blk) (tr : Tr) : gX P (.bool true) false op dst bef cs l hl tr K = RX P cs (consO l dst (.tup [])) hl (([], [], bef) :: tr) K := rfl
theorem gX_ft (op : AOp) (dst : Option Nat) (bef : Nat) (cs : List COp) (l : List (Nat × AV)) (hl : List Blk) (tr : Tr) : gX P (.bool false) true op dst bef cs l hl tr K = RX P cs (consO l dst (.tup [])) hl (([], [], bef) :: tr) K := rfl
theorem gX_no {w : Bool} (op : AOp) (dst : Option Nat) (bef : Nat) (cs : List COp) (l : List (Nat × AV)) (hl : List Blk) (tr : Tr) :
    gX P (.tup []) w op dst bef cs l hl tr K = RX P cs (consO l dst (.tup [])) hl (([], [], bef) :: tr) K := rfl
variable (dst : Option Nat) (bef : Nat) (cs : List COp) (l : List (Nat × AV)) (hl : List Blk) (tr : Tr)
theorem X_one (op : AOp) (h : isCall op = false) : RX P (⟨op, dst, none, bef⟩ :: cs) l hl tr K = afterX P cs op dst bef l hl tr K (aopA op l hl) := by
  cases op <;> first | (cases h; done) | skip
  all_goals
    rw [RX_eq]
    simp only [RunX, wantedA]
    unfold afterX
    simp only [RX_eq]
    try rfl
theorem X_mv (x : Opd) : RX P (⟨.mv x, dst, none, bef⟩ :: cs) l hl tr K = afterX P cs (.mv x) dst bef l hl tr K (aopA (.mv x) l hl) := X_one dst bef cs l hl tr _ rfl
theorem X_smv (x : Opd) : RX P (⟨.smv x, dst, none, bef⟩ :: cs) l hl tr K = afterX P cs (.smv x) dst bef l hl tr K (aopA (.smv x) l hl) := X_one dst bef cs l hl tr _ rfl
theorem X_newnil (sz : Nat) : RX P (⟨.newnil sz, dst, none, bef⟩ :: cs) l hl tr K = afterX P cs (.newnil sz) dst bef l hl tr K (aopA (.newnil sz) l hl) := X_one dst bef cs l hl tr _ rfl
theorem X_pick (c : Opd) (a : Opd) (b : Opd) : RX P (⟨.pick c a b, dst, none, bef⟩ :: cs) l hl tr K = afterX P cs (.pick c a b) dst bef l hl tr K (aopA (.pick c a b) l hl) := X_one dst bef cs l hl tr _ rfl
theorem X_alloc (z : AV) : RX P (⟨.alloc z, dst, none, bef⟩ :: cs) l hl tr K = afterX P cs (.alloc z) dst bef l hl tr K (aopA (.alloc z) l hl) := X_one dst bef cs l hl tr _ rfl
theorem X_box (x : Opd) : RX P (⟨.box x, dst, none, bef⟩ :: cs) l hl tr K = afterX P cs (.box x) dst bef l hl tr K (aopA (.box x) l hl) := X_one dst bef cs l hl tr _ rfl
theorem X_build (z : List AV) (ps : List (Nat × Nat × Opd)) : RX P (⟨.build z ps, dst, none, bef⟩ :: cs) l hl tr K = afterX P cs (.build z ps) dst bef l hl tr K (aopA (.build z ps) l hl) := X_one dst bef cs l hl tr _ rfl
theorem X_bsl (sz : Nat) (xs : List Opd) : RX P (⟨.bsl sz xs, dst, none, bef⟩ :: cs) l hl tr K = afterX P cs (.bsl sz xs) dst bef l hl tr K (aopA (.bsl sz xs) l hl) := X_one dst bef cs l hl tr _ rfl
theorem X_load (agg : Bool) (sz : Nat) (x : Opd) : RX P (⟨.load agg sz x, dst, none, bef⟩ :: cs) l hl tr K = afterX P cs (.load agg sz x) dst bef l hl tr K (aopA (.load agg sz x) l hl) := X_one dst bef cs l hl tr _ rfl
theorem X_store (sz : Nat) (x : Opd) (v : Opd) : RX P (⟨.store sz x v, dst, none, bef⟩ :: cs) l hl tr K = afterX P cs (.store sz x v) dst bef l hl tr K (aopA (.store sz x v) l hl) := X_one dst bef cs l hl tr _ rfl
theorem X_nchk (x : Opd) : RX P (⟨.nchk x, dst, none, bef⟩ :: cs) l hl tr K = afterX P cs (.nchk x) dst bef l hl tr K (aopA (.nchk x) l hl) := X_one dst bef cs l hl tr _ rfl
theorem X_bin (o : BinOp) (x : Opd) (y : Opd) : RX P (⟨.bin o x y, dst, none, bef⟩ :: cs) l hl tr K = afterX P cs (.bin o x y) dst bef l hl tr K (aopA (.bin o x y) l hl) := X_one dst bef cs l hl tr _ rfl
theorem X_eqv (neg : Bool) (agg : Bool) (ks : List SK) (x : Opd) (y : Opd) : RX P (⟨.eqv neg agg ks x y, dst, none, bef⟩ :: cs) l hl tr K = afterX P cs (.eqv neg agg ks x y) dst bef l hl tr K (aopA (.eqv neg agg ks x y) l hl) := X_one dst bef cs l hl tr _ rfl
theorem X_neg (x : Opd) : RX P (⟨.neg x, dst, none, bef⟩ :: cs) l hl tr K = afterX P cs (.neg x) dst bef l hl tr K (aopA (.neg x) l hl) := X_one dst bef cs l hl tr _ rfl
theorem X_not (x : Opd) : RX P (⟨.not x, dst, none, bef⟩ :: cs) l hl tr K = afterX P cs (.not x) dst bef l hl tr K (aopA (.not x) l hl) := X_one dst bef cs l hl tr _ rfl
theorem X_conv (k : IntKind) (x : Opd) : RX P (⟨.conv k x, dst, none, bef⟩ :: cs) l hl tr K = afterX P cs (.conv k x) dst bef l hl tr K (aopA (.conv k x) l hl) := X_one dst bef cs l hl tr _ rfl
theorem X_ext (x : Opd) (i : Nat) : RX P (⟨.ext x i, dst, none, bef⟩ :: cs) l hl tr K = afterX P cs (.ext x i) dst bef l hl tr K (aopA (.ext x i) l hl) := X_one dst bef cs l hl tr _ rfl
theorem X_faddr (x : Opd) (off : Nat) : RX P (⟨.faddr x off, dst, none, bef⟩ :: cs) l hl tr K = afterX P cs (.faddr x off) dst bef l hl tr K (aopA (.faddr x off) l hl) := X_one dst bef cs l hl tr _ rfl
theorem X_fld (x : Opd) (off : Nat) (agg : Bool) (sz : Nat) : RX P (⟨.fld x off agg sz, dst, none, bef⟩ :: cs) l hl tr K = afterX P cs (.fld x off agg sz) dst bef l hl tr K (aopA (.fld x off agg sz) l hl) := X_one dst bef cs l hl tr _ rfl
theorem X_iaddr (sz : Nat) (x : Opd) (i : Opd) : RX P (⟨.iaddr sz x i, dst, none, bef⟩ :: cs) l hl tr K = afterX P cs (.iaddr sz x i) dst bef l hl tr K (aopA (.iaddr sz x i) l hl) := X_one dst bef cs l hl tr _ rfl
theorem X_iaddrA (n : Nat) (sz : Nat) (x : Opd) (i : Opd) : RX P (⟨.iaddrA n sz x i, dst, none, bef⟩ :: cs) l hl tr K = afterX P cs (.iaddrA n sz x i) dst bef l hl tr K (aopA (.iaddrA n sz x i) l hl) := X_one dst bef cs l hl tr _ rfl
theorem X_idxA (n : Nat) (sz : Nat) (agg : Bool) (x : Opd) (i : Opd) : RX P (⟨.idxA n sz agg x i, dst, none, bef⟩ :: cs) l hl tr K = afterX P cs (.idxA n sz agg x i) dst bef l hl tr K (aopA (.idxA n sz agg x i) l hl) := X_one dst bef cs l hl tr _ rfl
theorem X_slc (sz : Nat) (x : Opd) (lo : Option Opd) (hi : Option Opd) : RX P (⟨.slc sz x lo hi, dst, none, bef⟩ :: cs) l hl tr K = afterX P cs (.slc sz x lo hi) dst bef l hl tr K (aopA (.slc sz x lo hi) l hl) := X_one dst bef cs l hl tr _ rfl
theorem X_mks (sz : Nat) (b : Nat) (z : AV) (n : Opd) : RX P (⟨.mks sz b z n, dst, none, bef⟩ :: cs) l hl tr K = afterX P cs (.mks sz b z n) dst bef l hl tr K (aopA (.mks sz b z n) l hl) := X_one dst bef cs l hl tr _ rfl
theorem X_mkf (f : FuncId) (caps : List Opd) : RX P (⟨.mkf f caps, dst, none, bef⟩ :: cs) l hl tr K = afterX P cs (.mkf f caps) dst bef l hl tr K (aopA (.mkf f caps) l hl) := X_one dst bef cs l hl tr _ rfl
theorem X_len (x : Opd) : RX P (⟨.len x, dst, none, bef⟩ :: cs) l hl tr K = afterX P cs (.len x) dst bef l hl tr K (aopA (.len x) l hl) := X_one dst bef cs l hl tr _ rfl
theorem X_lenS (x : Opd) : RX P (⟨.lenS x, dst, none, bef⟩ :: cs) l hl tr K = afterX P cs (.lenS x) dst bef l hl tr K (aopA (.lenS x) l hl) := X_one dst bef cs l hl tr _ rfl
theorem X_lenC (n : Nat) : RX P (⟨.lenC n, dst, none, bef⟩ :: cs) l hl tr K = afterX P cs (.lenC n) dst bef l hl tr K (aopA (.lenC n) l hl) := X_one dst bef cs l hl tr _ rfl
theorem X_append (sz : Nat) (b : Nat) (x : Opd) (y : Opd) : RX P (⟨.append sz b x y, dst, none, bef⟩ :: cs) l hl tr K = afterX P cs (.append sz b x y) dst bef l hl tr K (aopA (.append sz b x y) l hl) := X_one dst bef cs l hl tr _ rfl
theorem X_idxS (x i : Opd) : RX P (⟨.idxS x i, dst, none, bef⟩ :: cs) l hl tr K = afterX P cs (.idxS x i) dst bef l hl tr K (aopA (.idxS x i) l hl) := X_one dst bef cs l hl tr _ rfl
theorem X_slcM (sz : Nat) (x hi mx : Opd) : RX P (⟨.slcM sz x hi mx, dst, none, bef⟩ :: cs) l hl tr K = afterX P cs (.slcM sz x hi mx) dst bef l hl tr K (aopA (.slcM sz x hi mx) l hl) := X_one dst bef cs l hl tr _ rfl
theorem X_clear (sz : Nat) (z : AV) (x : Opd) : RX P (⟨.clear sz z x, dst, none, bef⟩ :: cs) l hl tr K = afterX P cs (.clear sz z x) dst bef l hl tr K (aopA (.clear sz z x) l hl) := X_one dst bef cs l hl tr _ rfl
theorem X_mx (xs : List Opd) : RX P (⟨.mx xs, dst, none, bef⟩ :: cs) l hl tr K = afterX P cs (.mx xs) dst bef l hl tr K (aopA (.mx xs) l hl) := X_one dst bef cs l hl tr _ rfl
theorem X_mn (xs : List Opd) : RX P (⟨.mn xs, dst, none, bef⟩ :: cs) l hl tr K = afterX P cs (.mn xs) dst bef l hl tr K (aopA (.mn xs) l hl) := X_one dst bef cs l hl tr _ rfl
section
variable {P : Program} {m0 : Nat} {tp : Bool} {K : Exit → St → Prop}
theorem CWx.r {draw : Bool} {ops : List COp} {y : CCode} {l : List (Nat × AV)} {hl : List Blk} (h : ∀ K' : KX, (∀ l hl tr, (draw = true → blkOk 0 tr = true) → CWx P m0 tp y l hl K → K' l hl tr) → RX P ops l hl [] K') : CWx P m0 tp (.seq (.region draw ops) y) l hl K :=
  CWx.rI fun K' hK' => RunX.sound _ _ _ _ (h K' hK').run
theorem CWx.e {draw : Bool} {ops : List COp} {l : List (Nat × AV)} {hl : List Blk} (h : ∀ K' : KX, (∀ l hl tr, (draw = true → blkOk 0 tr = true) → (∀ al, get al = get l → K .normal ⟨al, hl⟩) → K' l hl tr) → RX P ops l hl [] K') : CWx P m0 tp (.region draw ops) l hl K :=
  CWx.rE fun K' hK' => RunX.sound _ _ _ _ (h K' hK').run
end
end Go.Am
end
section
set_option linter.defProp false
namespace Go.Am
open Go

def amC := And.intro @aopA_mv (And.intro @aopA_smv (And.intro @aopA_newnil (And.intro @aopA_pick (And.intro @aopA_alloc (And.intro @aopA_box (And.intro @aopA_build (And.intro @aopA_bsl (And.intro @aopA_load (And.intro @aopA_store (And.intro @aopA_nchk (And.intro @aopA_bin (And.intro @aopA_eqv (And.intro @aopA_neg (And.intro @aopA_not (And.intro @aopA_conv (And.intro @aopA_ext (And.intro @aopA_faddr (And.intro @aopA_fld (And.intro @aopA_iaddr (And.intro @aopA_iaddrA (And.intro @aopA_idxA (And.intro @aopA_slc (And.intro @aopA_mks (And.intro @aopA_mkf (And.intro @aopA_len (And.intro @aopA_lenS (And.intro @aopA_lenC (And.intro @aopA_append (And.intro @aopA_mx (And.intro @aopA_mn (And.intro @evA_t (And.intro @evA_c (And.intro @List.length_cons.{0} (And.intro @List.length_nil.{0} (And.intro @List.nil_append.{0} (And.intro @List.cons_append.{0} (And.intro @List.append_nil.{0} (And.intro @List.reverse_cons.{0} (And.intro @List.reverse_nil.{0} (And.intro @List.getElem?_cons_zero.{0} (And.intro @List.getElem?_cons_succ.{0} (And.intro @List.getElem?_nil.{0} (And.intro @Nat.zero_add (And.intro @Nat.add_zero (And.intro @Bool.and_true (And.intro @Nat.lt_irrefl (And.intro @and_self (And.intro @Nat.le_refl (And.intro @true_and (And.intro @and_true (And.intro @Nat.zero_le (And.intro @Nat.lt_add_one (And.intro @aopA_idxS (And.intro @aopA_slcM (And.intro @aopA_clear (And.intro @ge_iff_le.{0} (And.intro @gt_iff_lt.{0} (And.intro @decide_true (And.intro @decide_false (And.intro @Bool.not_true (And.intro @Bool.not_false (And.intro @Bool.true_eq_false (@Bool.false_eq_true)))))))))))))))))))))))))))))))))))))))))))))))))))))))))))))))
def amR := And.intro @RunOps_nil (And.intro @R_mv (And.intro @R_smv (And.intro @R_newnil (And.intro @R_pick (And.intro @R_alloc (And.intro @R_box (And.intro @R_build (And.intro @R_bsl (And.intro @R_load (And.intro @R_store (And.intro @R_nchk (And.intro @R_bin (And.intro @R_eqv (And.intro @R_neg (And.intro @R_not (And.intro @R_conv (And.intro @R_ext (And.intro @R_faddr (And.intro @R_fld (And.intro @R_iaddr (And.intro @R_iaddrA (And.intro @R_idxA (And.intro @R_slc (And.intro @R_mks (And.intro @R_mkf (And.intro @R_len (And.intro @R_lenS (And.intro @R_lenC (And.intro @R_append (And.intro @R_mx (And.intro @R_mn (And.intro @after_some (And.intro @RO_guard (And.intro @ROg_yes (And.intro @ROg_no (And.intro @R_idxS (And.intro @R_slcM (And.intro @R_clear (@RunOps_call)))))))))))))))))))))))))))))))))))))))
def amX := And.intro @X_end (And.intro @X_mv (And.intro @X_smv (And.intro @X_newnil (And.intro @X_pick (And.intro @X_alloc (And.intro @X_box (And.intro @X_build (And.intro @X_bsl (And.intro @X_load (And.intro @X_store (And.intro @X_nchk (And.intro @X_bin (And.intro @X_eqv (And.intro @X_neg (And.intro @X_not (And.intro @X_conv (And.intro @X_ext (And.intro @X_faddr (And.intro @X_fld (And.intro @X_iaddr (And.intro @X_iaddrA (And.intro @X_idxA (And.intro @X_slc (And.intro @X_mks (And.intro @X_mkf (And.intro @X_len (And.intro @X_lenS (And.intro @X_lenC (And.intro @X_append (And.intro @X_mx (And.intro @X_mn (And.intro @afterX_some (And.intro @X_g (And.intro @gX_tt (And.intro @gX_ff (And.intro @gX_tf (And.intro @gX_ft (And.intro @gX_no (And.intro @X_idxS (And.intro @X_slcM (And.intro @X_clear (@X_cl))))))))))))))))))))))))))))))))))))))))))
end Go.Am
end
section
set_option linter.unusedSimpArgs false
set_option linter.unusedVariables false
namespace Go.Am
open Go Go.RowKit

section
variable {P : Program} {m0 : Nat} {tp : Bool} {K : Exit → St → Prop}

theorem CWx.br {c : Opd} {x y : CCode} {l : List (Nat × AV)} {hl : List Blk} {b : Bool} (hc : evA l c = .bool b) (h1 : b = true → CWx P m0 tp x l hl K) (h2 : b = false → CWx P m0 tp y l hl K) : CWx P m0 tp (.cond c x y) l hl K := by
  cases b with
  | true => exact CWx.condT hc (h1 rfl)
  | false => exact CWx.condF hc (h2 rfl)
theorem gX_split {K : KX} {b w : Bool} {op : AOp} {dst : Option Nat} {bef : Nat} {cs : List COp} {l : List (Nat × AV)} {hl : List Blk} {tr : Tr}
    (h1 : b = true → gX P (.bool true) w op dst bef cs l hl tr K) (h2 : b = false → gX P (.bool false) w op dst bef cs l hl tr K) : gX P (.bool b) w op dst bef cs l hl tr K := by
  cases b with
  | true => exact h1 rfl
  | false => exact h2 rfl
/-- Slots that are kept as they are. -/
def keepA (l : List (Nat × AV)) : List Nat → List (Nat × AV)
  | [] => []
  | k :: ks => (k, get l k) :: keepA l ks
/-- A loop; L: the slots at its head; H: the rows. -/
theorem CWx.loopK {ι : Type} {c : CCode} {l : List (Nat × AV)} {hl : List Blk} (ks : List Nat) (μ : ι → Nat) (f : ι → List (Nat × AV)) (g : ι → List Blk) (Q : ι → Prop) {L : ι → List (Nat × AV)} (hL : ∀ i, f i ++ keepA l ks = L i)
    (i0 : ι) (hq : Q i0) (hs : Fgt m0 ⟨l, hl⟩ ⟨L i0, g i0⟩)
    (h : ∀ i, Q i → CWx P m0 tp c (L i) (g i) (thenK K fun s' => ∃ j, μ j < μ i ∧ Q j ∧ Fgt m0 s' ⟨L j, g j⟩)) : CWx P m0 tp (.loop c) l hl K :=
  CWx.loopF μ (fun i => ⟨L i, g i⟩) Q h i0 hq hs
theorem viewArgs_nil {hl : List Blk} : viewArgs hl [] = some ([], []) := rfl
theorem viewArgs_cons {hl : List Blk} {x y : AV} {xs ys : List AV} {T T' : List Nat} (h1 : viewG hl 6 x = some (y, T)) (h2 : viewArgs hl xs = some (ys, T')) : viewArgs hl (x :: xs) = some (y :: ys, T ++ T') := by
  simp only [viewArgs, h1, h2]
end

theorem wr62 (n : Int) (h : -4611686018427387904 ≤ n ∧ n ≤ 4611686018427387904) : IntKind.i64.wrap n = n := IntWalk.i64_in _ (by omega)
theorem natAdd1 (i : Nat) : (i : Int) + 1 = ((i + 1 : Nat) : Int) := rfl
theorem natAddN (i j : Nat) : (i : Int) + (j : Int) = ((i + j : Nat) : Int) := rfl
theorem natSub1 (i : Nat) (h : 1 ≤ i) : (i : Int) - 1 = ((i - 1 : Nat) : Int) := by omega
theorem natSubN (i j : Nat) (h : j ≤ i) : (i : Int) - (j : Int) = ((i - j : Nat) : Int) := by omega
theorem tmodN (a n : Nat) : Int.tmod (a : Int) (n : Int) = ((a % n : Nat) : Int) := (Int.ofNat_tmod a n).symm
theorem tdivN (a n : Nat) : Int.tdiv (a : Int) (n : Int) = ((a / n : Nat) : Int) := (Int.ofNat_tdiv a n).symm
theorem toNat_cast (n : Nat) : ((n : Int)).toNat = n := Int.toNat_natCast n
theorem appB (n : Nat) : (n ≤ appBound) = (n ≤ 70368744177664) := rfl
end Go.Am
end
section
set_option linter.unusedVariables false
set_option linter.defProp false
namespace Go.Am
open Go

section
variable (k : IntKind) (n m : Int) (b c : Bool) (s : ByteArray) (cs xs : List AV) (q w g i j o sz rsz f : Nat) (v : Bool) (h : Nat → Blk) (hl : List Blk)
theorem cells_agg : (AV.agg cs).cells = cs := rfl
theorem cells_tup : (AV.tup cs).cells = [.tup cs] := rfl
theorem cells_int : (AV.int k n).cells = [.int k n] := rfl
theorem cells_bool : (AV.bool b).cells = [.bool b] := rfl
theorem cells_str : (AV.str s).cells = [.str s] := rfl
theorem cells_nilp : (AV.nilp).cells = [.nilp] := rfl
theorem cells_nilf : (AV.nilf).cells = [.nilf] := rfl
theorem cells_nili : (AV.nili).cells = [.nili] := rfl
theorem cells_nils : (AV.nils).cells = [.nils] := rfl
theorem cells_sv : (AV.sv v sz xs).cells = [.sv v sz xs] := rfl
theorem cells_sl : (AV.sl q g i j).cells = [.sl q g i j] := rfl
theorem cells_ptr : (AV.ptr q g i j).cells = [.ptr q g i j] := rfl
theorem cells_rp : (AV.rp v xs).cells = [.rp v xs] := rfl
theorem cells_clo : (AV.clo f xs).cells = [.clo f xs] := rfl
theorem one_int : (AV.int k n).one = true := rfl
theorem one_bool : (AV.bool b).one = true := rfl
theorem one_str : (AV.str s).one = true := rfl
theorem one_nilp : (AV.nilp).one = true := rfl
theorem one_nilf : (AV.nilf).one = true := rfl
theorem one_nili : (AV.nili).one = true := rfl
theorem one_nils : (AV.nils).one = true := rfl
theorem one_sv : (AV.sv v sz xs).one = true := rfl
theorem one_sl : (AV.sl q g i j).one = true := rfl
theorem one_ptr : (AV.ptr q g i j).one = true := rfl
theorem one_rp : (AV.rp v xs).one = true := rfl
theorem one_clo : (AV.clo f xs).one = true := rfl
theorem elem_agg : (AV.agg cs).elem = cs.all AV.one := rfl
theorem elem_int : (AV.int k n).elem = true := rfl
theorem elem_bool : (AV.bool b).elem = true := rfl
theorem elem_str : (AV.str s).elem = true := rfl
theorem elem_nilp : (AV.nilp).elem = true := rfl
theorem elem_nilf : (AV.nilf).elem = true := rfl
theorem elem_nili : (AV.nili).elem = true := rfl
theorem elem_nils : (AV.nils).elem = true := rfl
theorem elem_sv : (AV.sv v sz xs).elem = true := rfl
theorem elem_sl : (AV.sl q g i j).elem = true := rfl
theorem elem_ptr : (AV.ptr q g i j).elem = true := rfl
theorem elem_rp : (AV.rp v xs).elem = true := rfl
theorem elem_clo : (AV.clo f xs).elem = true := rfl
theorem lenAV_sl : lenAV (.sl q g i j) = some (.int .i64 j) := rfl
theorem lenAV_sv : lenAV (.sv v sz xs) = some (.int .i64 xs.length) := rfl
theorem lenAV_nils : lenAV .nils = some (.int .i64 0) := rfl
theorem ia_sl : iaddrAV h sz n (.sl q g i j) = (match rowAt? h q g with
    | some (_, rsz, _) => if rsz = sz ∧ 0 ≤ n ∧ n < (j : Int) then some (.ptr q g (i + n.toNat) 0) else none
    | none => none) := rfl
theorem ia_sv : iaddrAV h sz n (.sv v rsz xs) = if rsz = sz ∧ 0 ≤ n ∧ n < (xs.length : Int) then (xs[n.toNat]?).map fun e => .rp v e.cells else none := rfl
theorem ld_ptr : loadAV h b sz (.ptr q g i o) = (match rowAt? h q g with
    | some (_, _, xs) => match xs[i]? with
      | some e => loadCells' b sz (e.cells.drop o)
      | none => none
    | none => none) := rfl
theorem ld_rp : loadAV h b sz (.rp v cs) = loadCells' b sz cs := rfl
theorem st_ptr (x : AV) : storeAV h sz x (.ptr q g i o) = (match rowAt? h q g with
    | some (false, rsz, xs) => match xs[i]? with
      | some e => if x.elem = true ∧ x.cells.length = sz ∧ o + sz ≤ rsz then some (q, .row false g false rsz (xs.set i (e.putCells o x.cells))) else none
      | none => none
    | _ => none) := rfl
theorem fa_ptr : faddrAV w (.ptr q g i o) = some (.ptr q g i (o + w)) := rfl
theorem fa_rp : faddrAV w (.rp v cs) = some (.rp v (cs.drop w)) := rfl
theorem put_agg : (AV.agg cs).putCells o xs = .agg (cs.take o ++ xs ++ cs.drop (o + xs.length)) := rfl
theorem put_int (x : AV) : (AV.int k n).putCells o [x] = x := rfl
theorem put_bool (x : AV) : (AV.bool b).putCells o [x] = x := rfl
theorem put_str (x : AV) : (AV.str s).putCells o [x] = x := rfl
theorem put_nilp (x : AV) : (AV.nilp).putCells o [x] = x := rfl
theorem put_nilf (x : AV) : (AV.nilf).putCells o [x] = x := rfl
theorem put_nils (x : AV) : (AV.nils).putCells o [x] = x := rfl
theorem put_sl (x : AV) : (AV.sl q g i j).putCells o [x] = x := rfl
theorem put_sv (x : AV) : (AV.sv v sz xs).putCells o [x] = x := rfl
theorem put_ptr (x : AV) : (AV.ptr q g i j).putCells o [x] = x := rfl
theorem put_rp (x : AV) : (AV.rp v xs).putCells o [x] = x := rfl
theorem put_clo (x : AV) : (AV.clo f xs).putCells o [x] = x := rfl
theorem slc_sl (l u : Option Int) : slcA hl sz l u (.sl q g i j) = (match hget hl q with
    | .row _ g' _ rsz _ => if g' = g ∧ rsz = sz then (slcAV l u (.sl q g i j)).map fun v => { v := v } else none
    | .dead => none) := rfl
theorem slc_sv (l u : Option Int) : slcA hl sz l u (.sv v rsz xs) = if rsz = sz then (slcAV l u (.sv v rsz xs)).map fun v => { v := v } else none := rfl
theorem slcAV_sl (l u : Option Int) : slcAV l u (.sl q g i j) = let l := l.getD 0; let u := u.getD j; if 0 ≤ l ∧ l ≤ u ∧ u ≤ (j : Int) then some (.sl q g (i + l.toNat) (u - l).toNat) else none := rfl
theorem slcAV_sv (l u : Option Int) : slcAV l u (.sv v sz xs) = let l := l.getD 0; let u := u.getD xs.length; if 0 ≤ l ∧ l ≤ u ∧ u ≤ (xs.length : Int) then some (.sv false sz ((xs.drop l.toNat).take (u - l).toNat)) else none := rfl
theorem ext_tup : extAV i (.tup cs) = cs[i]? := rfl
theorem fld_agg : fldAV o b sz (.agg cs) = loadCells' b sz (cs.drop o) := rfl
theorem int_int : intAV (.int k n) = some n := rfl
theorem pick_bool : pickAV v (.bool b) (.bool c) = .bool (if v then b else c) := rfl
theorem pick_int (k' : IntKind) : pickAV v (.int k n) (.int k' m) = if v then .int k n else .int k' m := rfl
theorem pick_tupb : pickAV false (.tup cs) (.bool b) = .bool b := rfl
theorem pick_btup : pickAV true (.bool b) (.tup cs) = .bool b := rfl
theorem bin_add : binAV .add (.int k n) (.int k m) = some (.int k (k.wrap (n + m))) := by simp [binAV]
theorem bin_sub : binAV .sub (.int k n) (.int k m) = some (.int k (k.wrap (n - m))) := by simp [binAV]
theorem bin_mul : binAV .mul (.int k n) (.int k m) = some (.int k (k.wrap (n * m))) := by simp [binAV]
theorem bin_quo : binAV .quo (.int k n) (.int k m) = if m = 0 then none else some (.int k (k.wrap (n.tdiv m))) := by simp [binAV]
theorem bin_rem : binAV .rem (.int k n) (.int k m) = if m = 0 then none else some (.int k (n.tmod m)) := by simp [binAV]
theorem bin_eql : binAV .eql (.int k n) (.int k m) = some (.bool (n == m)) := by simp [binAV]
theorem bin_neq : binAV .neq (.int k n) (.int k m) = some (.bool (n != m)) := by simp [binAV]
theorem bin_lss : binAV .lss (.int k n) (.int k m) = some (.bool (decide (n < m))) := by simp [binAV]
theorem bin_leq : binAV .leq (.int k n) (.int k m) = some (.bool (decide (n ≤ m))) := by simp [binAV]
theorem bin_gtr : binAV .gtr (.int k n) (.int k m) = some (.bool (decide (m < n))) := by simp [binAV]
theorem bin_geq : binAV .geq (.int k n) (.int k m) = some (.bool (decide (m ≤ n))) := by simp [binAV]
theorem ref_agg : (AV.agg cs).ref = [] := rfl
theorem ref_sv : (AV.sv v sz xs).ref = [] := rfl
theorem ref_rp : (AV.rp v xs).ref = [] := rfl
theorem ref_sl : (AV.sl q g i j).ref = [q] := rfl
theorem ref_ptr : (AV.ptr q g i j).ref = [q] := rfl
theorem ref_nils : (AV.nils).ref = [] := rfl
theorem eqc_i (a b : Int) : eqCell .i (.int k a) (.int k b) = some (a == b) := by simp [eqCell]
theorem eqc_b (a b : Bool) : eqCell .b (.bool a) (.bool b) = some (a == b) := rfl
theorem eqc_s (a b : ByteArray) : eqCell .s (.str a) (.str b) = some (a.toList == b.toList) := rfl
theorem cont_sl : contAV h sz (.sl q g i j) = (match h q with
    | .row _ g' _ rsz xs => if g' = g ∧ rsz = sz ∧ i + j ≤ xs.length then some ((xs.drop i).take j) else none
    | .dead => none) := rfl
theorem cont_sv : contAV h sz (.sv v rsz xs) = if rsz = sz then some xs else none := rfl
end

def eqvA (neg agg : Bool) (ks : List SK) (x y : AV) : Option Res := match agg, x, y with
    | true, .agg xs, .agg ys => (eqCells ks xs ys).map fun b => { v := .bool (if neg then !b else b) }
    | false, .bool a, .bool b => if ks = [.b] then some { v := .bool (if neg then !(a == b) else a == b) } else none
    | _, _, _ => none
theorem aopA_eqv' (neg agg : Bool) (ks : List SK) (x y : Opd) (al : List (Nat × AV)) (hl : List Blk) : aopA (.eqv neg agg ks x y) al hl = eqvA neg agg ks (evA al x) (evA al y) := aopA_eqv al hl neg agg ks x y
theorem eqvA_agg (neg : Bool) (ks : List SK) (xs ys : List AV) : eqvA neg true ks (.agg xs) (.agg ys) = (eqCells ks xs ys).map fun b => { v := .bool (if neg then !b else b) } := rfl
theorem eqvA_bool (neg a b : Bool) : eqvA neg false [.b] (.bool a) (.bool b) = some { v := .bool (if neg then !(a == b) else a == b) } := rfl
/-- What an append is given. -/
theorem appendAV_sl (h : Nat → Blk) (fr sz bs q g n : Nat) (ys : List AV) : appendAV h fr sz bs (.sl q g 0 n) ys = if ys.all AV.elem = true then (match h q with
      | .row nil g' frz rsz xs =>
        if g' = g ∧ rsz = sz ∧ n ≤ xs.length ∧ (frz = false ∨ n = xs.length) ∧ (n + ys.length) * bs ≤ appBound then
          some { v := .sl q (g + 1) 0 (n + ys.length), ups := [(q, .row (nil && ys.isEmpty) (g + 1) frz sz (xs.take n ++ ys))] }
        else none
      | .dead => none) else none := rfl
theorem appendAV_nils (h : Nat → Blk) (fr sz bs : Nat) (ys : List AV) : appendAV h fr sz bs .nils ys = if ys.all AV.elem = true then (if ys.length * bs ≤ appBound then some { v := .sl fr 0 0 ys.length, ups := [(fr, .row ys.isEmpty 0 false sz ys)] } else none) else none := rfl
theorem appendAV_sv (h : Nat → Blk) (fr sz bs rsz : Nat) (xs ys : List AV) : appendAV h fr sz bs (.sv true rsz xs) ys = if ys.all AV.elem = true then (if rsz = sz ∧ ys.isEmpty = false ∧ (xs.length + ys.length) * bs ≤ appBound then some { v := .sl fr 0 0 (xs.length + ys.length), ups := [(fr, .row false 0 false sz (xs ++ ys))] } else none) else none := rfl
end Go.Am
end
section
set_option linter.defProp false
namespace Go.Am
open Go

def dr0 := And.intro @aopA_mv (And.intro @aopA_smv (And.intro @aopA_newnil (And.intro @aopA_pick (And.intro @aopA_alloc (And.intro @aopA_box (And.intro @aopA_build (And.intro @aopA_bsl (And.intro @aopA_load (And.intro @aopA_store (And.intro @aopA_nchk (And.intro @aopA_bin (And.intro @aopA_neg (And.intro @aopA_not (And.intro @aopA_conv (And.intro @aopA_ext (And.intro @aopA_faddr (And.intro @aopA_fld (And.intro @aopA_iaddr (And.intro @aopA_iaddrA (And.intro @aopA_idxA (And.intro @aopA_slc (And.intro @aopA_mks (And.intro @aopA_mkf (And.intro @aopA_len (And.intro @aopA_lenS (And.intro @aopA_lenC (And.intro @aopA_append (And.intro @aopA_mx (And.intro @aopA_mn (And.intro @evA_t (And.intro @evA_c (And.intro @List.length_cons.{0} (And.intro @List.length_nil.{0} (And.intro @List.nil_append.{0} (And.intro @List.cons_append.{0} (And.intro @List.append_nil.{0} (And.intro @List.reverse_cons.{0} (And.intro @List.reverse_nil.{0} (And.intro @List.getElem?_cons_zero.{0} (And.intro @List.getElem?_cons_succ.{0} (And.intro @List.getElem?_nil.{0} (And.intro @Nat.zero_add (And.intro @Nat.add_zero (And.intro @Bool.and_true (And.intro @Nat.lt_irrefl (And.intro @and_self (And.intro @Nat.le_refl (And.intro @true_and (And.intro @and_true (And.intro @Nat.zero_le (And.intro @Nat.lt_add_one (And.intro @aopA_idxS (And.intro @aopA_slcM (And.intro @aopA_clear (And.intro @ge_iff_le.{0} (And.intro @gt_iff_lt.{0} (And.intro @decide_true (And.intro @decide_false (And.intro @Bool.not_true (And.intro @Bool.not_false (And.intro @Bool.true_eq_false (And.intro @Bool.false_eq_true (And.intro @X_end (And.intro @X_mv (And.intro @X_smv (And.intro @X_newnil (And.intro @X_pick (And.intro @X_alloc (@X_box)))))))))))))))))))))))))))))))))))))))))))))))))))))))))))))))))))))
def dr1 := And.intro @X_build (And.intro @X_bsl (And.intro @X_load (And.intro @X_store (And.intro @X_nchk (And.intro @X_bin (And.intro @X_eqv (And.intro @X_neg (And.intro @X_not (And.intro @X_conv (And.intro @X_ext (And.intro @X_faddr (And.intro @X_fld (And.intro @X_iaddr (And.intro @X_iaddrA (And.intro @X_idxA (And.intro @X_slc (And.intro @X_mks (And.intro @X_mkf (And.intro @X_len (And.intro @X_lenS (And.intro @X_lenC (And.intro @X_append (And.intro @X_mx (And.intro @X_mn (And.intro @afterX_some (And.intro @X_g (And.intro @gX_tt (And.intro @gX_ff (And.intro @gX_tf (And.intro @gX_ft (And.intro @gX_no (And.intro @X_idxS (And.intro @X_slcM (And.intro @X_clear (And.intro @X_cl (And.intro @cells_agg (And.intro @cells_tup (And.intro @cells_int (And.intro @cells_bool (And.intro @cells_str (And.intro @cells_nilp (And.intro @cells_nilf (And.intro @cells_nili (And.intro @cells_nils (And.intro @cells_sv (And.intro @cells_sl (And.intro @cells_ptr (And.intro @cells_rp (And.intro @cells_clo (And.intro @one_int (And.intro @one_bool (And.intro @one_str (And.intro @one_nilp (And.intro @one_nilf (And.intro @one_nili (And.intro @one_nils (And.intro @one_sv (And.intro @one_sl (And.intro @one_ptr (And.intro @one_rp (And.intro @one_clo (And.intro @elem_agg (And.intro @elem_int (And.intro @elem_bool (And.intro @elem_str (And.intro @elem_nilp (And.intro @elem_nilf (And.intro @elem_nili (@elem_nils)))))))))))))))))))))))))))))))))))))))))))))))))))))))))))))))))))))
def dr2 := And.intro @elem_sv (And.intro @elem_sl (And.intro @elem_ptr (And.intro @elem_rp (And.intro @elem_clo (And.intro @lenAV_sl (And.intro @lenAV_sv (And.intro @lenAV_nils (And.intro @ia_sl (And.intro @ia_sv (And.intro @ld_ptr (And.intro @ld_rp (And.intro @st_ptr (And.intro @fa_ptr (And.intro @fa_rp (And.intro @put_agg (And.intro @put_int (And.intro @put_bool (And.intro @put_str (And.intro @put_nilp (And.intro @put_nilf (And.intro @put_nils (And.intro @put_sl (And.intro @put_sv (And.intro @put_ptr (And.intro @put_rp (And.intro @put_clo (And.intro @slc_sl (And.intro @slc_sv (And.intro @slcAV_sl (And.intro @slcAV_sv (And.intro @ext_tup (And.intro @fld_agg (And.intro @int_int (And.intro @pick_bool (And.intro @pick_int (And.intro @pick_tupb (And.intro @pick_btup (And.intro @bin_add (And.intro @bin_sub (And.intro @bin_mul (And.intro @bin_quo (And.intro @bin_rem (And.intro @bin_eql (And.intro @bin_neq (And.intro @bin_lss (And.intro @bin_leq (And.intro @bin_gtr (And.intro @bin_geq (And.intro @ref_agg (And.intro @ref_sv (And.intro @ref_rp (And.intro @ref_sl (And.intro @ref_ptr (And.intro @ref_nils (And.intro @eqc_i (And.intro @eqc_b (And.intro @eqc_s (And.intro @cont_sl (And.intro @cont_sv (And.intro @aopA_eqv' (And.intro @eqvA_agg (And.intro @eqvA_bool (And.intro @appendAV_sl (And.intro @appendAV_nils (@appendAV_sv)))))))))))))))))))))))))))))))))))))))))))))))))))))))))))))))))
end Go.Am
end
section
set_option linter.unusedVariables false
set_option linter.defProp false
namespace Go.Am
open Go

theorem rf_mv (x : Opd) (al : List (Nat × AV)) : refA (.mv x) al = [] := rfl
theorem rf_smv (x : Opd) (al : List (Nat × AV)) : refA (.smv x) al = [] := rfl
theorem rf_newnil (sz : Nat) (al : List (Nat × AV)) : refA (.newnil sz) al = [] := rfl
theorem rf_pick (c : Opd) (a : Opd) (b : Opd) (al : List (Nat × AV)) : refA (.pick c a b) al = [] := rfl
theorem rf_alloc (z : AV) (al : List (Nat × AV)) : refA (.alloc z) al = [] := rfl
theorem rf_box (x : Opd) (al : List (Nat × AV)) : refA (.box x) al = [] := rfl
theorem rf_bsl (sz : Nat) (xs : List Opd) (al : List (Nat × AV)) : refA (.bsl sz xs) al = [] := rfl
theorem rf_load (agg : Bool) (sz : Nat) (x : Opd) (al : List (Nat × AV)) : refA (.load agg sz x) al = (evA al x).ref := rfl
theorem rf_store (sz : Nat) (x : Opd) (v : Opd) (al : List (Nat × AV)) : refA (.store sz x v) al = (evA al x).ref := rfl
theorem rf_nchk (x : Opd) (al : List (Nat × AV)) : refA (.nchk x) al = [] := rfl
theorem rf_bin (op : BinOp) (x : Opd) (y : Opd) (al : List (Nat × AV)) : refA (.bin op x y) al = [] := rfl
theorem rf_eqv (neg : Bool) (agg : Bool) (ks : List SK) (x : Opd) (y : Opd) (al : List (Nat × AV)) : refA (.eqv neg agg ks x y) al = [] := rfl
theorem rf_neg (x : Opd) (al : List (Nat × AV)) : refA (.neg x) al = [] := rfl
theorem rf_not (x : Opd) (al : List (Nat × AV)) : refA (.not x) al = [] := rfl
theorem rf_conv (k : IntKind) (x : Opd) (al : List (Nat × AV)) : refA (.conv k x) al = [] := rfl
theorem rf_ext (x : Opd) (i : Nat) (al : List (Nat × AV)) : refA (.ext x i) al = [] := rfl
theorem rf_faddr (x : Opd) (off : Nat) (al : List (Nat × AV)) : refA (.faddr x off) al = [] := rfl
theorem rf_fld (x : Opd) (off : Nat) (agg : Bool) (sz : Nat) (al : List (Nat × AV)) : refA (.fld x off agg sz) al = [] := rfl
theorem rf_iaddr (sz : Nat) (x : Opd) (i : Opd) (al : List (Nat × AV)) : refA (.iaddr sz x i) al = (evA al x).ref := rfl
theorem rf_iaddrA (n : Nat) (sz : Nat) (x : Opd) (i : Opd) (al : List (Nat × AV)) : refA (.iaddrA n sz x i) al = [] := rfl
theorem rf_idxA (n : Nat) (sz : Nat) (agg : Bool) (x : Opd) (i : Opd) (al : List (Nat × AV)) : refA (.idxA n sz agg x i) al = [] := rfl
theorem rf_idxS (x : Opd) (i : Opd) (al : List (Nat × AV)) : refA (.idxS x i) al = [] := rfl
theorem rf_slc (sz : Nat) (x : Opd) (lo : Option Opd) (hi : Option Opd) (al : List (Nat × AV)) : refA (.slc sz x lo hi) al = (evA al x).ref := rfl
theorem rf_slcM (sz : Nat) (x : Opd) (hi : Opd) (mx : Opd) (al : List (Nat × AV)) : refA (.slcM sz x hi mx) al = (evA al x).ref := rfl
theorem rf_mks (sz : Nat) (bytes : Nat) (z : AV) (n : Opd) (al : List (Nat × AV)) : refA (.mks sz bytes z n) al = [] := rfl
theorem rf_mkf (f : FuncId) (caps : List Opd) (al : List (Nat × AV)) : refA (.mkf f caps) al = [] := rfl
theorem rf_len (x : Opd) (al : List (Nat × AV)) : refA (.len x) al = [] := rfl
theorem rf_lenS (x : Opd) (al : List (Nat × AV)) : refA (.lenS x) al = [] := rfl
theorem rf_lenC (n : Nat) (al : List (Nat × AV)) : refA (.lenC n) al = [] := rfl
theorem rf_append (sz : Nat) (bytes : Nat) (x : Opd) (y : Opd) (al : List (Nat × AV)) : refA (.append sz bytes x y) al = (evA al x).ref ++ (evA al y).ref := rfl
theorem rf_mx (xs : List Opd) (al : List (Nat × AV)) : refA (.mx xs) al = [] := rfl
theorem rf_mn (xs : List Opd) (al : List (Nat × AV)) : refA (.mn xs) al = [] := rfl
theorem rf_clear (sz : Nat) (z : AV) (x : Opd) (al : List (Nat × AV)) : refA (.clear sz z x) al = (evA al x).ref := rfl
theorem rf_copy (sz : Nat) (x : Opd) (y : Opd) (al : List (Nat × AV)) : refA (.copy sz x y) al = [] := rfl
theorem rf_call (f : Opd) (args : List Opd) (al : List (Nat × AV)) : refA (.call f args) al = [] := rfl
theorem rf_bad  (al : List (Nat × AV)) : refA (.bad) al = [] := rfl
theorem optA_none (al : List (Nat × AV)) : optA al none = some none := rfl
theorem optA_some (al : List (Nat × AV)) (x : Opd) : optA al (some x) = (intAV (evA al x)).map some := rfl
theorem consO_some (l : List (Nat × AV)) (d : Nat) (v : AV) : consO l (some d) v = (d, v) :: l := rfl
theorem consO_none (l : List (Nat × AV)) (v : AV) : consO l none v = l := rfl
theorem hsetL_nil (hl : List Blk) : hsetL hl [] = hl := rfl
theorem hsetL_cons (hl : List Blk) (p : Nat × Blk) (W : List (Nat × Blk)) : hsetL hl (p :: W) = hsetL (hset hl p) W := rfl
theorem hset_eq (l : List Blk) (p : Nat × Blk) : hset l p = if p.1 < l.length then l.set p.1 p.2 else l ++ [p.2] := rfl
theorem hget_eq (l : List Blk) (b : Nat) : hget l b = (l[b]?).getD .dead := rfl
theorem rowAt_eq (h : Nat → Blk) (b g : Nat) : rowAt? h b g = (match h b with
  | .row false g' frz sz xs => if g' = g then some (frz, sz, xs) else none
  | _ => none) := rfl
theorem ldc_t (sz : Nat) (cs : List AV) : loadCells' true sz cs = if sz ≤ cs.length then some (.agg (cs.take sz)) else none := rfl
theorem ldc_f (sz : Nat) (cs : List AV) : loadCells' false sz cs = cs[0]? := rfl
theorem evsA_nil (al : List (Nat × AV)) : evsA al [] = [] := rfl
theorem evsA_cons (al : List (Nat × AV)) (x : Opd) (xs : List Opd) : evsA al (x :: xs) = evA al x :: evsA al xs := rfl
theorem evpA_nil (al : List (Nat × AV)) : evpA al [] = [] := rfl
theorem evpA_cons (al : List (Nat × AV)) (a b : Nat) (x : Opd) (xs : List (Nat × Nat × Opd)) : evpA al ((a, b, x) :: xs) = (a, b, evA al x) :: evpA al xs := rfl
theorem elemsA_nil : elemsA [] = true := rfl
theorem elemsA_cons (x : AV) (xs : List AV) : elemsA (x :: xs) = (x.elem && elemsA xs) := rfl
theorem elemsP_nil : elemsP [] = true := rfl
theorem elemsP_cons (x : Nat × Nat × AV) (xs : List (Nat × Nat × AV)) : elemsP (x :: xs) = (x.2.2.elem && elemsP xs) := rfl
theorem sizedA_nil (sz : Nat) : sizedA sz [] = true := rfl
theorem sizedA_cons (sz : Nat) (x : AV) (xs : List AV) : sizedA sz (x :: xs) = ((x.elem && x.cells.length == sz) && sizedA sz xs) := rfl
theorem get_nil (t : Nat) : get [] t = .und := rfl
theorem get_cons (k : Nat) (v : AV) (r : List (Nat × AV)) (t : Nat) : get ((k, v) :: r) t = if k = t then v else get r t := rfl
theorem fillA_nil (cs : List AV) : fillA cs [] = some cs := rfl
theorem fillA_cons (cs : List AV) (off sz : Nat) (v : AV) (rest : List (Nat × Nat × AV)) : fillA cs ((off, sz, v) :: rest) = if v.cells.length = sz ∧ off + sz ≤ cs.length then fillA (cs.take off ++ v.cells ++ cs.drop (off + sz)) rest else none := rfl
theorem eqCells_nil : eqCells [] [] [] = some true := rfl
theorem eqCells_cons (k : SK) (ks : List SK) (x y : AV) (xs ys : List AV) : eqCells (k :: ks) (x :: xs) (y :: ys) = (match eqCell k x y, eqCells ks xs ys with
    | some a, some b => some (a && b)
    | _, _ => none) := rfl
theorem foldAV_nil (f : Int → Int → Int) (k : IntKind) (n : Int) : foldAV f (.int k n) [] = some (.int k n) := rfl
theorem foldAV_cons (f : Int → Int → Int) (k k' : IntKind) (n m : Int) (rest : List AV) : foldAV f (.int k n) (.int k' m :: rest) = foldAV f (.int k (f n m)) rest := rfl
theorem if_t' {α : Type} (a b : α) : (if True then a else b) = a := rfl
theorem if_f' {α : Type} (a b : α) : (if False then a else b) = b := rfl
def dr3 := And.intro @rf_mv (And.intro @rf_smv (And.intro @rf_newnil (And.intro @rf_pick (And.intro @rf_alloc (And.intro @rf_box (And.intro @rf_bsl (And.intro @rf_load (And.intro @rf_store (And.intro @rf_nchk (And.intro @rf_bin (And.intro @rf_eqv (And.intro @rf_neg (And.intro @rf_not (And.intro @rf_conv (And.intro @rf_ext (And.intro @rf_faddr (And.intro @rf_fld (And.intro @rf_iaddr (And.intro @rf_iaddrA (And.intro @rf_idxA (And.intro @rf_idxS (And.intro @rf_slc (And.intro @rf_slcM (And.intro @rf_mks (And.intro @rf_mkf (And.intro @rf_len (And.intro @rf_lenS (And.intro @rf_lenC (And.intro @rf_append (And.intro @rf_mx (And.intro @rf_mn (And.intro @rf_clear (And.intro @rf_copy (And.intro @rf_call (And.intro @rf_bad (And.intro @optA_none (And.intro @optA_some (And.intro @consO_some (And.intro @consO_none (And.intro @hsetL_nil (And.intro @hsetL_cons (And.intro @hset_eq (And.intro @hget_eq (And.intro @rowAt_eq (And.intro @ldc_t (And.intro @ldc_f (And.intro @evsA_nil (And.intro @evsA_cons (And.intro @evpA_nil (And.intro @evpA_cons (And.intro @elemsA_nil (And.intro @elemsA_cons (And.intro @elemsP_nil (And.intro @elemsP_cons (And.intro @sizedA_nil (And.intro @sizedA_cons (And.intro @get_nil (And.intro @get_cons (@fillA_nil)))))))))))))))))))))))))))))))))))))))))))))))))))))))))))
def dr4 := And.intro @fillA_cons (And.intro @eqCells_nil (And.intro @eqCells_cons (And.intro @foldAV_nil (And.intro @foldAV_cons (And.intro @if_t' (And.intro @if_f' (And.intro @List.foldl_nil.{0,0} (And.intro @List.foldl_cons.{0,0} (And.intro @List.all_nil.{0} (And.intro @List.all_cons.{0} (And.intro @List.map_nil.{0,0} (And.intro @List.map_cons.{0,0} (And.intro @List.set_nil.{0} (And.intro @List.set_cons_zero.{0} (And.intro @List.set_cons_succ.{0} (And.intro @List.take_zero.{0} (And.intro @List.take_nil.{0} (And.intro @List.take_succ_cons.{0} (And.intro @List.drop_zero.{0} (And.intro @List.drop_nil.{0} (And.intro @List.drop_succ_cons.{0} (And.intro @Option.getD_some.{0} (And.intro @Option.getD_none.{0} (And.intro @Option.map_some.{0,0} (@Option.map_none.{0,0})))))))))))))))))))))))))
def bset0 := And.intro @decide_eq_true_eq (And.intro @decide_eq_false_iff_not (And.intro @beq_iff_eq.{0} (And.intro @bne_iff_ne.{0} (And.intro @ne_eq.{1} (And.intro @Bool.not_eq_true (And.intro @Bool.not_eq_false (And.intro @beq_eq_false_iff_ne.{0} (And.intro @bne_eq_false_iff_eq.{0} (And.intro @Decidable.not_not (And.intro @Bool.not_eq_eq_eq_not (And.intro @Bool.not_true (And.intro @Bool.not_false (And.intro @Bool.true_eq_false (And.intro @Bool.false_eq_true (And.intro @Int.not_lt (And.intro @Int.not_le (And.intro @Bool.and_eq_true (And.intro @Bool.and_eq_false_iff (And.intro @Bool.or_eq_true (@Bool.or_eq_false_iff))))))))))))))))))))
end Go.Am
end
