/- The examples of the chapter: what the functions hand back for them.
   Conditions: none. -/
import Derived.KernelRfl
import Derived.Test.YtkbpkbjfphdgeaaHT
import Derived.Test.YtkbpkbjfphdgeaaAm11
namespace Go.Hull.Aw
open Go Go.Am Go.Proofs

def nm (f : Nat) : Bool := natIn f [87, 104, 114, 127, 84, 64, 99, 67, 93, 109, 116]
def tb : AV := .sv false 2 [.agg [.int .i64 0, .int .i64 0], .agg [.int .i64 4, .int .i64 0], .agg [.int .i64 2, .int .i64 1], .agg [.int .i64 4, .int .i64 4], .agg [.int .i64 0, .int .i64 4], .agg [.int .i64 2, .int .i64 0]]
def ms0 : List Memo := []
theorem ok0 : MemoOk Try.prog ms0 := memoOk_nil
theorem x_check : CallsF Try.prog 50 [tb] [] (.int .i64 0) [] := xFm_sound hm tOk ok0 20 _ _ _ _ _ (by kernel_rfl : xFm nm T ms0 1000 20 50 [tb] [] = some (.int .i64 0, []))
def ms1 : List Memo := ⟨50, [tb], .int .i64 0, []⟩ :: ms0
theorem ok1 : MemoOk Try.prog ms1 := memoOk_cons x_check ok0
theorem x_order : CallsF Try.prog 83 [tb] [] (.tup [.sl 0 0 0 6, .int .i64 0]) [.row false 0 false 1 [.int .i64 0, .int .i64 4, .int .i64 5, .int .i64 2, .int .i64 1, .int .i64 3]] := xFm_sound hm tOk ok1 20 _ _ _ _ _ (by kernel_rfl : xFm nm T ms1 1000 20 83 [tb] [] = some (.tup [.sl 0 0 0 6, .int .i64 0], [.row false 0 false 1 [.int .i64 0, .int .i64 4, .int .i64 5, .int .i64 2, .int .i64 1, .int .i64 3]]))
def ms2 : List Memo := ⟨83, [tb], .tup [.sl 0 0 0 6, .int .i64 0], [.row false 0 false 1 [.int .i64 0, .int .i64 4, .int .i64 5, .int .i64 2, .int .i64 1, .int .i64 3]]⟩ :: ms1
theorem ok2 : MemoOk Try.prog ms2 := memoOk_cons x_order ok1
theorem x_around : CallsF Try.prog 51 [tb] [] (.sl 0 0 0 4) [.row false 0 false 1 [.int .i64 0, .int .i64 1, .int .i64 3, .int .i64 4]] := xFm_sound hm tOk ok2 20 _ _ _ _ _ (by kernel_rfl : xFm nm T ms2 1000 20 51 [tb] [] = some (.sl 0 0 0 4, [.row false 0 false 1 [.int .i64 0, .int .i64 1, .int .i64 3, .int .i64 4]]))
def ms3 : List Memo := ⟨51, [tb], .sl 0 0 0 4, [.row false 0 false 1 [.int .i64 0, .int .i64 1, .int .i64 3, .int .i64 4]]⟩ :: ms2
theorem ok3 : MemoOk Try.prog ms3 := memoOk_cons x_around ok2
theorem x_hull : CallsF Try.prog 13 [tb] [] (.tup [.sl 0 0 0 4, .int .i64 0]) [.row false 0 false 1 [.int .i64 0, .int .i64 1, .int .i64 3, .int .i64 4]] := xFm_sound hm tOk ok3 20 _ _ _ _ _ (by kernel_rfl : xFm nm T ms3 1000 20 13 [tb] [] = some (.tup [.sl 0 0 0 4, .int .i64 0], [.row false 0 false 1 [.int .i64 0, .int .i64 1, .int .i64 3, .int .i64 4]]))
def ms4 : List Memo := ⟨13, [tb], .tup [.sl 0 0 0 4, .int .i64 0], [.row false 0 false 1 [.int .i64 0, .int .i64 1, .int .i64 3, .int .i64 4]]⟩ :: ms3
theorem ok4 : MemoOk Try.prog ms4 := memoOk_cons x_hull ok3
theorem x_in : CallsF Try.prog 15 [tb, .agg [.int .i64 2, .int .i64 1]] [] (.tup [.int .i64 1, .int .i64 0]) [] := xFm_sound hm tOk ok4 20 _ _ _ _ _ (by kernel_rfl : xFm nm T ms4 1000 20 15 [tb, .agg [.int .i64 2, .int .i64 1]] [] = some (.tup [.int .i64 1, .int .i64 0], []))
def ms5 : List Memo := ⟨15, [tb, .agg [.int .i64 2, .int .i64 1]], .tup [.int .i64 1, .int .i64 0], []⟩ :: ms4
theorem ok5 : MemoOk Try.prog ms5 := memoOk_cons x_in ok4
theorem x_on : CallsF Try.prog 15 [tb, .agg [.int .i64 2, .int .i64 0]] [] (.tup [.int .i64 0, .int .i64 0]) [] := xFm_sound hm tOk ok5 20 _ _ _ _ _ (by kernel_rfl : xFm nm T ms5 1000 20 15 [tb, .agg [.int .i64 2, .int .i64 0]] [] = some (.tup [.int .i64 0, .int .i64 0], []))
def ms6 : List Memo := ⟨15, [tb, .agg [.int .i64 2, .int .i64 0]], .tup [.int .i64 0, .int .i64 0], []⟩ :: ms5
theorem ok6 : MemoOk Try.prog ms6 := memoOk_cons x_on ok5
theorem x_ext : CallsF Try.prog 17 [tb, .agg [.int .i64 1, .int .i64 0]] [] (.tup [.sl 0 0 0 2, .int .i64 0]) [.row false 0 false 1 [.int .i64 1, .int .i64 3]] := xFm_sound hm tOk ok6 20 _ _ _ _ _ (by kernel_rfl : xFm nm T ms6 1000 20 17 [tb, .agg [.int .i64 1, .int .i64 0]] [] = some (.tup [.sl 0 0 0 2, .int .i64 0], [.row false 0 false 1 [.int .i64 1, .int .i64 3]]))
def ms7 : List Memo := ⟨17, [tb, .agg [.int .i64 1, .int .i64 0]], .tup [.sl 0 0 0 2, .int .i64 0], [.row false 0 false 1 [.int .i64 1, .int .i64 3]]⟩ :: ms6
theorem ok7 : MemoOk Try.prog ms7 := memoOk_cons x_ext ok6
theorem x_opp01 : CallsF Try.prog 65 [.sv false 2 [.agg [.int .i64 0, .int .i64 0], .agg [.int .i64 4, .int .i64 0], .agg [.int .i64 4, .int .i64 4], .agg [.int .i64 0, .int .i64 4]], .agg [.int .i64 0, .int .i64 0], .agg [.int .i64 4, .int .i64 0]] [] (.bool true) [] := xFm_sound hm tOk ok7 20 _ _ _ _ _ (by kernel_rfl : xFm nm T ms7 1000 20 65 [.sv false 2 [.agg [.int .i64 0, .int .i64 0], .agg [.int .i64 4, .int .i64 0], .agg [.int .i64 4, .int .i64 4], .agg [.int .i64 0, .int .i64 4]], .agg [.int .i64 0, .int .i64 0], .agg [.int .i64 4, .int .i64 0]] [] = some (.bool true, []))
def ms8 : List Memo := ⟨65, [.sv false 2 [.agg [.int .i64 0, .int .i64 0], .agg [.int .i64 4, .int .i64 0], .agg [.int .i64 4, .int .i64 4], .agg [.int .i64 0, .int .i64 4]], .agg [.int .i64 0, .int .i64 0], .agg [.int .i64 4, .int .i64 0]], .bool true, []⟩ :: ms7
theorem ok8 : MemoOk Try.prog ms8 := memoOk_cons x_opp01 ok7
theorem x_opp02 : CallsF Try.prog 65 [.sv false 2 [.agg [.int .i64 0, .int .i64 0], .agg [.int .i64 4, .int .i64 0], .agg [.int .i64 4, .int .i64 4], .agg [.int .i64 0, .int .i64 4]], .agg [.int .i64 0, .int .i64 0], .agg [.int .i64 4, .int .i64 4]] [] (.bool true) [] := xFm_sound hm tOk ok8 20 _ _ _ _ _ (by kernel_rfl : xFm nm T ms8 1000 20 65 [.sv false 2 [.agg [.int .i64 0, .int .i64 0], .agg [.int .i64 4, .int .i64 0], .agg [.int .i64 4, .int .i64 4], .agg [.int .i64 0, .int .i64 4]], .agg [.int .i64 0, .int .i64 0], .agg [.int .i64 4, .int .i64 4]] [] = some (.bool true, []))
def ms9 : List Memo := ⟨65, [.sv false 2 [.agg [.int .i64 0, .int .i64 0], .agg [.int .i64 4, .int .i64 0], .agg [.int .i64 4, .int .i64 4], .agg [.int .i64 0, .int .i64 4]], .agg [.int .i64 0, .int .i64 0], .agg [.int .i64 4, .int .i64 4]], .bool true, []⟩ :: ms8
theorem ok9 : MemoOk Try.prog ms9 := memoOk_cons x_opp02 ok8
theorem x_opp03 : CallsF Try.prog 65 [.sv false 2 [.agg [.int .i64 0, .int .i64 0], .agg [.int .i64 4, .int .i64 0], .agg [.int .i64 4, .int .i64 4], .agg [.int .i64 0, .int .i64 4]], .agg [.int .i64 0, .int .i64 0], .agg [.int .i64 0, .int .i64 4]] [] (.bool true) [] := xFm_sound hm tOk ok9 20 _ _ _ _ _ (by kernel_rfl : xFm nm T ms9 1000 20 65 [.sv false 2 [.agg [.int .i64 0, .int .i64 0], .agg [.int .i64 4, .int .i64 0], .agg [.int .i64 4, .int .i64 4], .agg [.int .i64 0, .int .i64 4]], .agg [.int .i64 0, .int .i64 0], .agg [.int .i64 0, .int .i64 4]] [] = some (.bool true, []))
def ms10 : List Memo := ⟨65, [.sv false 2 [.agg [.int .i64 0, .int .i64 0], .agg [.int .i64 4, .int .i64 0], .agg [.int .i64 4, .int .i64 4], .agg [.int .i64 0, .int .i64 4]], .agg [.int .i64 0, .int .i64 0], .agg [.int .i64 0, .int .i64 4]], .bool true, []⟩ :: ms9
theorem ok10 : MemoOk Try.prog ms10 := memoOk_cons x_opp03 ok9
theorem x_opp12 : CallsF Try.prog 65 [.sv false 2 [.agg [.int .i64 0, .int .i64 0], .agg [.int .i64 4, .int .i64 0], .agg [.int .i64 4, .int .i64 4], .agg [.int .i64 0, .int .i64 4]], .agg [.int .i64 4, .int .i64 0], .agg [.int .i64 4, .int .i64 4]] [] (.bool true) [] := xFm_sound hm tOk ok10 20 _ _ _ _ _ (by kernel_rfl : xFm nm T ms10 1000 20 65 [.sv false 2 [.agg [.int .i64 0, .int .i64 0], .agg [.int .i64 4, .int .i64 0], .agg [.int .i64 4, .int .i64 4], .agg [.int .i64 0, .int .i64 4]], .agg [.int .i64 4, .int .i64 0], .agg [.int .i64 4, .int .i64 4]] [] = some (.bool true, []))
def ms11 : List Memo := ⟨65, [.sv false 2 [.agg [.int .i64 0, .int .i64 0], .agg [.int .i64 4, .int .i64 0], .agg [.int .i64 4, .int .i64 4], .agg [.int .i64 0, .int .i64 4]], .agg [.int .i64 4, .int .i64 0], .agg [.int .i64 4, .int .i64 4]], .bool true, []⟩ :: ms10
theorem ok11 : MemoOk Try.prog ms11 := memoOk_cons x_opp12 ok10
theorem x_opp13 : CallsF Try.prog 65 [.sv false 2 [.agg [.int .i64 0, .int .i64 0], .agg [.int .i64 4, .int .i64 0], .agg [.int .i64 4, .int .i64 4], .agg [.int .i64 0, .int .i64 4]], .agg [.int .i64 4, .int .i64 0], .agg [.int .i64 0, .int .i64 4]] [] (.bool true) [] := xFm_sound hm tOk ok11 20 _ _ _ _ _ (by kernel_rfl : xFm nm T ms11 1000 20 65 [.sv false 2 [.agg [.int .i64 0, .int .i64 0], .agg [.int .i64 4, .int .i64 0], .agg [.int .i64 4, .int .i64 4], .agg [.int .i64 0, .int .i64 4]], .agg [.int .i64 4, .int .i64 0], .agg [.int .i64 0, .int .i64 4]] [] = some (.bool true, []))
def ms12 : List Memo := ⟨65, [.sv false 2 [.agg [.int .i64 0, .int .i64 0], .agg [.int .i64 4, .int .i64 0], .agg [.int .i64 4, .int .i64 4], .agg [.int .i64 0, .int .i64 4]], .agg [.int .i64 4, .int .i64 0], .agg [.int .i64 0, .int .i64 4]], .bool true, []⟩ :: ms11
theorem ok12 : MemoOk Try.prog ms12 := memoOk_cons x_opp13 ok11
theorem x_opp23 : CallsF Try.prog 65 [.sv false 2 [.agg [.int .i64 0, .int .i64 0], .agg [.int .i64 4, .int .i64 0], .agg [.int .i64 4, .int .i64 4], .agg [.int .i64 0, .int .i64 4]], .agg [.int .i64 4, .int .i64 4], .agg [.int .i64 0, .int .i64 4]] [] (.bool true) [] := xFm_sound hm tOk ok12 20 _ _ _ _ _ (by kernel_rfl : xFm nm T ms12 1000 20 65 [.sv false 2 [.agg [.int .i64 0, .int .i64 0], .agg [.int .i64 4, .int .i64 0], .agg [.int .i64 4, .int .i64 4], .agg [.int .i64 0, .int .i64 4]], .agg [.int .i64 4, .int .i64 4], .agg [.int .i64 0, .int .i64 4]] [] = some (.bool true, []))
def ms13 : List Memo := ⟨65, [.sv false 2 [.agg [.int .i64 0, .int .i64 0], .agg [.int .i64 4, .int .i64 0], .agg [.int .i64 4, .int .i64 4], .agg [.int .i64 0, .int .i64 4]], .agg [.int .i64 4, .int .i64 4], .agg [.int .i64 0, .int .i64 4]], .bool true, []⟩ :: ms12
theorem ok13 : MemoOk Try.prog ms13 := memoOk_cons x_opp23 ok12
theorem x_sorted : CallsF Try.prog 63 [.clo 94 [.rp true [.sv false 1 [.int .i64 0, .int .i64 1, .int .i64 3, .int .i64 4]]]] [] (.sl 0 0 0 4) [.row false 0 false 1 [.int .i64 0, .int .i64 1, .int .i64 3, .int .i64 4]] := xFm_sound hm tOk ok13 20 _ _ _ _ _ (by kernel_rfl : xFm nm T ms13 1000 20 63 [.clo 94 [.rp true [.sv false 1 [.int .i64 0, .int .i64 1, .int .i64 3, .int .i64 4]]]] [] = some (.sl 0 0 0 4, [.row false 0 false 1 [.int .i64 0, .int .i64 1, .int .i64 3, .int .i64 4]]))
def ms14 : List Memo := ⟨63, [.clo 94 [.rp true [.sv false 1 [.int .i64 0, .int .i64 1, .int .i64 3, .int .i64 4]]]], .sl 0 0 0 4, [.row false 0 false 1 [.int .i64 0, .int .i64 1, .int .i64 3, .int .i64 4]]⟩ :: ms13
theorem ok14 : MemoOk Try.prog ms14 := memoOk_cons x_sorted ok13
theorem x_anti : CallsF Try.prog 20 [tb] [] (.tup [.sl 0 0 0 6, .int .i64 0]) [.row false 0 false 2 [.agg [.int .i64 0, .int .i64 1], .agg [.int .i64 0, .int .i64 3], .agg [.int .i64 0, .int .i64 4], .agg [.int .i64 1, .int .i64 3], .agg [.int .i64 1, .int .i64 4], .agg [.int .i64 3, .int .i64 4]]] := xFm_sound hm tOk ok14 20 _ _ _ _ _ (by kernel_rfl : xFm nm T ms14 1000 20 20 [tb] [] = some (.tup [.sl 0 0 0 6, .int .i64 0], [.row false 0 false 2 [.agg [.int .i64 0, .int .i64 1], .agg [.int .i64 0, .int .i64 3], .agg [.int .i64 0, .int .i64 4], .agg [.int .i64 1, .int .i64 3], .agg [.int .i64 1, .int .i64 4], .agg [.int .i64 3, .int .i64 4]]]))
def ms15 : List Memo := ⟨20, [tb], .tup [.sl 0 0 0 6, .int .i64 0], [.row false 0 false 2 [.agg [.int .i64 0, .int .i64 1], .agg [.int .i64 0, .int .i64 3], .agg [.int .i64 0, .int .i64 4], .agg [.int .i64 1, .int .i64 3], .agg [.int .i64 1, .int .i64 4], .agg [.int .i64 3, .int .i64 4]]]⟩ :: ms14
theorem ok15 : MemoOk Try.prog ms15 := memoOk_cons x_anti ok14
theorem x_far : CallsF Try.prog 44 [tb] [] (.tup [.int .i64 32, .agg [.int .i64 0, .int .i64 3], .int .i64 0]) [] := xFm_sound hm tOk ok15 20 _ _ _ _ _ (by kernel_rfl : xFm nm T ms15 1000 20 44 [tb] [] = some (.tup [.int .i64 32, .agg [.int .i64 0, .int .i64 3], .int .i64 0], []))
def ms16 : List Memo := ⟨44, [tb], .tup [.int .i64 32, .agg [.int .i64 0, .int .i64 3], .int .i64 0], []⟩ :: ms15
theorem ok16 : MemoOk Try.prog ms16 := memoOk_cons x_far ok15
theorem x_sep : CallsF Try.prog 23 [.sv false 2 [.agg [.int .i64 0, .int .i64 0], .agg [.int .i64 0, .int .i64 5]], .sv false 2 [.agg [.int .i64 1, .int .i64 0]]] [] (.tup [.bool true, .agg [.int .i64 1, .int .i64 0], .int .i64 0, .int .i64 0]) [] := xFm_sound hm tOk ok16 20 _ _ _ _ _ (by kernel_rfl : xFm nm T ms16 1000 20 23 [.sv false 2 [.agg [.int .i64 0, .int .i64 0], .agg [.int .i64 0, .int .i64 5]], .sv false 2 [.agg [.int .i64 1, .int .i64 0]]] [] = some (.tup [.bool true, .agg [.int .i64 1, .int .i64 0], .int .i64 0, .int .i64 0], []))
def ms17 : List Memo := ⟨23, [.sv false 2 [.agg [.int .i64 0, .int .i64 0], .agg [.int .i64 0, .int .i64 5]], .sv false 2 [.agg [.int .i64 1, .int .i64 0]]], .tup [.bool true, .agg [.int .i64 1, .int .i64 0], .int .i64 0, .int .i64 0], []⟩ :: ms16
theorem ok17 : MemoOk Try.prog ms17 := memoOk_cons x_sep ok16
theorem x_awake : CallsF Try.prog 12 [] [] (.bool true) [] := xFm_sound hm tOk ok17 20 _ _ _ _ _ (by kernel_rfl : xFm nm T ms17 1000 20 12 [] [] = some (.bool true, []))
def ms18 : List Memo := ⟨12, [], .bool true, []⟩ :: ms17
theorem ok18 : MemoOk Try.prog ms18 := memoOk_cons x_awake ok17
end Go.Hull.Aw
