/-
  SnQ: Numbers and compact codes of functions.
  SnL: Contracts of package extmap, and of the reference of chapter 8: which maps may be.
  SnM: Contracts of package state, first part.
  SnS: Contracts of package state, second part: kept.
  PlD: States: no Go here.
  SnT: Contracts of package state, third part: Check, New.
  SnU: Contracts: state.New; likeness of states, of records.
-/
import Derived.Test.YthjmodhemglgbaaKE
import Derived.Test.YthjmodhemglgbaaRows
set_option linter.unusedSimpArgs false
set_option linter.unusedVariables false

namespace Go.Av
open Go.Proofs

@[simp] abbrev n_extmap_New : FuncId := 118
def F_extmap_New : F := ⟨(.seq (.ops [⟨(some 2), none, (.nil 174 5 true)⟩, ⟨(some 3), none, (.mov (.c (.int .i64 0)))⟩]) (.seq (.seq (.ops [⟨(some 4), none, (.mov (.t 0))⟩, ⟨(some 5), none, (.bin .lss (.t 4) (.c (.int .i64 1)))⟩, ⟨(some 6), none, (.mov (.t 5))⟩, ⟨(some 7), (some (6, false)), (.mov (.t 0))⟩, ⟨(some 8), (some (6, false)), (.bin .gtr (.t 7) (.c (.int .i64 64)))⟩, ⟨(some 9), none, (.pick (.t 6) (.c (.bool true)) (.t 8))⟩]) (.cond (.t 9) (.seq (.ops [⟨(some 2), none, (.nil 174 5 true)⟩, ⟨(some 3), none, (.mov (.c (.int .i64 81)))⟩]) .ret) .skip)) (.seq (.ops [⟨(some 10), none, (.mov (.t 0))⟩, ⟨(some 11), none, (.bld [(.val (.int .i64 0)), (.val (.int .i64 0)), (.val (.int .i64 0)), (.val (.int .i64 0)), (.lit 1 [])] [(1, (1, (.t 10)))])⟩, ⟨(some 12), none, (.mkl 174 5 [(.t 11)] true)⟩, ⟨(some 2), none, (.mov (.t 12))⟩, ⟨(some 3), none, (.mov (.c (.int .i64 0)))⟩]) .ret))), 13, [(.tmp 2), (.tmp 3)]⟩
theorem F_extmap_New_ok : compF Try.prog (fun _ => true) 118 = some F_extmap_New := by kernel_rfl
@[simp] abbrev n_extmap_Check : FuncId := 138
def F_extmap_Check_L0 : C := (.seq (.ops [⟨(some 11), none, (.bin .lss (.t 10) (.t 9))⟩]) (.seq (.cond (.t 11) .skip (.exit 0)) (.seq (.block 1 (.seq (.ops [⟨(some 12), none, (.mov (.t 10))⟩, ⟨(some 13), none, (.ixs (.t 8) (.t 10) 5)⟩, ⟨(some 14), none, (.lde (.t 13) (some 5))⟩, ⟨(some 7), none, (.alc [(.val (.int .i64 0)), (.val (.int .i64 0)), (.val (.int .i64 0)), (.val (.int .i64 0)), (.lit 1 [])])⟩, ⟨(some 6), none, (.mov (.t 12))⟩, ⟨none, none, (.st (.t 7) 5 (.t 14))⟩]) (.seq (.seq (.dops false [] [⟨(some 15), none, (.ld (.t 7) (some 5))⟩, ⟨(some 16), none, (.call 119 [(.t 15)])⟩, ⟨(some 17), none, (.un .not (.t 16))⟩, ⟨(some 18), none, (.mov (.t 17))⟩, ⟨(some 19), (some (18, false)), (.fad (.t 7) 0)⟩, ⟨(some 20), (some (18, false)), (.ld (.t 19) none)⟩, ⟨(some 21), (some (18, false)), (.mov (.t 5))⟩, ⟨(some 22), (some (18, false)), (.bin .neq (.t 20) (.t 21))⟩, ⟨(some 23), none, (.pick (.t 18) (.c (.bool true)) (.t 22))⟩, ⟨(some 24), none, (.mov (.t 23))⟩, ⟨(some 25), (some (24, false)), (.mov (.t 6))⟩, ⟨(some 26), (some (24, false)), (.bin .gtr (.t 25) (.c (.int .i64 0)))⟩, ⟨(some 27), (some (24, false)), (.mov (.t 26))⟩, ⟨(some 28), (some (27, true)), (.mov (.t 1))⟩, ⟨(some 29), (some (27, true)), (.mov (.t 6))⟩, ⟨(some 30), (some (27, true)), (.bin .sub (.t 29) (.c (.int .i64 1)))⟩, ⟨(some 31), (some (27, true)), (.ixs (.t 28) (.t 30) 5)⟩, ⟨(some 32), (some (27, true)), (.lde (.t 31) (some 5))⟩, ⟨(some 33), (some (27, true)), (.ld (.t 7) (some 5))⟩, ⟨(some 34), (some (27, true)), (.call 177 [(.t 32), (.t 33)])⟩, ⟨(some 35), (some (24, false)), (.pick (.t 27) (.t 34) (.c (.bool false)))⟩, ⟨(some 36), none, (.pick (.t 24) (.c (.bool true)) (.t 35))⟩]) (.cond (.t 36) (.seq (.ops [⟨(some 4), none, (.mov (.c (.bool false)))⟩]) .ret) .skip)) (.ops [⟨(some 37), none, (.mov (.t 5))⟩, ⟨(some 38), none, (.fad (.t 7) 1)⟩, ⟨(some 39), none, (.ld (.t 38) none)⟩, ⟨(some 40), none, (.bin .add (.t 37) (.t 39))⟩, ⟨(some 5), none, (.mov (.t 40))⟩])))) (.ops [⟨(some 41), none, (.bin .add (.t 10) (.c (.int .i64 1)))⟩, ⟨(some 10), none, (.mov (.t 41))⟩]))))
def F_extmap_Check : F := ⟨(.seq (.ops [⟨(some 4), none, (.mov (.c (.bool false)))⟩]) (.seq (.ops [⟨(some 5), none, (.mov (.c (.int .i64 0)))⟩]) (.seq (.seq (.ops [⟨(some 8), none, (.mov (.t 1))⟩, ⟨(some 9), none, (.len (.t 8))⟩, ⟨(some 10), none, (.mov (.c (.int .i64 0)))⟩]) (.block 0 (.loop F_extmap_Check_L0))) (.seq (.ops [⟨(some 42), none, (.mov (.t 1))⟩, ⟨(some 43), none, (.len (.t 42))⟩, ⟨(some 44), none, (.bin .gtr (.t 43) (.c (.int .i64 0)))⟩, ⟨(some 45), none, (.mov (.t 44))⟩, ⟨(some 46), (some (45, true)), (.mov (.t 5))⟩, ⟨(some 47), (some (45, true)), (.mov (.t 0))⟩, ⟨(some 48), (some (45, true)), (.bin .eql (.t 46) (.t 47))⟩, ⟨(some 49), none, (.pick (.t 45) (.t 48) (.c (.bool false)))⟩, ⟨(some 4), none, (.mov (.t 49))⟩]) .ret)))), 50, [(.tmp 4)]⟩
theorem F_extmap_Check_ok : compF Try.prog (fun _ => true) 138 = some F_extmap_Check := by kernel_rfl
@[simp] abbrev n_r08_Check : FuncId := 172
def F_r08_Check_L0 : C := (.seq (.seq (.ops [⟨(some 15), none, (.mov (.t 6))⟩, ⟨(some 16), none, (.mov (.t 1))⟩, ⟨(some 17), none, (.len (.t 16))⟩, ⟨(some 18), none, (.bin .lss (.t 15) (.t 17))⟩]) (.cond (.t 18) .skip (.exit 0))) (.seq (.block 1 (.seq (.ops [⟨(some 21), none, (.mov (.t 1))⟩, ⟨(some 22), none, (.mov (.t 6))⟩, ⟨(some 23), none, (.ixs (.t 21) (.t 22) 5)⟩, ⟨(some 24), none, (.lde (.t 23) (some 5))⟩, ⟨(some 25), none, (.call 174 [(.t 24)])⟩, ⟨(some 7), none, (.mov (.t 25))⟩]) (.seq (.seq (.ops [⟨(some 26), none, (.mov (.t 7))⟩, ⟨(some 27), none, (.un .not (.t 26))⟩, ⟨(some 28), none, (.mov (.t 27))⟩, ⟨(some 29), (some (28, false)), (.mov (.t 1))⟩, ⟨(some 30), (some (28, false)), (.mov (.t 6))⟩, ⟨(some 31), (some (28, false)), (.ixs (.t 29) (.t 30) 5)⟩, ⟨(some 32), (some (28, false)), (.fad (.t 31) 0)⟩, ⟨(some 33), (some (28, false)), (.lde (.t 32) none)⟩, ⟨(some 34), (some (28, false)), (.mov (.t 5))⟩, ⟨(some 35), (some (28, false)), (.bin .neq (.t 33) (.t 34))⟩, ⟨(some 36), none, (.pick (.t 28) (.c (.bool true)) (.t 35))⟩]) (.cond (.t 36) (.seq (.ops [⟨(some 4), none, (.mov (.c (.bool false)))⟩]) .ret) .skip)) (.seq (.seq (.ops [⟨(some 37), none, (.mov (.t 6))⟩, ⟨(some 38), none, (.bin .gtr (.t 37) (.c (.int .i64 0)))⟩]) (.cond (.t 38) (.seq (.dops false [] [⟨(some 39), none, (.mov (.t 1))⟩, ⟨(some 40), none, (.mov (.t 6))⟩, ⟨(some 41), none, (.bin .sub (.t 40) (.c (.int .i64 1)))⟩, ⟨(some 42), none, (.ixs (.t 39) (.t 41) 5)⟩, ⟨(some 43), none, (.lde (.t 42) (some 5))⟩, ⟨(some 44), none, (.mov (.t 1))⟩, ⟨(some 45), none, (.mov (.t 6))⟩, ⟨(some 46), none, (.ixs (.t 44) (.t 45) 5)⟩, ⟨(some 47), none, (.lde (.t 46) (some 5))⟩, ⟨(some 48), none, (.call 200 [(.t 43), (.t 47)])⟩, ⟨(some 8), none, (.mov (.t 48))⟩]) (.seq (.ops [⟨(some 49), none, (.mov (.t 8))⟩]) (.cond (.t 49) (.seq (.ops [⟨(some 4), none, (.mov (.c (.bool false)))⟩]) .ret) .skip))) .skip)) (.ops [⟨(some 50), none, (.mov (.t 5))⟩, ⟨(some 51), none, (.mov (.t 1))⟩, ⟨(some 52), none, (.mov (.t 6))⟩, ⟨(some 53), none, (.ixs (.t 51) (.t 52) 5)⟩, ⟨(some 54), none, (.fad (.t 53) 1)⟩, ⟨(some 55), none, (.lde (.t 54) none)⟩, ⟨(some 56), none, (.bin .add (.t 50) (.t 55))⟩, ⟨(some 5), none, (.mov (.t 56))⟩]))))) (.ops [⟨(some 19), none, (.mov (.t 6))⟩, ⟨(some 20), none, (.bin .add (.t 19) (.c (.int .i64 1)))⟩, ⟨(some 6), none, (.mov (.t 20))⟩])))
def F_r08_Check : F := ⟨(.seq (.ops [⟨(some 4), none, (.mov (.c (.bool false)))⟩]) (.seq (.seq (.ops [⟨(some 9), none, (.mov (.t 0))⟩, ⟨(some 10), none, (.bin .lss (.t 9) (.c (.int .i64 1)))⟩, ⟨(some 11), none, (.mov (.t 10))⟩, ⟨(some 12), (some (11, false)), (.mov (.t 0))⟩, ⟨(some 13), (some (11, false)), (.bin .gtr (.t 12) (.c (.int .i64 64)))⟩, ⟨(some 14), none, (.pick (.t 11) (.c (.bool true)) (.t 13))⟩]) (.cond (.t 14) (.seq (.ops [⟨(some 4), none, (.mov (.c (.bool false)))⟩]) .ret) .skip)) (.seq (.ops [⟨(some 5), none, (.mov (.c (.int .i64 0)))⟩]) (.seq (.seq (.ops [⟨(some 6), none, (.mov (.c (.int .i64 0)))⟩]) (.block 0 (.loop F_r08_Check_L0))) (.seq (.ops [⟨(some 57), none, (.mov (.t 5))⟩, ⟨(some 58), none, (.mov (.t 0))⟩, ⟨(some 59), none, (.bin .eql (.t 57) (.t 58))⟩, ⟨(some 4), none, (.mov (.t 59))⟩]) .ret))))), 60, [(.tmp 4)]⟩
theorem F_r08_Check_ok : compF Try.prog (fun _ => true) 172 = some F_r08_Check := by kernel_rfl
@[simp] abbrev n_slices_ContainsFunc_Extent : FuncId := 139
def F_slices_ContainsFunc_Extent : F := ⟨(.seq (.ops [⟨(some 4), none, (.mov (.c (.bool false)))⟩]) (.seq (.ops [⟨(some 5), none, (.mov (.t 0))⟩, ⟨(some 6), none, (.mov (.t 1))⟩, ⟨(some 7), none, (.call 178 [(.t 5), (.t 6)])⟩, ⟨(some 8), none, (.bin .geq (.t 7) (.c (.int .i64 0)))⟩, ⟨(some 4), none, (.mov (.t 8))⟩]) .ret)), 9, [(.tmp 4)]⟩
theorem F_slices_ContainsFunc_Extent_ok : compF Try.prog (fun _ => true) 139 = some F_slices_ContainsFunc_Extent := by kernel_rfl
@[simp] abbrev n_slices_IndexFunc_Extent : FuncId := 178
def F_slices_IndexFunc_Extent_L0 : C := (.seq (.ops [⟨(some 9), none, (.bin .lss (.t 8) (.t 7))⟩]) (.seq (.cond (.t 9) .skip (.exit 0)) (.seq (.block 1 (.seq (.ops [⟨(some 10), none, (.mov (.t 8))⟩, ⟨(some 5), none, (.mov (.t 10))⟩]) (.seq (.ops [⟨(some 11), none, (.mov (.t 1))⟩, ⟨(some 12), none, (.mov (.t 0))⟩, ⟨(some 13), none, (.mov (.t 5))⟩, ⟨(some 14), none, (.ixs (.t 12) (.t 13) 5)⟩, ⟨(some 15), none, (.lde (.t 14) (some 5))⟩, ⟨(some 16), none, (.callv (.t 11) [(.t 15)])⟩]) (.cond (.t 16) (.seq (.ops [⟨(some 17), none, (.mov (.t 5))⟩, ⟨(some 4), none, (.mov (.t 17))⟩]) .ret) .skip)))) (.ops [⟨(some 18), none, (.bin .add (.t 8) (.c (.int .i64 1)))⟩, ⟨(some 8), none, (.mov (.t 18))⟩]))))
def F_slices_IndexFunc_Extent : F := ⟨(.seq (.ops [⟨(some 4), none, (.mov (.c (.int .i64 0)))⟩]) (.seq (.seq (.ops [⟨(some 6), none, (.mov (.t 0))⟩, ⟨(some 7), none, (.len (.t 6))⟩, ⟨(some 8), none, (.mov (.c (.int .i64 0)))⟩]) (.block 0 (.loop F_slices_IndexFunc_Extent_L0))) (.seq (.ops [⟨(some 4), none, (.mov (.c (.int .i64 (-1))))⟩]) .ret))), 19, [(.tmp 4)]⟩
theorem F_slices_IndexFunc_Extent_ok : compF Try.prog (fun _ => true) 178 = some F_slices_IndexFunc_Extent := by kernel_rfl
@[simp] abbrev n_state_within : FuncId := 93
def F_state_within : F := ⟨(.seq (.ops [⟨(some 6), none, (.mov (.c (.bool false)))⟩]) (.seq (.ops [⟨(some 7), none, (.mov (.t 0))⟩, ⟨(some 8), none, (.mov (.t 1))⟩, ⟨(some 9), none, (.bin .geq (.t 7) (.t 8))⟩, ⟨(some 10), none, (.mov (.t 9))⟩, ⟨(some 11), (some (10, true)), (.mov (.t 0))⟩, ⟨(some 12), (some (10, true)), (.mov (.t 2))⟩, ⟨(some 13), (some (10, true)), (.bin .leq (.t 11) (.t 12))⟩, ⟨(some 14), none, (.pick (.t 10) (.t 13) (.c (.bool false)))⟩, ⟨(some 6), none, (.mov (.t 14))⟩]) .ret)), 15, [(.tmp 6)]⟩
theorem F_state_within_ok : compF Try.prog (fun _ => true) 93 = some F_state_within := by kernel_rfl
@[simp] abbrev n_state_upto : FuncId := 92
def F_state_upto : F := ⟨(.seq (.ops [⟨(some 5), none, (.box (.t 2))⟩, ⟨(some 6), none, (.mov (.c (.bool false)))⟩]) (.seq (.ops [⟨(some 7), none, (.mov (.t 0))⟩, ⟨(some 8), none, (.mov (.t 1))⟩, ⟨(some 9), none, (.call 138 [(.t 7), (.t 8)])⟩, ⟨(some 10), none, (.mov (.t 9))⟩, ⟨(some 11), (some (10, true)), (.mov (.t 1))⟩, ⟨(some 12), (some (10, true)), (.mkf 140 [(.t 5)])⟩, ⟨(some 13), (some (10, true)), (.call 139 [(.t 11), (.t 12)])⟩, ⟨(some 14), (some (10, true)), (.un .not (.t 13))⟩, ⟨(some 15), none, (.pick (.t 10) (.t 14) (.c (.bool false)))⟩, ⟨(some 6), none, (.mov (.t 15))⟩]) .ret)), 16, [(.tmp 6)]⟩
theorem F_state_upto_ok : compF Try.prog (fun _ => true) 92 = some F_state_upto := by kernel_rfl
@[simp] abbrev n_state_upto_1 : FuncId := 140
def F_state_upto_1 : F := ⟨(.seq (.ops [⟨(some 2), none, (.box (.t 0))⟩, ⟨(some 3), none, (.mov (.c (.bool false)))⟩]) (.seq (.ops [⟨(some 4), none, (.fad (.t 2) 3)⟩, ⟨(some 5), none, (.ld (.t 4) none)⟩, ⟨(some 6), none, (.ld (.t 1) none)⟩, ⟨(some 7), none, (.bin .gtr (.t 5) (.t 6))⟩, ⟨(some 3), none, (.mov (.t 7))⟩]) .ret)), 8, [(.tmp 3)]⟩
theorem F_state_upto_1_ok : compF Try.prog (fun _ => true) 140 = some F_state_upto_1 := by kernel_rfl
@[simp] abbrev n_state_kept : FuncId := 94
def F_state_kept_L0 : C := (.seq (.ops [⟨(some 28), none, (.bin .lss (.t 27) (.t 26))⟩]) (.seq (.cond (.t 28) .skip (.exit 2)) (.seq (.block 3 (.seq (.ops [⟨(some 29), none, (.ixs (.t 25) (.t 27) 5)⟩, ⟨(some 30), none, (.lde (.t 29) (some 5))⟩, ⟨(some 10), none, (.alc [(.val (.int .i64 0)), (.val (.int .i64 0)), (.val (.int .i64 0)), (.val (.int .i64 0)), (.lit 1 [])])⟩, ⟨none, none, (.st (.t 10) 5 (.t 30))⟩]) (.seq (.ops [⟨(some 32), none, (.ld (.t 10) (some 5))⟩, ⟨(some 33), none, (.fad (.t 8) 0)⟩, ⟨(some 34), none, (.ld (.t 33) none)⟩, ⟨(some 35), none, (.fad (.t 8) 1)⟩, ⟨(some 36), none, (.ld (.t 35) none)⟩, ⟨(some 37), none, (.call 141 [(.t 32), (.t 34), (.t 36)])⟩, ⟨(some 31), none, (.mov (.t 37))⟩, ⟨(some 38), none, (.ext (.t 31) 0)⟩, ⟨(some 39), none, (.ext (.t 31) 1)⟩, ⟨(some 11), none, (.alc [(.val (.int .i64 0)), (.val (.int .i64 0)), (.val (.int .i64 0)), (.val (.int .i64 0)), (.lit 1 [])])⟩, ⟨none, none, (.st (.t 11) 5 (.t 38))⟩, ⟨(some 12), none, (.mov (.t 39))⟩]) (.seq (.seq (.ops [⟨(some 40), none, (.mov (.t 12))⟩, ⟨(some 41), none, (.un .not (.t 40))⟩]) (.cond (.t 41) (.exit 3) .skip)) (.seq (.ops [⟨(some 43), none, (.ld (.t 8) (some 5))⟩, ⟨(some 44), none, (.fad (.t 11) 0)⟩, ⟨(some 45), none, (.ld (.t 44) none)⟩, ⟨(some 46), none, (.fad (.t 11) 1)⟩, ⟨(some 47), none, (.ld (.t 46) none)⟩, ⟨(some 48), none, (.call 141 [(.t 43), (.t 45), (.t 47)])⟩, ⟨(some 42), none, (.mov (.t 48))⟩, ⟨(some 49), none, (.ext (.t 42) 0)⟩, ⟨(some 50), none, (.ext (.t 42) 1)⟩, ⟨(some 13), none, (.alc [(.val (.int .i64 0)), (.val (.int .i64 0)), (.val (.int .i64 0)), (.val (.int .i64 0)), (.lit 1 [])])⟩, ⟨none, none, (.st (.t 13) 5 (.t 49))⟩, ⟨(some 14), none, (.mov (.t 50))⟩]) (.seq (.ops [⟨(some 51), none, (.fad (.t 13) 2)⟩, ⟨(some 52), none, (.ld (.t 51) none)⟩, ⟨(some 53), none, (.fad (.t 11) 2)⟩, ⟨(some 54), none, (.ld (.t 53) none)⟩, ⟨(some 55), none, (.bin .neq (.t 52) (.t 54))⟩, ⟨(some 56), none, (.mov (.t 55))⟩, ⟨(some 57), (some (56, false)), (.fad (.t 13) 3)⟩, ⟨(some 58), (some (56, false)), (.ld (.t 57) none)⟩, ⟨(some 59), (some (56, false)), (.fad (.t 11) 3)⟩, ⟨(some 60), (some (56, false)), (.ld (.t 59) none)⟩, ⟨(some 61), (some (56, false)), (.bin .neq (.t 58) (.t 60))⟩, ⟨(some 62), none, (.pick (.t 56) (.c (.bool true)) (.t 61))⟩, ⟨(some 63), none, (.mov (.t 62))⟩, ⟨(some 64), (some (63, false)), (.fad (.t 13) 4)⟩, ⟨(some 65), (some (63, false)), (.ld (.t 64) none)⟩, ⟨(some 66), (some (63, false)), (.fad (.t 11) 4)⟩, ⟨(some 67), (some (63, false)), (.ld (.t 66) none)⟩, ⟨(some 68), (some (63, false)), (.call 130 [(.t 65), (.t 67)])⟩, ⟨(some 69), (some (63, false)), (.un .not (.t 68))⟩, ⟨(some 70), none, (.pick (.t 63) (.c (.bool true)) (.t 69))⟩]) (.cond (.t 70) (.seq (.ops [⟨(some 6), none, (.mov (.c (.bool false)))⟩]) .ret) .skip))))))) (.ops [⟨(some 71), none, (.bin .add (.t 27) (.c (.int .i64 1)))⟩, ⟨(some 27), none, (.mov (.t 71))⟩]))))
def F_state_kept_L1 : C := (.seq (.ops [⟨(some 18), none, (.bin .lss (.t 17) (.t 16))⟩]) (.seq (.cond (.t 18) .skip (.exit 0)) (.seq (.block 1 (.seq (.ops [⟨(some 19), none, (.ixs (.t 15) (.t 17) 5)⟩, ⟨(some 20), none, (.lde (.t 19) (some 5))⟩, ⟨(some 8), none, (.alc [(.val (.int .i64 0)), (.val (.int .i64 0)), (.val (.int .i64 0)), (.val (.int .i64 0)), (.lit 1 [])])⟩, ⟨none, none, (.st (.t 8) 5 (.t 20))⟩]) (.seq (.seq (.ops [⟨(some 21), none, (.fad (.t 8) 3)⟩, ⟨(some 22), none, (.ld (.t 21) none)⟩, ⟨(some 23), none, (.mov (.t 2))⟩, ⟨(some 24), none, (.bin .gtr (.t 22) (.t 23))⟩]) (.cond (.t 24) (.exit 1) .skip)) (.seq (.ops [⟨(some 25), none, (.mov (.t 0))⟩, ⟨(some 26), none, (.len (.t 25))⟩, ⟨(some 27), none, (.mov (.c (.int .i64 0)))⟩]) (.block 2 (.loop F_state_kept_L0)))))) (.ops [⟨(some 72), none, (.bin .add (.t 17) (.c (.int .i64 1)))⟩, ⟨(some 17), none, (.mov (.t 72))⟩]))))
def F_state_kept : F := ⟨(.seq (.ops [⟨(some 6), none, (.mov (.c (.bool false)))⟩]) (.seq (.seq (.ops [⟨(some 15), none, (.mov (.t 1))⟩, ⟨(some 16), none, (.len (.t 15))⟩, ⟨(some 17), none, (.mov (.c (.int .i64 0)))⟩]) (.block 0 (.loop F_state_kept_L1))) (.seq (.ops [⟨(some 6), none, (.mov (.c (.bool true)))⟩]) .ret))), 73, [(.tmp 6)]⟩
theorem F_state_kept_ok : compF Try.prog (fun _ => true) 94 = some F_state_kept := by kernel_rfl
@[simp] abbrev n_state_Check : FuncId := 34
def F_state_Check_L0 : C := (.seq (.ops [⟨(some 40), none, (.bin .lss (.t 39) (.t 38))⟩]) (.seq (.cond (.t 40) .skip (.exit 0)) (.seq (.block 1 (.seq (.ops [⟨(some 41), none, (.ixs (.t 37) (.t 39) 3)⟩, ⟨(some 42), none, (.lde (.t 41) (some 3))⟩, ⟨(some 6), none, (.alc [(.val (.int .i64 0)), (.val (.int .i64 0)), (.lit 5 [])])⟩, ⟨none, none, (.st (.t 6) 3 (.t 42))⟩]) (.seq (.ops [⟨(some 43), none, (.mov (.t 3))⟩, ⟨(some 44), none, (.mov (.t 43))⟩, ⟨(some 45), (some (44, true)), (.fad (.t 1) 0)⟩, ⟨(some 46), (some (44, true)), (.ld (.t 45) none)⟩, ⟨(some 47), (some (44, true)), (.fad (.t 6) 2)⟩, ⟨(some 48), (some (44, true)), (.ld (.t 47) none)⟩, ⟨(some 49), (some (44, true)), (.fad (.t 6) 1)⟩, ⟨(some 50), (some (44, true)), (.ld (.t 49) none)⟩, ⟨(some 51), (some (44, true)), (.call 92 [(.t 46), (.t 48), (.t 50)])⟩, ⟨(some 52), none, (.pick (.t 44) (.t 51) (.c (.bool false)))⟩, ⟨(some 53), none, (.mov (.t 52))⟩, ⟨(some 54), (some (53, true)), (.fad (.t 6) 0)⟩, ⟨(some 55), (some (53, true)), (.ld (.t 54) none)⟩, ⟨(some 56), (some (53, true)), (.fad (.t 4) 0)⟩, ⟨(some 57), (some (53, true)), (.ld (.t 56) none)⟩, ⟨(some 58), (some (53, true)), (.bin .gtr (.t 55) (.t 57))⟩, ⟨(some 59), none, (.pick (.t 53) (.t 58) (.c (.bool false)))⟩, ⟨(some 60), none, (.mov (.t 59))⟩, ⟨(some 61), (some (60, true)), (.fad (.t 6) 0)⟩, ⟨(some 62), (some (60, true)), (.ld (.t 61) none)⟩, ⟨(some 63), (some (60, true)), (.fad (.t 1) 4)⟩, ⟨(some 64), (some (60, true)), (.ld (.t 63) none)⟩, ⟨(some 65), (some (60, true)), (.bin .leq (.t 62) (.t 64))⟩, ⟨(some 66), none, (.pick (.t 60) (.t 65) (.c (.bool false)))⟩, ⟨(some 67), none, (.mov (.t 66))⟩, ⟨(some 68), (some (67, true)), (.fad (.t 6) 1)⟩, ⟨(some 69), (some (67, true)), (.ld (.t 68) none)⟩, ⟨(some 70), (some (67, true)), (.fad (.t 4) 1)⟩, ⟨(some 71), (some (67, true)), (.ld (.t 70) none)⟩, ⟨(some 72), (some (67, true)), (.bin .gtr (.t 69) (.t 71))⟩, ⟨(some 73), none, (.pick (.t 67) (.t 72) (.c (.bool false)))⟩, ⟨(some 74), none, (.mov (.t 73))⟩, ⟨(some 75), (some (74, true)), (.fad (.t 6) 1)⟩, ⟨(some 76), (some (74, true)), (.ld (.t 75) none)⟩, ⟨(some 77), (some (74, true)), (.fad (.t 1) 1)⟩, ⟨(some 78), (some (74, true)), (.ld (.t 77) none)⟩, ⟨(some 79), (some (74, true)), (.bin .lss (.t 76) (.t 78))⟩, ⟨(some 80), none, (.pick (.t 74) (.t 79) (.c (.bool false)))⟩, ⟨(some 81), none, (.mov (.t 80))⟩, ⟨(some 82), (some (81, true)), (.fad (.t 4) 2)⟩, ⟨(some 83), (some (81, true)), (.ld (.t 82) none)⟩, ⟨(some 84), (some (81, true)), (.fad (.t 6) 2)⟩, ⟨(some 85), (some (81, true)), (.ld (.t 84) none)⟩, ⟨(some 86), (some (81, true)), (.fad (.t 4) 1)⟩, ⟨(some 87), (some (81, true)), (.ld (.t 86) none)⟩, ⟨(some 88), (some (81, true)), (.call 94 [(.t 83), (.t 85), (.t 87)])⟩, ⟨(some 89), none, (.pick (.t 81) (.t 88) (.c (.bool false)))⟩, ⟨(some 3), none, (.mov (.t 89))⟩]) (.ops [⟨(some 90), none, (.ld (.t 6) (some 3))⟩, ⟨none, none, (.st (.t 4) 3 (.t 90))⟩])))) (.ops [⟨(some 91), none, (.bin .add (.t 39) (.c (.int .i64 1)))⟩, ⟨(some 39), none, (.mov (.t 91))⟩]))))
def F_state_Check : F := ⟨(.seq (.ops [⟨(some 1), none, (.box (.t 0))⟩, ⟨(some 2), none, (.mov (.c (.int .i64 0)))⟩]) (.seq (.ops [⟨(some 7), none, (.fad (.t 1) 0)⟩, ⟨(some 8), none, (.ld (.t 7) none)⟩, ⟨(some 9), none, (.fad (.t 1) 2)⟩, ⟨(some 10), none, (.ld (.t 9) none)⟩, ⟨(some 11), none, (.fad (.t 1) 1)⟩, ⟨(some 12), none, (.ld (.t 11) none)⟩, ⟨(some 13), none, (.call 92 [(.t 8), (.t 10), (.t 12)])⟩, ⟨(some 14), none, (.mov (.t 13))⟩, ⟨(some 15), (some (14, true)), (.fad (.t 1) 1)⟩, ⟨(some 16), (some (14, true)), (.ld (.t 15) none)⟩, ⟨(some 17), (some (14, true)), (.call 93 [(.t 16), (.c (.int .i64 1)), (.c (.int .i64 2147483647))])⟩, ⟨(some 18), none, (.pick (.t 14) (.t 17) (.c (.bool false)))⟩, ⟨(some 19), none, (.mov (.t 18))⟩, ⟨(some 20), (some (19, true)), (.fad (.t 1) 3)⟩, ⟨(some 21), (some (19, true)), (.ld (.t 20) none)⟩, ⟨(some 22), (some (19, true)), (.len (.t 21))⟩, ⟨(some 23), (some (19, true)), (.bin .leq (.t 22) (.c (.int .i64 4)))⟩, ⟨(some 24), none, (.pick (.t 19) (.t 23) (.c (.bool false)))⟩, ⟨(some 25), none, (.mov (.t 24))⟩, ⟨(some 26), (some (25, true)), (.fad (.t 1) 4)⟩, ⟨(some 27), (some (25, true)), (.ld (.t 26) none)⟩, ⟨(some 28), (some (25, true)), (.call 93 [(.t 27), (.c (.int .i64 0)), (.c (.int .i64 2147483647))])⟩, ⟨(some 29), none, (.pick (.t 25) (.t 28) (.c (.bool false)))⟩, ⟨(some 30), none, (.mov (.t 29))⟩, ⟨(some 31), (some (30, true)), (.fad (.t 1) 5)⟩, ⟨(some 32), (some (30, true)), (.ld (.t 31) none)⟩, ⟨(some 33), (some (30, true)), (.len (.t 32))⟩, ⟨(some 34), (some (30, true)), (.bin .leq (.t 33) (.c (.int .i64 4000)))⟩, ⟨(some 35), none, (.pick (.t 30) (.t 34) (.c (.bool false)))⟩, ⟨(some 3), none, (.mov (.t 35))⟩]) (.seq (.ops [⟨(some 4), none, (.alc [(.val (.int .i64 0)), (.val (.int .i64 0)), (.lit 5 [])])⟩]) (.seq (.seq (.ops [⟨(some 36), none, (.fad (.t 1) 3)⟩, ⟨(some 37), none, (.ld (.t 36) none)⟩, ⟨(some 38), none, (.len (.t 37))⟩, ⟨(some 39), none, (.mov (.c (.int .i64 0)))⟩]) (.block 0 (.loop F_state_Check_L0))) (.seq (.seq (.ops [⟨(some 92), none, (.mov (.t 3))⟩, ⟨(some 93), none, (.un .not (.t 92))⟩, ⟨(some 94), none, (.mov (.t 93))⟩, ⟨(some 95), (some (94, false)), (.fad (.t 4) 2)⟩, ⟨(some 96), (some (94, false)), (.ld (.t 95) none)⟩, ⟨(some 97), (some (94, false)), (.fad (.t 1) 2)⟩, ⟨(some 98), (some (94, false)), (.ld (.t 97) none)⟩, ⟨(some 99), (some (94, false)), (.fad (.t 4) 1)⟩, ⟨(some 100), (some (94, false)), (.ld (.t 99) none)⟩, ⟨(some 101), (some (94, false)), (.call 94 [(.t 96), (.t 98), (.t 100)])⟩, ⟨(some 102), (some (94, false)), (.un .not (.t 101))⟩, ⟨(some 103), none, (.pick (.t 94) (.c (.bool true)) (.t 102))⟩]) (.cond (.t 103) (.seq (.ops [⟨(some 2), none, (.mov (.c (.int .i64 110)))⟩]) .ret) .skip)) (.seq (.ops [⟨(some 2), none, (.mov (.c (.int .i64 0)))⟩]) .ret)))))), 104, [(.tmp 2)]⟩
theorem F_state_Check_ok : compF Try.prog (fun _ => true) 34 = some F_state_Check := by kernel_rfl
@[simp] abbrev n_state_New : FuncId := 64
def F_state_New : F := ⟨(.seq (.ops [⟨(some 2), none, (.alc [(.val (.int .i64 0)), (.val (.int .i64 0)), (.lit 5 []), (.lit 3 []), (.val (.int .i64 0)), (.lit 1 [])])⟩, ⟨(some 3), none, (.mov (.c (.int .i64 0)))⟩]) (.seq (.ops [⟨(some 7), none, (.mov (.t 0))⟩, ⟨(some 8), none, (.call 118 [(.t 7)])⟩, ⟨(some 6), none, (.mov (.t 8))⟩, ⟨(some 9), none, (.ext (.t 6) 0)⟩, ⟨(some 10), none, (.ext (.t 6) 1)⟩, ⟨(some 4), none, (.mov (.t 9))⟩, ⟨(some 5), none, (.mov (.t 10))⟩]) (.seq (.seq (.ops [⟨(some 11), none, (.mov (.t 5))⟩, ⟨(some 12), none, (.bin .neq (.t 11) (.c (.int .i64 0)))⟩]) (.cond (.t 12) (.seq (.ops [⟨(some 13), none, (.bld [(.val (.int .i64 0)), (.val (.int .i64 0)), (.lit 5 []), (.lit 3 []), (.val (.int .i64 0)), (.lit 1 [])] [])⟩, ⟨(some 14), none, (.mov (.t 5))⟩, ⟨none, none, (.st (.t 2) 6 (.t 13))⟩, ⟨(some 3), none, (.mov (.t 14))⟩]) .ret) .skip)) (.seq (.ops [⟨(some 15), none, (.mov (.t 0))⟩, ⟨(some 16), none, (.mov (.t 4))⟩, ⟨(some 17), none, (.bld [(.val (.int .i64 0)), (.val (.int .i64 0)), (.lit 5 []), (.lit 3 []), (.val (.int .i64 0)), (.lit 1 [])] [(0, (1, (.t 15))), (1, (1, (.c (.int .i64 1)))), (2, (1, (.t 16)))])⟩, ⟨none, none, (.st (.t 2) 6 (.t 17))⟩, ⟨(some 3), none, (.mov (.c (.int .i64 0)))⟩]) .ret)))), 18, [(.cell 2 (some 6)), (.tmp 3)]⟩
theorem F_state_New_ok : compF Try.prog (fun _ => true) 64 = some F_state_New := by kernel_rfl
@[simp] abbrev n_r11_upto : FuncId := 123
def F_r11_upto_L0 : C := (.seq (.seq (.ops [⟨(some 12), none, (.mov (.t 8))⟩, ⟨(some 13), none, (.mov (.t 1))⟩, ⟨(some 14), none, (.len (.t 13))⟩, ⟨(some 15), none, (.bin .lss (.t 12) (.t 14))⟩]) (.cond (.t 15) .skip (.exit 0))) (.seq (.block 1 (.seq (.ops [⟨(some 18), none, (.mov (.t 1))⟩, ⟨(some 19), none, (.mov (.t 8))⟩, ⟨(some 20), none, (.ixs (.t 18) (.t 19) 5)⟩, ⟨(some 21), none, (.fad (.t 20) 3)⟩, ⟨(some 22), none, (.lde (.t 21) none)⟩, ⟨(some 23), none, (.mov (.t 2))⟩, ⟨(some 24), none, (.bin .gtr (.t 22) (.t 23))⟩]) (.cond (.t 24) (.seq (.ops [⟨(some 6), none, (.mov (.c (.bool false)))⟩]) .ret) .skip))) (.ops [⟨(some 16), none, (.mov (.t 8))⟩, ⟨(some 17), none, (.bin .add (.t 16) (.c (.int .i64 1)))⟩, ⟨(some 8), none, (.mov (.t 17))⟩])))
def F_r11_upto : F := ⟨(.seq (.ops [⟨(some 6), none, (.mov (.c (.bool false)))⟩]) (.seq (.ops [⟨(some 9), none, (.mov (.t 0))⟩, ⟨(some 10), none, (.mov (.t 1))⟩, ⟨(some 11), none, (.call 172 [(.t 9), (.t 10)])⟩, ⟨(some 7), none, (.mov (.t 11))⟩]) (.seq (.seq (.ops [⟨(some 8), none, (.mov (.c (.int .i64 0)))⟩]) (.block 0 (.loop F_r11_upto_L0))) (.seq (.ops [⟨(some 25), none, (.mov (.t 7))⟩, ⟨(some 6), none, (.mov (.t 25))⟩]) .ret)))), 26, [(.tmp 6)]⟩
theorem F_r11_upto_ok : compF Try.prog (fun _ => true) 123 = some F_r11_upto := by kernel_rfl
@[simp] abbrev n_r11_kept : FuncId := 124
def F_r11_kept_L0 : C := (.seq (.seq (.ops [⟨(some 18), none, (.mov (.t 11))⟩, ⟨(some 19), none, (.mov (.t 0))⟩, ⟨(some 20), none, (.bin .lss (.t 18) (.t 19))⟩]) (.cond (.t 20) .skip (.exit 0))) (.seq (.block 1 (.seq (.dops false [] [⟨(some 23), none, (.mov (.t 10))⟩, ⟨(some 24), none, (.mov (.t 11))⟩, ⟨(some 25), none, (.ixs (.t 23) (.t 24) 34)⟩, ⟨(some 26), none, (.fad (.t 25) 1)⟩, ⟨(some 27), none, (.lde (.t 26) none)⟩, ⟨(some 28), none, (.mov (.t 3))⟩, ⟨(some 29), none, (.bin .leq (.t 27) (.t 28))⟩, ⟨(some 30), none, (.mov (.t 29))⟩, ⟨(some 31), (some (30, true)), (.mov (.t 9))⟩, ⟨(some 32), (some (30, true)), (.mov (.t 11))⟩, ⟨(some 33), (some (30, true)), (.ixs (.t 31) (.t 32) 34)⟩, ⟨(some 34), (some (30, true)), (.lde (.t 33) (some 34))⟩, ⟨(some 35), (some (30, true)), (.mov (.t 10))⟩, ⟨(some 36), (some (30, true)), (.mov (.t 11))⟩, ⟨(some 37), (some (30, true)), (.ixs (.t 35) (.t 36) 34)⟩, ⟨(some 38), (some (30, true)), (.lde (.t 37) (some 34))⟩, ⟨(some 39), (some (30, true)), (.mem (.aeq true [.i64, .i64, .u8, .u8, .u8, .u8, .u8, .u8, .u8, .u8, .u8, .u8, .u8, .u8, .u8, .u8, .u8, .u8, .u8, .u8, .u8, .u8, .u8, .u8, .u8, .u8, .u8, .u8, .u8, .u8, .u8, .u8, .u8, .u8]) [(.t 34), (.t 38)])⟩, ⟨(some 40), none, (.pick (.t 30) (.t 39) (.c (.bool false)))⟩]) (.cond (.t 40) (.seq (.ops [⟨(some 8), none, (.mov (.c (.bool false)))⟩]) .ret) .skip))) (.ops [⟨(some 21), none, (.mov (.t 11))⟩, ⟨(some 22), none, (.bin .add (.t 21) (.c (.int .i64 1)))⟩, ⟨(some 11), none, (.mov (.t 22))⟩])))
def F_r11_kept : F := ⟨(.seq (.ops [⟨(some 8), none, (.mov (.c (.bool false)))⟩]) (.seq (.ops [⟨(some 12), none, (.mov (.t 0))⟩, ⟨(some 13), none, (.mov (.t 1))⟩, ⟨(some 14), none, (.call 173 [(.t 12), (.t 13)])⟩, ⟨(some 9), none, (.mov (.t 14))⟩]) (.seq (.ops [⟨(some 15), none, (.mov (.t 0))⟩, ⟨(some 16), none, (.mov (.t 2))⟩, ⟨(some 17), none, (.call 173 [(.t 15), (.t 16)])⟩, ⟨(some 10), none, (.mov (.t 17))⟩]) (.seq (.seq (.ops [⟨(some 11), none, (.mov (.c (.int .i64 0)))⟩]) (.block 0 (.loop F_r11_kept_L0))) (.seq (.ops [⟨(some 8), none, (.mov (.c (.bool true)))⟩]) .ret))))), 41, [(.tmp 8)]⟩
theorem F_r11_kept_ok : compF Try.prog (fun _ => true) 124 = some F_r11_kept := by kernel_rfl
@[simp] abbrev n_r11_Check : FuncId := 72
def F_r11_Check_L0 : C := (.seq (.seq (.ops [⟨(some 52), none, (.mov (.t 6))⟩, ⟨(some 53), none, (.fad (.t 1) 3)⟩, ⟨(some 54), none, (.ld (.t 53) none)⟩, ⟨(some 55), none, (.len (.t 54))⟩, ⟨(some 56), none, (.bin .lss (.t 52) (.t 55))⟩]) (.cond (.t 56) .skip (.exit 0))) (.seq (.block 1 (.seq (.ops [⟨(some 59), none, (.fad (.t 1) 3)⟩, ⟨(some 60), none, (.ld (.t 59) none)⟩, ⟨(some 61), none, (.mov (.t 6))⟩, ⟨(some 62), none, (.ixs (.t 60) (.t 61) 3)⟩, ⟨(some 63), none, (.lde (.t 62) (some 3))⟩, ⟨(some 7), none, (.alc [(.val (.int .i64 0)), (.val (.int .i64 0)), (.lit 5 [])])⟩, ⟨none, none, (.st (.t 7) 3 (.t 63))⟩]) (.seq (.ops [⟨(some 64), none, (.fad (.t 1) 0)⟩, ⟨(some 65), none, (.ld (.t 64) none)⟩, ⟨(some 66), none, (.fad (.t 7) 2)⟩, ⟨(some 67), none, (.ld (.t 66) none)⟩, ⟨(some 68), none, (.fad (.t 7) 1)⟩, ⟨(some 69), none, (.ld (.t 68) none)⟩, ⟨(some 70), none, (.call 123 [(.t 65), (.t 67), (.t 69)])⟩, ⟨(some 8), none, (.mov (.t 70))⟩]) (.seq (.seq (.ops [⟨(some 71), none, (.mov (.t 8))⟩, ⟨(some 72), none, (.un .not (.t 71))⟩, ⟨(some 73), none, (.mov (.t 72))⟩, ⟨(some 74), (some (73, false)), (.fad (.t 7) 0)⟩, ⟨(some 75), (some (73, false)), (.ld (.t 74) none)⟩, ⟨(some 76), (some (73, false)), (.mov (.t 4))⟩, ⟨(some 77), (some (73, false)), (.bin .leq (.t 75) (.t 76))⟩, ⟨(some 78), none, (.pick (.t 73) (.c (.bool true)) (.t 77))⟩, ⟨(some 79), none, (.mov (.t 78))⟩, ⟨(some 80), (some (79, false)), (.fad (.t 7) 0)⟩, ⟨(some 81), (some (79, false)), (.ld (.t 80) none)⟩, ⟨(some 82), (some (79, false)), (.fad (.t 1) 4)⟩, ⟨(some 83), (some (79, false)), (.ld (.t 82) none)⟩, ⟨(some 84), (some (79, false)), (.bin .gtr (.t 81) (.t 83))⟩, ⟨(some 85), none, (.pick (.t 79) (.c (.bool true)) (.t 84))⟩, ⟨(some 86), none, (.mov (.t 85))⟩, ⟨(some 87), (some (86, false)), (.fad (.t 7) 1)⟩, ⟨(some 88), (some (86, false)), (.ld (.t 87) none)⟩, ⟨(some 89), (some (86, false)), (.mov (.t 5))⟩, ⟨(some 90), (some (86, false)), (.bin .leq (.t 88) (.t 89))⟩, ⟨(some 91), none, (.pick (.t 86) (.c (.bool true)) (.t 90))⟩, ⟨(some 92), none, (.mov (.t 91))⟩, ⟨(some 93), (some (92, false)), (.fad (.t 7) 1)⟩, ⟨(some 94), (some (92, false)), (.ld (.t 93) none)⟩, ⟨(some 95), (some (92, false)), (.fad (.t 1) 1)⟩, ⟨(some 96), (some (92, false)), (.ld (.t 95) none)⟩, ⟨(some 97), (some (92, false)), (.bin .geq (.t 94) (.t 96))⟩, ⟨(some 98), none, (.pick (.t 92) (.c (.bool true)) (.t 97))⟩]) (.cond (.t 98) (.seq (.ops [⟨(some 2), none, (.mov (.c (.int .i64 110)))⟩]) .ret) .skip)) (.seq (.seq (.ops [⟨(some 99), none, (.mov (.t 6))⟩, ⟨(some 100), none, (.bin .gtr (.t 99) (.c (.int .i64 0)))⟩]) (.cond (.t 100) (.seq (.dops false [] [⟨(some 101), none, (.fad (.t 1) 0)⟩, ⟨(some 102), none, (.ld (.t 101) none)⟩, ⟨(some 103), none, (.fad (.t 1) 3)⟩, ⟨(some 104), none, (.ld (.t 103) none)⟩, ⟨(some 105), none, (.mov (.t 6))⟩, ⟨(some 106), none, (.bin .sub (.t 105) (.c (.int .i64 1)))⟩, ⟨(some 107), none, (.ixs (.t 104) (.t 106) 3)⟩, ⟨(some 108), none, (.fad (.t 107) 2)⟩, ⟨(some 109), none, (.lde (.t 108) none)⟩, ⟨(some 110), none, (.fad (.t 7) 2)⟩, ⟨(some 111), none, (.ld (.t 110) none)⟩, ⟨(some 112), none, (.mov (.t 5))⟩, ⟨(some 113), none, (.call 124 [(.t 102), (.t 109), (.t 111), (.t 112)])⟩, ⟨(some 9), none, (.mov (.t 113))⟩]) (.seq (.ops [⟨(some 114), none, (.mov (.t 9))⟩, ⟨(some 115), none, (.un .not (.t 114))⟩]) (.cond (.t 115) (.seq (.ops [⟨(some 2), none, (.mov (.c (.int .i64 110)))⟩]) .ret) .skip))) .skip)) (.seq (.ops [⟨(some 116), none, (.fad (.t 7) 0)⟩, ⟨(some 117), none, (.ld (.t 116) none)⟩, ⟨(some 4), none, (.mov (.t 117))⟩]) (.ops [⟨(some 118), none, (.fad (.t 7) 1)⟩, ⟨(some 119), none, (.ld (.t 118) none)⟩, ⟨(some 5), none, (.mov (.t 119))⟩]))))))) (.ops [⟨(some 57), none, (.mov (.t 6))⟩, ⟨(some 58), none, (.bin .add (.t 57) (.c (.int .i64 1)))⟩, ⟨(some 6), none, (.mov (.t 58))⟩])))
def F_r11_Check : F := ⟨(.seq (.ops [⟨(some 1), none, (.box (.t 0))⟩, ⟨(some 2), none, (.mov (.c (.int .i64 0)))⟩]) (.seq (.ops [⟨(some 11), none, (.fad (.t 1) 0)⟩, ⟨(some 12), none, (.ld (.t 11) none)⟩, ⟨(some 13), none, (.fad (.t 1) 2)⟩, ⟨(some 14), none, (.ld (.t 13) none)⟩, ⟨(some 15), none, (.fad (.t 1) 1)⟩, ⟨(some 16), none, (.ld (.t 15) none)⟩, ⟨(some 17), none, (.call 123 [(.t 12), (.t 14), (.t 16)])⟩, ⟨(some 3), none, (.mov (.t 17))⟩]) (.seq (.seq (.ops [⟨(some 18), none, (.mov (.t 3))⟩, ⟨(some 19), none, (.un .not (.t 18))⟩, ⟨(some 20), none, (.mov (.t 19))⟩, ⟨(some 21), (some (20, false)), (.fad (.t 1) 1)⟩, ⟨(some 22), (some (20, false)), (.ld (.t 21) none)⟩, ⟨(some 23), (some (20, false)), (.bin .lss (.t 22) (.c (.int .i64 1)))⟩, ⟨(some 24), none, (.pick (.t 20) (.c (.bool true)) (.t 23))⟩, ⟨(some 25), none, (.mov (.t 24))⟩, ⟨(some 26), (some (25, false)), (.fad (.t 1) 1)⟩, ⟨(some 27), (some (25, false)), (.ld (.t 26) none)⟩, ⟨(some 28), (some (25, false)), (.bin .geq (.t 27) (.c (.int .i64 2147483648)))⟩, ⟨(some 29), none, (.pick (.t 25) (.c (.bool true)) (.t 28))⟩, ⟨(some 30), none, (.mov (.t 29))⟩, ⟨(some 31), (some (30, false)), (.fad (.t 1) 3)⟩, ⟨(some 32), (some (30, false)), (.ld (.t 31) none)⟩, ⟨(some 33), (some (30, false)), (.len (.t 32))⟩, ⟨(some 34), (some (30, false)), (.bin .gtr (.t 33) (.c (.int .i64 4)))⟩, ⟨(some 35), none, (.pick (.t 30) (.c (.bool true)) (.t 34))⟩, ⟨(some 36), none, (.mov (.t 35))⟩, ⟨(some 37), (some (36, false)), (.fad (.t 1) 4)⟩, ⟨(some 38), (some (36, false)), (.ld (.t 37) none)⟩, ⟨(some 39), (some (36, false)), (.bin .lss (.t 38) (.c (.int .i64 0)))⟩, ⟨(some 40), none, (.pick (.t 36) (.c (.bool true)) (.t 39))⟩, ⟨(some 41), none, (.mov (.t 40))⟩, ⟨(some 42), (some (41, false)), (.fad (.t 1) 4)⟩, ⟨(some 43), (some (41, false)), (.ld (.t 42) none)⟩, ⟨(some 44), (some (41, false)), (.bin .geq (.t 43) (.c (.int .i64 2147483648)))⟩, ⟨(some 45), none, (.pick (.t 41) (.c (.bool true)) (.t 44))⟩, ⟨(some 46), none, (.mov (.t 45))⟩, ⟨(some 47), (some (46, false)), (.fad (.t 1) 5)⟩, ⟨(some 48), (some (46, false)), (.ld (.t 47) none)⟩, ⟨(some 49), (some (46, false)), (.len (.t 48))⟩, ⟨(some 50), (some (46, false)), (.bin .gtr (.t 49) (.c (.int .i64 4000)))⟩, ⟨(some 51), none, (.pick (.t 46) (.c (.bool true)) (.t 50))⟩]) (.cond (.t 51) (.seq (.ops [⟨(some 2), none, (.mov (.c (.int .i64 110)))⟩]) .ret) .skip)) (.seq (.ops [⟨(some 4), none, (.mov (.c (.int .i64 0)))⟩]) (.seq (.ops [⟨(some 5), none, (.mov (.c (.int .i64 0)))⟩]) (.seq (.seq (.ops [⟨(some 6), none, (.mov (.c (.int .i64 0)))⟩]) (.block 0 (.loop F_r11_Check_L0))) (.seq (.seq (.ops [⟨(some 120), none, (.fad (.t 1) 3)⟩, ⟨(some 121), none, (.ld (.t 120) none)⟩, ⟨(some 122), none, (.len (.t 121))⟩, ⟨(some 123), none, (.bin .gtr (.t 122) (.c (.int .i64 0)))⟩]) (.cond (.t 123) (.seq (.dops false [] [⟨(some 124), none, (.fad (.t 1) 0)⟩, ⟨(some 125), none, (.ld (.t 124) none)⟩, ⟨(some 126), none, (.fad (.t 1) 3)⟩, ⟨(some 127), none, (.ld (.t 126) none)⟩, ⟨(some 128), none, (.fad (.t 1) 3)⟩, ⟨(some 129), none, (.ld (.t 128) none)⟩, ⟨(some 130), none, (.len (.t 129))⟩, ⟨(some 131), none, (.bin .sub (.t 130) (.c (.int .i64 1)))⟩, ⟨(some 132), none, (.ixs (.t 127) (.t 131) 3)⟩, ⟨(some 133), none, (.fad (.t 132) 2)⟩, ⟨(some 134), none, (.lde (.t 133) none)⟩, ⟨(some 135), none, (.fad (.t 1) 2)⟩, ⟨(some 136), none, (.ld (.t 135) none)⟩, ⟨(some 137), none, (.mov (.t 5))⟩, ⟨(some 138), none, (.call 124 [(.t 125), (.t 134), (.t 136), (.t 137)])⟩, ⟨(some 10), none, (.mov (.t 138))⟩]) (.seq (.ops [⟨(some 139), none, (.mov (.t 10))⟩, ⟨(some 140), none, (.un .not (.t 139))⟩]) (.cond (.t 140) (.seq (.ops [⟨(some 2), none, (.mov (.c (.int .i64 110)))⟩]) .ret) .skip))) .skip)) (.seq (.ops [⟨(some 2), none, (.mov (.c (.int .i64 0)))⟩]) .ret)))))))), 141, [(.tmp 2)]⟩
theorem F_r11_Check_ok : compF Try.prog (fun _ => true) 72 = some F_r11_Check := by kernel_rfl
@[simp] abbrev n_r11_Points : FuncId := 88
def F_r11_Points : F := ⟨(.seq (.ops [⟨(some 2), none, (.box (.t 0))⟩, ⟨(some 3), none, (.box (.t 1))⟩, ⟨(some 4), none, (.mov (.c (.bool false)))⟩]) (.seq (.ops [⟨(some 6), none, (.fad (.t 2) 2)⟩, ⟨(some 7), none, (.ld (.t 6) none)⟩, ⟨(some 8), none, (.fad (.t 3) 2)⟩, ⟨(some 9), none, (.ld (.t 8) none)⟩, ⟨(some 10), none, (.call 87 [(.t 7), (.t 9)])⟩, ⟨(some 5), none, (.mov (.t 10))⟩]) (.seq (.ops [⟨(some 11), none, (.fad (.t 2) 0)⟩, ⟨(some 12), none, (.ld (.t 11) none)⟩, ⟨(some 13), none, (.fad (.t 3) 0)⟩, ⟨(some 14), none, (.ld (.t 13) none)⟩, ⟨(some 15), none, (.bin .eql (.t 12) (.t 14))⟩, ⟨(some 16), none, (.mov (.t 15))⟩, ⟨(some 17), (some (16, true)), (.fad (.t 2) 1)⟩, ⟨(some 18), (some (16, true)), (.ld (.t 17) none)⟩, ⟨(some 19), (some (16, true)), (.fad (.t 3) 1)⟩, ⟨(some 20), (some (16, true)), (.ld (.t 19) none)⟩, ⟨(some 21), (some (16, true)), (.bin .eql (.t 18) (.t 20))⟩, ⟨(some 22), none, (.pick (.t 16) (.t 21) (.c (.bool false)))⟩, ⟨(some 23), none, (.mov (.t 22))⟩, ⟨(some 24), (some (23, true)), (.mov (.t 5))⟩, ⟨(some 25), none, (.pick (.t 23) (.t 24) (.c (.bool false)))⟩, ⟨(some 4), none, (.mov (.t 25))⟩]) .ret))), 26, [(.tmp 4)]⟩
theorem F_r11_Points_ok : compF Try.prog (fun _ => true) 88 = some F_r11_Points := by kernel_rfl
@[simp] abbrev n_r11_Same : FuncId := 31
def F_r11_Same_L0 : C := (.seq (.seq (.ops [⟨(some 54), none, (.mov (.t 6))⟩, ⟨(some 55), none, (.fad (.t 2) 3)⟩, ⟨(some 56), none, (.ld (.t 55) none)⟩, ⟨(some 57), none, (.len (.t 56))⟩, ⟨(some 58), none, (.bin .lss (.t 54) (.t 57))⟩]) (.cond (.t 58) .skip (.exit 0))) (.seq (.block 1 (.seq (.dops false [] [⟨(some 61), none, (.fad (.t 2) 3)⟩, ⟨(some 62), none, (.ld (.t 61) none)⟩, ⟨(some 63), none, (.mov (.t 6))⟩, ⟨(some 64), none, (.ixs (.t 62) (.t 63) 3)⟩, ⟨(some 65), none, (.lde (.t 64) (some 3))⟩, ⟨(some 66), none, (.fad (.t 3) 3)⟩, ⟨(some 67), none, (.ld (.t 66) none)⟩, ⟨(some 68), none, (.mov (.t 6))⟩, ⟨(some 69), none, (.ixs (.t 67) (.t 68) 3)⟩, ⟨(some 70), none, (.lde (.t 69) (some 3))⟩, ⟨(some 71), none, (.call 88 [(.t 65), (.t 70)])⟩, ⟨(some 7), none, (.mov (.t 71))⟩]) (.seq (.ops [⟨(some 72), none, (.mov (.t 7))⟩, ⟨(some 73), none, (.un .not (.t 72))⟩]) (.cond (.t 73) (.seq (.ops [⟨(some 4), none, (.mov (.c (.bool false)))⟩]) .ret) .skip)))) (.ops [⟨(some 59), none, (.mov (.t 6))⟩, ⟨(some 60), none, (.bin .add (.t 59) (.c (.int .i64 1)))⟩, ⟨(some 6), none, (.mov (.t 60))⟩])))
def F_r11_Same : F := ⟨(.seq (.ops [⟨(some 2), none, (.box (.t 0))⟩, ⟨(some 3), none, (.box (.t 1))⟩, ⟨(some 4), none, (.mov (.c (.bool false)))⟩]) (.seq (.ops [⟨(some 8), none, (.fad (.t 2) 2)⟩, ⟨(some 9), none, (.ld (.t 8) none)⟩, ⟨(some 10), none, (.fad (.t 3) 2)⟩, ⟨(some 11), none, (.ld (.t 10) none)⟩, ⟨(some 12), none, (.call 87 [(.t 9), (.t 11)])⟩, ⟨(some 5), none, (.mov (.t 12))⟩]) (.seq (.seq (.ops [⟨(some 13), none, (.mov (.t 5))⟩, ⟨(some 14), none, (.un .not (.t 13))⟩, ⟨(some 15), none, (.mov (.t 14))⟩, ⟨(some 16), (some (15, false)), (.fad (.t 2) 0)⟩, ⟨(some 17), (some (15, false)), (.ld (.t 16) none)⟩, ⟨(some 18), (some (15, false)), (.fad (.t 3) 0)⟩, ⟨(some 19), (some (15, false)), (.ld (.t 18) none)⟩, ⟨(some 20), (some (15, false)), (.bin .neq (.t 17) (.t 19))⟩, ⟨(some 21), none, (.pick (.t 15) (.c (.bool true)) (.t 20))⟩, ⟨(some 22), none, (.mov (.t 21))⟩, ⟨(some 23), (some (22, false)), (.fad (.t 2) 1)⟩, ⟨(some 24), (some (22, false)), (.ld (.t 23) none)⟩, ⟨(some 25), (some (22, false)), (.fad (.t 3) 1)⟩, ⟨(some 26), (some (22, false)), (.ld (.t 25) none)⟩, ⟨(some 27), (some (22, false)), (.bin .neq (.t 24) (.t 26))⟩, ⟨(some 28), none, (.pick (.t 22) (.c (.bool true)) (.t 27))⟩, ⟨(some 29), none, (.mov (.t 28))⟩, ⟨(some 30), (some (29, false)), (.fad (.t 2) 4)⟩, ⟨(some 31), (some (29, false)), (.ld (.t 30) none)⟩, ⟨(some 32), (some (29, false)), (.fad (.t 3) 4)⟩, ⟨(some 33), (some (29, false)), (.ld (.t 32) none)⟩, ⟨(some 34), (some (29, false)), (.bin .neq (.t 31) (.t 33))⟩, ⟨(some 35), none, (.pick (.t 29) (.c (.bool true)) (.t 34))⟩, ⟨(some 36), none, (.mov (.t 35))⟩, ⟨(some 37), (some (36, false)), (.fad (.t 2) 5)⟩, ⟨(some 38), (some (36, false)), (.ld (.t 37) none)⟩, ⟨(some 39), (some (36, false)), (.b2s (.t 38))⟩, ⟨(some 40), (some (36, false)), (.fad (.t 3) 5)⟩, ⟨(some 41), (some (36, false)), (.ld (.t 40) none)⟩, ⟨(some 42), (some (36, false)), (.b2s (.t 41))⟩, ⟨(some 43), (some (36, false)), (.bin .neq (.t 39) (.t 42))⟩, ⟨(some 44), none, (.pick (.t 36) (.c (.bool true)) (.t 43))⟩, ⟨(some 45), none, (.mov (.t 44))⟩, ⟨(some 46), (some (45, false)), (.fad (.t 2) 3)⟩, ⟨(some 47), (some (45, false)), (.ld (.t 46) none)⟩, ⟨(some 48), (some (45, false)), (.len (.t 47))⟩, ⟨(some 49), (some (45, false)), (.fad (.t 3) 3)⟩, ⟨(some 50), (some (45, false)), (.ld (.t 49) none)⟩, ⟨(some 51), (some (45, false)), (.len (.t 50))⟩, ⟨(some 52), (some (45, false)), (.bin .neq (.t 48) (.t 51))⟩, ⟨(some 53), none, (.pick (.t 45) (.c (.bool true)) (.t 52))⟩]) (.cond (.t 53) (.seq (.ops [⟨(some 4), none, (.mov (.c (.bool false)))⟩]) .ret) .skip)) (.seq (.seq (.ops [⟨(some 6), none, (.mov (.c (.int .i64 0)))⟩]) (.block 0 (.loop F_r11_Same_L0))) (.seq (.ops [⟨(some 4), none, (.mov (.c (.bool true)))⟩]) .ret))))), 74, [(.tmp 4)]⟩
theorem F_r11_Same_ok : compF Try.prog (fun _ => true) 31 = some F_r11_Same := by kernel_rfl
@[simp] abbrev n_r05_Same : FuncId := 55
def F_r05_Same : F := ⟨(.seq (.ops [⟨(some 2), none, (.box (.t 0))⟩, ⟨(some 3), none, (.box (.t 1))⟩, ⟨(some 4), none, (.mov (.c (.bool false)))⟩]) (.seq (.ops [⟨(some 5), none, (.fad (.t 2) 0)⟩, ⟨(some 6), none, (.ld (.t 5) none)⟩, ⟨(some 7), none, (.fad (.t 3) 0)⟩, ⟨(some 8), none, (.ld (.t 7) none)⟩, ⟨(some 9), none, (.bin .eql (.t 6) (.t 8))⟩, ⟨(some 10), none, (.mov (.t 9))⟩, ⟨(some 11), (some (10, true)), (.fad (.t 2) 1)⟩, ⟨(some 12), (some (10, true)), (.ld (.t 11) none)⟩, ⟨(some 13), (some (10, true)), (.fad (.t 3) 1)⟩, ⟨(some 14), (some (10, true)), (.ld (.t 13) none)⟩, ⟨(some 15), (some (10, true)), (.bin .eql (.t 12) (.t 14))⟩, ⟨(some 16), none, (.pick (.t 10) (.t 15) (.c (.bool false)))⟩, ⟨(some 17), none, (.mov (.t 16))⟩, ⟨(some 18), (some (17, true)), (.fad (.t 2) 2)⟩, ⟨(some 19), (some (17, true)), (.ld (.t 18) none)⟩, ⟨(some 20), (some (17, true)), (.b2s (.t 19))⟩, ⟨(some 21), (some (17, true)), (.fad (.t 3) 2)⟩, ⟨(some 22), (some (17, true)), (.ld (.t 21) none)⟩, ⟨(some 23), (some (17, true)), (.b2s (.t 22))⟩, ⟨(some 24), (some (17, true)), (.bin .eql (.t 20) (.t 23))⟩, ⟨(some 25), none, (.pick (.t 17) (.t 24) (.c (.bool false)))⟩, ⟨(some 4), none, (.mov (.t 25))⟩]) .ret)), 26, [(.tmp 4)]⟩
theorem F_r05_Same_ok : compF Try.prog (fun _ => true) 55 = some F_r05_Same := by kernel_rfl
@[simp] abbrev n_r05_All : FuncId := 30
def F_r05_All_L0 : C := (.seq (.seq (.ops [⟨(some 12), none, (.mov (.t 5))⟩, ⟨(some 13), none, (.mov (.t 0))⟩, ⟨(some 14), none, (.len (.t 13))⟩, ⟨(some 15), none, (.bin .lss (.t 12) (.t 14))⟩]) (.cond (.t 15) .skip (.exit 0))) (.seq (.block 1 (.seq (.dops false [] [⟨(some 18), none, (.mov (.t 0))⟩, ⟨(some 19), none, (.mov (.t 5))⟩, ⟨(some 20), none, (.ixs (.t 18) (.t 19) 3)⟩, ⟨(some 21), none, (.lde (.t 20) (some 3))⟩, ⟨(some 22), none, (.mov (.t 1))⟩, ⟨(some 23), none, (.mov (.t 5))⟩, ⟨(some 24), none, (.ixs (.t 22) (.t 23) 3)⟩, ⟨(some 25), none, (.lde (.t 24) (some 3))⟩, ⟨(some 26), none, (.call 55 [(.t 21), (.t 25)])⟩, ⟨(some 6), none, (.mov (.t 26))⟩]) (.seq (.ops [⟨(some 27), none, (.mov (.t 6))⟩, ⟨(some 28), none, (.un .not (.t 27))⟩]) (.cond (.t 28) (.seq (.ops [⟨(some 4), none, (.mov (.c (.bool false)))⟩]) .ret) .skip)))) (.ops [⟨(some 16), none, (.mov (.t 5))⟩, ⟨(some 17), none, (.bin .add (.t 16) (.c (.int .i64 1)))⟩, ⟨(some 5), none, (.mov (.t 17))⟩])))
def F_r05_All : F := ⟨(.seq (.ops [⟨(some 4), none, (.mov (.c (.bool false)))⟩]) (.seq (.seq (.ops [⟨(some 7), none, (.mov (.t 0))⟩, ⟨(some 8), none, (.len (.t 7))⟩, ⟨(some 9), none, (.mov (.t 1))⟩, ⟨(some 10), none, (.len (.t 9))⟩, ⟨(some 11), none, (.bin .neq (.t 8) (.t 10))⟩]) (.cond (.t 11) (.seq (.ops [⟨(some 4), none, (.mov (.c (.bool false)))⟩]) .ret) .skip)) (.seq (.seq (.ops [⟨(some 5), none, (.mov (.c (.int .i64 0)))⟩]) (.block 0 (.loop F_r05_All_L0))) (.seq (.ops [⟨(some 4), none, (.mov (.c (.bool true)))⟩]) .ret)))), 29, [(.tmp 4)]⟩
theorem F_r05_All_ok : compF Try.prog (fun _ => true) 30 = some F_r05_All := by kernel_rfl
end Go.Av

namespace Go.Av
open Enc (enc dec)
open Cel (cs dc)
open Go.Proofs Pl

/-- Extents one behind the other, from a block on; where they end. -/
def mapFrom (a : Int) (prev : Option Xt) : List Xt → Option Int
  | [] => some a
  | x :: l => if extOk x = true ∧ x.lba = a ∧ (prev.map fun y => joins y x) ≠ some true then mapFrom (a + x.len) (some x) l else none
def mapOk (n : Int) (l : List Xt) : Bool := decide (l ≠ []) && decide (mapFrom 0 none l = some n)
theorem mapFrom_le : ∀ {l : List Xt} {a b : Int} {p : Option Xt}, mapFrom a p l = some b → 0 ≤ a → l ≠ [] → 1 ≤ b ∧ b ≤ 64
  | [], _, _, _, _, _, h => absurd rfl h
  | x :: l, a, b, p, h, ha, _ => by
    simp only [mapFrom] at h
    split at h
    · rename_i hc
      have hx := extOk_iff.1 hc.1
      cases l with
      | nil => simp only [mapFrom, Option.some.injEq] at h; omega
      | cons y l => exact mapFrom_le h (by omega) (by simp)
    · cases h
theorem mapOk_le {n : Int} {l : List Xt} (h : mapOk n l = true) : 1 ≤ n ∧ n ≤ 64 := by
  simp only [mapOk, Bool.and_eq_true, decide_eq_true_eq] at h
  exact mapFrom_le h.2 (Int.le_refl _) h.1
def prevOf (l : List Xt) (i : Nat) : Option Xt := if i = 0 then none else l[i - 1]?
@[simp] theorem prevOf_succ (l : List Xt) (i : Nat) : prevOf l (i + 1) = l[i]? := by simp [prevOf]

@[simp] def sp_joins (x y : Xt) : Option (V × List Tip) := some (enc (joins x y), [])
theorem sp_joins_ok : EOk Try.prog n_extent_Joins (sp2 sp_joins) := sp2_ok fun x y r h => by cases h; exact c_ext_Joins x y
theorem sp_rjoins_ok : EOk Try.prog n_r07_Joins (sp2 sp_joins) := sp2_ok fun x y r h => by cases h; exact c_r07_Joins x y
def D21 : Orc := (Orc.nil.add n_extent_Check (sp1 sp_extOk)).add n_extent_Joins (sp2 sp_joins)
theorem D21_ok : OOk Try.prog D21 := (OOk.nil.add sp_extOk_ok).add sp_joins_ok
def MCheckI (n : Int) (l : List Xt) (k : Nat) (s : Nat → V) (m : Mem) : Prop :=
  ∃ (i : Nat) (a : Int), i + k = l.length ∧ 0 ≤ a ∧ a ≤ 64 ∧ mapFrom 0 none l = mapFrom a (prevOf l i) (l.drop i) ∧ s 0 = .val (.int .i64 n) ∧ s 1 = .lit 5 (l.map cs) ∧ s 5 = .val (.int .i64 a) ∧ s 8 = .lit 5 (l.map cs) ∧ s 9 = .val (.int .i64 l.length) ∧ s 10 = .val (.int .i64 i)
theorem c_map_Check (n : Int) (l : List Xt) (hl : l.length ≤ 2 ^ 40) : Pure Try.prog n_extmap_Check [enc n, enc l] (enc (mapOk n l)) [] := by
  refine Pure.ofC D21_ok hm F_extmap_Check_ok (by simp [F_extmap_Check]) rfl ?_
  simp [F_extmap_Check]
  refine wp_loop (MCheckI n l) l.length (IW.of ⟨0, 0, by omega, by omega, by omega, rfl, by simp, by simp, by simp, by simp, by simp, by simp⟩) fun k s m ⟨i, a, hik, ha1, ha2, hr, h0, h1, h5, h8, h9, h10⟩ => ?_
  by_cases hi : i < l.length
  · have hg : l[i]? = some l[i] := List.getElem?_eq_getElem hi
    have w1 := IntWalk.i64_in ((i : Int) + 1) (by omega)
    rw [List.drop_eq_getElem_cons hi, mapFrom] at hr
    obtain ⟨x, hxe⟩ : ∃ x, x = l[i] := ⟨_, rfl⟩
    rw [← hxe] at hr
    cases hx : extOk x with
    | false =>
      have e : mapOk n l = false := by simp [mapOk, hr, hx]
      simp [F_extmap_Check_L0, D21, h0, h1, h5, h8, h9, h10, hi, hg, ← hxe, hx, e]
    | true =>
      have hxb := extOk_iff.1 hx
      have w2 := IntWalk.i64_in (a + x.len) (by omega)
      by_cases hla : x.lba = a
      · subst hla
        by_cases h0i : i = 0
        · subst h0i
          simp [hx, prevOf] at hr
          simp [F_extmap_Check_L0, D21, h0, h1, h5, h8, h9, h10, hi, hg, ← hxe, hx, w2]
          refine ⟨k - 1, by omega, IW.of (show MCheckI n l _ _ _ from ⟨1, x.lba + x.len, by omega, by omega, by omega, ?_, by simpa using h0, by simpa using h1, by simp [w2], by simpa using h8, by simpa using h9, by simp; decide⟩)⟩
          rw [hr, prevOf, if_neg (by omega), hg, ← hxe, List.drop_one]
        · have hi1 : i - 1 < l.length := by omega
          have hg1 : l[i - 1]? = some l[i - 1] := List.getElem?_eq_getElem hi1
          have w3 := IntWalk.i64_in ((i : Int) - 1) (by omega)
          have w4 : ((i : Int) - 1).toNat = i - 1 := by omega
          have w5 : (1 : Int) ≤ i := by omega
          have w6 : (0 : Int) < i := by omega
          simp only [prevOf, if_neg h0i, hg1] at hr
          obtain ⟨y, hye⟩ : ∃ y, y = l[i - 1] := ⟨_, rfl⟩
          rw [← hye] at hr
          cases hj : joins y x with
          | true =>
            have e : mapOk n l = false := by simp [mapOk, hr, hj]
            simp [F_extmap_Check_L0, D21, h0, h1, h5, h8, h9, h10, hi, hg, ← hxe, hx, hg1, ← hye, w3, w4, w5, w6, h0i, hj, e]
          | false =>
            simp [hx, hj] at hr
            simp [F_extmap_Check_L0, D21, h0, h1, h5, h8, h9, h10, hi, hg, ← hxe, hx, hg1, ← hye, w2, w3, w4, w5, w6, h0i, hj]
            refine fun _ => ⟨k - 1, by omega, IW.of (show MCheckI n l _ _ _ from ⟨i + 1, x.lba + x.len, by omega, by omega, by omega, ?_, by simpa using h0, by simpa using h1, by simp [w2], by simpa using h8, by simpa using h9, by simp [w1]⟩)⟩
            rw [hr, prevOf_succ, hg, ← hxe]
      · have e : mapOk n l = false := by simp [mapOk, hr, hla]
        simp [F_extmap_Check_L0, D21, h0, h1, h5, h8, h9, h10, hi, hg, ← hxe, hx, hla, e]
  · have hil : i = l.length := by omega
    rw [hil, List.drop_length, mapFrom] at hr
    have e : mapOk n l = (decide (0 < l.length) && decide (a = n)) := by
      rw [mapOk, hr]
      cases l <;> simp
    simp [F_extmap_Check_L0, D21, h0, h1, h5, h8, h9, h10, hi, e]
    exact ⟨fun h _ => h, fun h h' => by simp [h] at h'⟩
def D22 : Orc := (Orc.nil.add n_r07_Check (sp1 sp_extOk)).add n_r07_Joins (sp2 sp_joins)
theorem D22_ok : OOk Try.prog D22 := (OOk.nil.add sp_rextOk_ok).add sp_rjoins_ok
def RMCheckI (n : Int) (l : List Xt) (k : Nat) (s : Nat → V) (m : Mem) : Prop :=
  ∃ (i : Nat) (a : Int), i + k = l.length ∧ 0 ≤ a ∧ a ≤ 64 ∧ mapFrom 0 none l = mapFrom a (prevOf l i) (l.drop i) ∧ s 0 = .val (.int .i64 n) ∧ s 1 = .lit 5 (l.map cs) ∧ s 5 = .val (.int .i64 a) ∧ s 6 = .val (.int .i64 i)
theorem c_r08_Check (n : Int) (l : List Xt) (hl : l.length ≤ 2 ^ 40) : Pure Try.prog n_r08_Check [enc n, enc l] (enc (mapOk n l)) [] := by
  refine Pure.ofC D22_ok hm F_r08_Check_ok (by simp [F_r08_Check]) rfl ?_
  by_cases hn : 1 ≤ n ∧ n ≤ 64
  · have hn1 : ¬ n < 1 := by omega
    have hn2 : ¬ 64 < n := by omega
    simp [F_r08_Check, hn1, hn2]
    refine wp_loop (RMCheckI n l) l.length (IW.of ⟨0, 0, by omega, by omega, by omega, rfl, by simp, by simp, by simp, by simp⟩) fun k s m ⟨i, a, hik, ha1, ha2, hr, h0, h1, h5, h6⟩ => ?_
    by_cases hi : i < l.length
    · have hg : l[i]? = some l[i] := List.getElem?_eq_getElem hi
      have w1 := IntWalk.i64_in ((i : Int) + 1) (by omega)
      rw [List.drop_eq_getElem_cons hi, mapFrom] at hr
      obtain ⟨x, hxe⟩ : ∃ x, x = l[i] := ⟨_, rfl⟩
      rw [← hxe] at hr
      cases hx : extOk x with
      | false =>
        have e : mapOk n l = false := by simp [mapOk, hr, hx]
        simp [F_r08_Check_L0, D22, h0, h1, h5, h6, hi, hg, ← hxe, hx, e]
      | true =>
        have hxb := extOk_iff.1 hx
        have w2 := IntWalk.i64_in (a + x.len) (by omega)
        by_cases hla : x.lba = a
        · subst hla
          by_cases h0i : i = 0
          · subst h0i
            simp [hx, prevOf] at hr
            simp [F_r08_Check_L0, D22, h0, h1, h5, h6, hi, hg, ← hxe, hx, w2]
            refine ⟨k - 1, by omega, IW.of (show RMCheckI n l _ _ _ from ⟨1, x.lba + x.len, by omega, by omega, by omega, ?_, by simpa using h0, by simpa using h1, by simp [w2], by simp; decide⟩)⟩
            rw [hr, prevOf, if_neg (by omega), hg, ← hxe, List.drop_one]
          · have hi1 : i - 1 < l.length := by omega
            have hg1 : l[i - 1]? = some l[i - 1] := List.getElem?_eq_getElem hi1
            have w3 := IntWalk.i64_in ((i : Int) - 1) (by omega)
            have w4 : ((i : Int) - 1).toNat = i - 1 := by omega
            have w5 : (1 : Int) ≤ i := by omega
            have w6 : (0 : Int) < i := by omega
            simp only [prevOf, if_neg h0i, hg1] at hr
            obtain ⟨y, hye⟩ : ∃ y, y = l[i - 1] := ⟨_, rfl⟩
            rw [← hye] at hr
            cases hj : joins y x with
            | true =>
              have e : mapOk n l = false := by simp [mapOk, hr, hj]
              simp [F_r08_Check_L0, D22, h0, h1, h5, h6, hi, hg, ← hxe, hx, hg1, ← hye, w3, w4, w5, w6, h0i, hj, e]
            | false =>
              simp [hx, hj] at hr
              simp [F_r08_Check_L0, D22, h0, h1, h5, h6, hi, hg, ← hxe, hx, hg1, ← hye, w2, w3, w4, w5, w6, h0i, hj]
              refine fun _ => ⟨k - 1, by omega, IW.of (show RMCheckI n l _ _ _ from ⟨i + 1, x.lba + x.len, by omega, by omega, by omega, ?_, by simpa using h0, by simpa using h1, by simp [w2], by simp [w1]⟩)⟩
              rw [hr, prevOf_succ, hg, ← hxe]
        · have e : mapOk n l = false := by simp [mapOk, hr, hla]
          simp [F_r08_Check_L0, D22, h0, h1, h5, h6, hi, hg, ← hxe, hx, hla, e]
    · have hil : i = l.length := by omega
      rw [hil, List.drop_length, mapFrom] at hr
      have e : mapOk n l = decide (a = n) := by
        rw [mapOk, hr]
        cases l with
        | nil =>
          simp only [mapFrom, Option.some.injEq] at hr
          have : ¬ a = n := by omega
          simp [this]
        | cons => simp
      simp [F_r08_Check_L0, D22, h0, h1, h5, h6, hi, e]
  · have e : mapOk n l = false := by
      cases h : mapOk n l with
      | false => rfl
      | true => exact absurd (mapOk_le h) hn
    simp [F_r08_Check, e]
    omega
end Go.Av

namespace Go.Av
open Enc (enc dec)
open Cel (cs dc)
open Go.Proofs Pl

def newL (n : Int) : List Xt := if 1 ≤ n ∧ n ≤ 64 then [⟨0, n, 0, 0, []⟩] else []
def newE (n : Int) : Int := if 1 ≤ n ∧ n ≤ 64 then 0 else 81
theorem c_map_New (n : Int) : Pure Try.prog n_extmap_New [enc n] (.tuple [.row 0 5 ((newL n).map cs), enc (newE n)]) [(174, 5, (newL n).length)] := by
  refine Pure.ofR OOk.nil hm F_extmap_New_ok (by simp [F_extmap_New]) (by simp [V.res, V.res1]) ?_
  by_cases h1 : 1 ≤ n
  · have h1' : ¬ n < 1 := by omega
    by_cases h2 : n ≤ 64
    · have h2' : ¬ 64 < n := by omega
      simp [F_extmap_New, newL, newE, h1, h2, h1', h2']
    · have h2' : 64 < n := by omega
      simp [F_extmap_New, newL, newE, h1, h2, h1', h2']
  · have h1' : n < 1 := by omega
    simp [F_extmap_New, newL, newE, h1, h1']
theorem c_st_within (n a b : Int) : Pure Try.prog n_state_within [enc n, enc a, enc b] (enc (decide (a ≤ n ∧ n ≤ b))) [] := by
  refine Pure.ofC OOk.nil hm F_state_within_ok (by simp [F_state_within]) rfl ?_
  simp [F_state_within]
  by_cases h : a ≤ n
  · simp [h]
    try omega
  · simp [h]
    try omega

/-- A box of a number. -/
def boxI (m : Mem) (p : Nat) : Option Int := match m.boxes[p]? with
  | some [.val (.int .i64 n)] => some n
  | _ => none
theorem boxI_some {m : Mem} {p : Nat} {b : Int} (h : boxI m p = some b) : m.boxes[p]? = some [.val (.int .i64 b)] := by
  unfold boxI at h
  split at h
  · cases h; assumption
  · cases h
@[simp] theorem boxI_of {m : Mem} {p : Nat} {b : Int} (h : m.boxes[p]? = some [.val (.int .i64 b)]) : boxI m p = some b := by simp [boxI, h]
theorem c_upto1 (m : Mem) (p : Nat) (g : Int) (x : Xt) (hp : m.boxes[p]? = some [.val (.int .i64 g)]) : Loc Try.prog n_state_upto_1 [enc x, .ptr p 0] m (enc (decide (g < x.gen))) m := by
  refine Loc.ofC OOk.nil hm F_state_upto_1_ok (by simp [F_state_upto_1]) (.inl rfl) m.boxes.length m.tips.length (Nat.le_refl _) (Nat.le_refl _) fun hu => ?_
  have hpl : p < m.boxes.length := lt_of_some hp
  have f1 : ∀ (b : List (List V)), (m.boxes ++ b)[p]? = m.boxes[p]? := fun b => List.getElem?_append_left hpl
  clear hpl
  simp [F_state_upto_1, f1, hp, hu]
def sp_upto1 : List V → Mem → Option (V × Mem)
  | [a, .ptr p 0], m => (dec a : Option Xt).bind fun x => (boxI m p).map fun g => (enc (decide (g < x.gen)), m)
  | _, _ => none
theorem sp_upto1_ok : EOkL Try.prog n_state_upto_1 sp_upto1 := by
  intro args m v m' h
  unfold sp_upto1 at h
  split at h
  · simp only [Option.bind_eq_some_iff, Option.map_eq_some_iff] at h
    obtain ⟨x, hx, g, hg, h⟩ := h
    cases h
    exact (c_upto1 m _ g x (boxI_some hg)).wk (wk_dec (WkL.refl _) hx)
  · cases h
/-- The first one that is later. -/
def gtIdx (g : Int) (l : List Xt) : Int := match l.findIdx? (fun x => decide (g < x.gen)) with
  | some i => i
  | none => -1
def anyGt (g : Int) (l : List Xt) : Bool := l.any (fun x => decide (g < x.gen))
theorem gtIdx_nonneg (g : Int) (l : List Xt) : decide (0 ≤ gtIdx g l) = anyGt g l := by
  unfold gtIdx anyGt
  cases h : l.findIdx? (fun x => decide (g < x.gen)) with
  | none =>
    have h1 := List.findIdx?_eq_none_iff.1 h
    have : l.any (fun x => decide (g < x.gen)) = false := by
      rw [List.any_eq_false]
      intro x hx
      simpa using h1 x hx
    rw [this]; rfl
  | some i =>
    have h1 := List.findIdx?_eq_some_iff_getElem.1 h
    obtain ⟨hi, hp, _⟩ := h1
    have : l.any (fun x => decide (g < x.gen)) = true := List.any_eq_true.2 ⟨l[i], List.getElem_mem hi, hp⟩
    rw [this]
    simp
def D23 : Orc := Orc.nil.addL n_state_upto_1 sp_upto1
theorem D23_ok : OOk Try.prog D23 := OOk.nil.addL sp_upto1_ok
def IndexFI (m0 : Mem) (l : List Xt) (p : Nat) (g : Int) (k : Nat) (s : Nat → V) (m : Mem) : Prop :=
  ∃ (i : Nat), i + k = l.length ∧ (∀ j (hj : j < l.length), j < i → ¬ g < l[j].gen) ∧ s 0 = .lit 5 (l.map cs) ∧ s 1 = .func n_state_upto_1 [.ptr p 0] ∧ s 7 = .val (.int .i64 l.length) ∧ s 8 = .val (.int .i64 i) ∧ m = m0
theorem c_indexF (m : Mem) (p : Nat) (g : Int) (l : List Xt) (hl : l.length ≤ 2 ^ 40) (hp : m.boxes[p]? = some [.val (.int .i64 g)]) : Loc Try.prog n_slices_IndexFunc_Extent [enc l, .func n_state_upto_1 [.ptr p 0]] m (enc (gtIdx g l)) m := by
  refine Loc.ofC D23_ok hm F_slices_IndexFunc_Extent_ok (by simp [F_slices_IndexFunc_Extent]) (.inl rfl) m.boxes.length m.tips.length (Nat.le_refl _) (Nat.le_refl _) fun hu => ?_
  have hb := boxI_of hp
  simp [F_slices_IndexFunc_Extent]
  refine wp_loop (IndexFI m l p g) l.length (IW.of ⟨0, by omega, by simp, by simp, by simp, by simp, by simp, rfl⟩) fun k s m' ⟨i, hik, hno, h0, h1, h7, h8, hm'⟩ => ?_
  subst hm'
  by_cases hi : i < l.length
  · have hg : l[i]? = some l[i] := List.getElem?_eq_getElem hi
    have w1 := IntWalk.i64_in ((i : Int) + 1) (by omega)
    by_cases hx : g < l[i].gen
    · have e : gtIdx g l = i := by
        unfold gtIdx
        rw [List.findIdx?_eq_some_iff_getElem.2 ⟨hi, by simpa using hx, fun j hj => by simpa using hno j (by omega) hj⟩]
      simp [F_slices_IndexFunc_Extent_L0, D23, h0, h1, h7, h8, hi, hg, sp_upto1, hb, hx, hu, e]
    · simp [F_slices_IndexFunc_Extent_L0, D23, h0, h1, h7, h8, hi, hg, sp_upto1, hb, hx, w1]
      refine ⟨k - 1, by omega, IW.of (show IndexFI m' l p g _ _ _ from ⟨i + 1, by omega, fun j hj hji => ?_, by simpa using h0, by simpa using h1, by simpa using h7, by simp, rfl⟩)⟩
      by_cases hj' : j = i
      · subst hj'; exact hx
      · exact hno j hj (by omega)
  · have e : gtIdx g l = -1 := by
      unfold gtIdx
      rw [List.findIdx?_eq_none_iff.2]
      intro x hx
      obtain ⟨j, hj, rfl⟩ := List.getElem_of_mem hx
      simpa using hno j hj (by omega)
    simp [F_slices_IndexFunc_Extent_L0, D23, h0, h1, h7, h8, hi, hu, e]
def sp_indexF : List V → Mem → Option (V × Mem)
  | [a, .func 140 [.ptr p 0]], m => (dec a : Option (List Xt)).bind fun l => (boxI m p).bind fun g => if l.length ≤ 2 ^ 40 then some (enc (gtIdx g l), m) else none
  | _, _ => none
theorem sp_indexF_ok : EOkL Try.prog n_slices_IndexFunc_Extent sp_indexF := by
  intro args m v m' h
  unfold sp_indexF at h
  split at h
  · simp only [Option.bind_eq_some_iff] at h
    obtain ⟨x, hx, g, hg, h⟩ := h
    split at h <;> cases h
    exact (c_indexF m _ g x (by assumption) (boxI_some hg)).wk (wk_dec (WkL.refl _) hx)
  · cases h
def D24 : Orc := Orc.nil.addL n_slices_IndexFunc_Extent sp_indexF
theorem D24_ok : OOk Try.prog D24 := OOk.nil.addL sp_indexF_ok
theorem c_containsF (m : Mem) (p : Nat) (g : Int) (l : List Xt) (hl : l.length ≤ 2 ^ 40) (hp : m.boxes[p]? = some [.val (.int .i64 g)]) : Loc Try.prog n_slices_ContainsFunc_Extent [enc l, .func n_state_upto_1 [.ptr p 0]] m (enc (anyGt g l)) m := by
  refine Loc.ofC D24_ok hm F_slices_ContainsFunc_Extent_ok (by simp [F_slices_ContainsFunc_Extent]) (.inl rfl) m.boxes.length m.tips.length (Nat.le_refl _) (Nat.le_refl _) fun hu => ?_
  have hb := boxI_of hp
  have e := gtIdx_nonneg g l
  simp [F_slices_ContainsFunc_Extent, D24, sp_indexF, hb, decX_map, hl, hu, e]
def sp_containsF : List V → Mem → Option (V × Mem)
  | [a, .func 140 [.ptr p 0]], m => (dec a : Option (List Xt)).bind fun l => (boxI m p).bind fun g => if l.length ≤ 2 ^ 40 then some (enc (anyGt g l), m) else none
  | _, _ => none
theorem sp_containsF_ok : EOkL Try.prog n_slices_ContainsFunc_Extent sp_containsF := by
  intro args m v m' h
  unfold sp_containsF at h
  split at h
  · simp only [Option.bind_eq_some_iff] at h
    obtain ⟨x, hx, g, hg, h⟩ := h
    split at h <;> cases h
    exact (c_containsF m _ g x (by assumption) (boxI_some hg)).wk (wk_dec (WkL.refl _) hx)
  · cases h
def uptoOk (n : Int) (l : List Xt) (g : Int) : Bool := mapOk n l && !anyGt g l
@[simp] def sp_mapOk (n : Int) (l : List Xt) : Option (V × List Tip) := if l.length ≤ 2 ^ 40 then some (enc (mapOk n l), []) else none
theorem sp_mapOk_ok : EOk Try.prog n_extmap_Check (sp2 sp_mapOk) := sp2_ok fun n l r h => by
  simp only [sp_mapOk] at h
  split at h <;> cases h
  exact c_map_Check n l (by assumption)
theorem sp_rmapOk_ok : EOk Try.prog n_r08_Check (sp2 sp_mapOk) := sp2_ok fun n l r h => by
  simp only [sp_mapOk] at h
  split at h <;> cases h
  exact c_r08_Check n l (by assumption)
def D25 : Orc := (Orc.nil.add n_extmap_Check (sp2 sp_mapOk)).addL n_slices_ContainsFunc_Extent sp_containsF
theorem D25_ok : OOk Try.prog D25 := (OOk.nil.add sp_mapOk_ok).addL sp_containsF_ok
theorem c_upto (n : Int) (l : List Xt) (g : Int) (hl : l.length ≤ 2 ^ 40) : Pure Try.prog n_state_upto [enc n, enc l, enc g] (enc (uptoOk n l g)) [] := by
  refine Pure.ofC D25_ok hm F_state_upto_ok (by simp [F_state_upto]) rfl ?_
  cases h : mapOk n l <;> simp [F_state_upto, D25, sp_containsF, hl, h, uptoOk, decX_map, boxI]
end Go.Av

namespace Go.Av
open Enc (enc dec)
open Cel (cs dc)
open Go.Proofs Pl

/-- Is what two extents share alike? -/
def keptOne (x y : Xt) : Bool := !cutOk y x.lba x.len ||
  (decide ((cutX x (cutX y x.lba x.len).lba (cutX y x.lba x.len).len).kind = (cutX y x.lba x.len).kind) && decide ((cutX x (cutX y x.lba x.len).lba (cutX y x.lba x.len).len).gen = (cutX y x.lba x.len).gen) && decide ((cutX x (cutX y x.lba x.len).lba (cutX y x.lba x.len).len).data = (cutX y x.lba x.len).data))
def keptX (was l : List Xt) (g : Int) : Bool := l.all fun x => decide (g < x.gen) || was.all (keptOne x)
@[simp] def sp_cut (x : Xt) (lba n : Int) : Option (V × List Tip) := some (.tuple [enc (cutX x lba n), enc (cutOk x lba n)], [])
theorem sp_cut_ok : EOk Try.prog n_extent_Cut (sp3 sp_cut) := sp3_ok fun x a b r h => by cases h; exact c_ext_Cut x a b
theorem sp_Equal_ok : EOk Try.prog n_bytes_Equal (sp2 sp_Equal) := sp2_ok fun a b r h => by cases h; exact c_bytes_Equal a b
def D26 : Orc := (Orc.nil.add n_extent_Cut (sp3 sp_cut)).add n_bytes_Equal (sp2 sp_Equal)
theorem D26_ok : OOk Try.prog D26 := (OOk.nil.add sp_cut_ok).add sp_Equal_ok
def KeptI (was l : List Xt) (g : Int) (k : Nat) (s : Nat → V) (m : Mem) : Prop :=
  ∃ (i : Nat), i + k = l.length ∧ (l.take i).all (fun x => decide (g < x.gen) || was.all (keptOne x)) = true ∧ s 0 = .lit 5 (was.map cs) ∧ s 2 = .val (.int .i64 g) ∧ s 15 = .lit 5 (l.map cs) ∧ s 16 = .val (.int .i64 l.length) ∧ s 17 = .val (.int .i64 i)
def KeptJ (was l : List Xt) (g : Int) (i : Nat) (x : Xt) (k : Nat) (s : Nat → V) (m : Mem) : Prop :=
  ∃ (j p : Nat), j + k = was.length ∧ (was.take j).all (keptOne x) = true ∧ s 0 = .lit 5 (was.map cs) ∧ s 2 = .val (.int .i64 g) ∧ s 15 = .lit 5 (l.map cs) ∧ s 16 = .val (.int .i64 l.length) ∧ s 17 = .val (.int .i64 i) ∧
    s 25 = .lit 5 (was.map cs) ∧ s 26 = .val (.int .i64 was.length) ∧ s 27 = .val (.int .i64 j) ∧ s 8 = .ptr p 0 ∧ m.boxes[p]? = some (cs x)
set_option maxRecDepth 4000 in
theorem c_kept (was l : List Xt) (g : Int) (hw : was.length ≤ 2 ^ 40) (hl : l.length ≤ 2 ^ 40) : Pure Try.prog n_state_kept [enc was, enc l, enc g] (enc (keptX was l g)) [] := by
  refine Pure.ofC D26_ok hm F_state_kept_ok (by simp [F_state_kept]) rfl ?_
  simp [F_state_kept]
  refine wp_loop (KeptI was l g) l.length (IW.of ⟨0, by omega, by simp, by simp, by simp, by simp, by simp, by simp⟩) fun k s m ⟨i, hik, hall, h0, h2, h15, h16, h17⟩ => ?_
  by_cases hi : i < l.length
  · have hg : l[i]? = some l[i] := List.getElem?_eq_getElem hi
    have ht1 : l.take (i + 1) = l.take i ++ [l[i]] := by rw [List.take_add_one, hg]; rfl
    have w1 := IntWalk.i64_in ((i : Int) + 1) (by omega)
    by_cases hx : g < l[i].gen
    · simp [F_state_kept_L1, D26, h0, h2, h15, h16, h17, hi, hg, hx, w1]
      refine ⟨k - 1, by omega, IW.of (show KeptI was l g _ _ _ from ⟨i + 1, by omega, ?_, by simpa using h0, by simpa using h2, by simpa using h15, by simpa using h16, by simp⟩)⟩
      rw [ht1, List.all_append, hall]
      simp [hx]
    · simp [F_state_kept_L1, D26, h0, h2, h15, h16, h17, hi, hg, hx]
      refine wp_loop (KeptJ was l g i l[i]) was.length (IW.of ⟨0, m.boxes.length, by omega, by simp, by simpa using h0, by simpa using h2, by simpa using h15, by simpa using h16, by simpa using h17, by simp, by simp, by simp, by simp, by simp⟩) fun k' s' m' ⟨j, p, hjk, hall', h0, h2, h15, h16, h17, h25, h26, h27, h8, hp⟩ => ?_
      by_cases hj : j < was.length
      · have hg' : was[j]? = some was[j] := List.getElem?_eq_getElem hj
        have ht2 : was.take (j + 1) = was.take j ++ [was[j]] := by rw [List.take_add_one, hg']; rfl
        have w2 := IntWalk.i64_in ((j : Int) + 1) (by omega)
        have hpl : p < m'.boxes.length := lt_of_some hp
        have f1 : ∀ (b : List (List V)), (m'.boxes ++ b)[p]? = m'.boxes[p]? := fun b => List.getElem?_append_left hpl
        simp only [cs_ext] at hp
        cases hc : cutOk was[j] l[i].lba l[i].len with
        | false =>
          simp [F_state_kept_L0, D26, h0, h2, h15, h16, h17, h25, h26, h27, h8, hj, hg', f1, hp, hc, w2]
          have e1 : keptOne l[i] was[j] = true := by simp [keptOne, hc]
          refine ⟨k' - 1, by omega, IW.of (show KeptJ was l g i l[i] _ _ _ from ⟨j + 1, p, by omega, ?_, by simpa using h0, by simpa using h2, by simpa using h15, by simpa using h16, by simpa using h17, by simpa using h25, by simpa using h26, by simp, by simpa using h8, by simp [f1, hp]⟩)⟩
          rw [ht2, List.all_append, hall']
          simp [e1]
        | true =>
          cases e1 : keptOne l[i] was[j] with
          | true =>
            have e2 := e1
            simp only [keptOne, hc, Bool.not_true, Bool.false_or, Bool.and_eq_true, decide_eq_true_eq] at e2
            obtain ⟨⟨q1, q2⟩, q3⟩ := e2
            simp [F_state_kept_L0, D26, h0, h2, h15, h16, h17, h25, h26, h27, h8, hj, hg', f1, hp, hc, w2, q1, q2, q3]
            refine ⟨k' - 1, by omega, IW.of (show KeptJ was l g i l[i] _ _ _ from ⟨j + 1, p, by omega, ?_, by simpa using h0, by simpa using h2, by simpa using h15, by simpa using h16, by simpa using h17, by simpa using h25, by simpa using h26, by simp, by simpa using h8, by simp [f1, hp]⟩)⟩
            rw [ht2, List.all_append, hall']
            simp [e1]
          | false =>
            have e2 := e1
            simp only [keptOne, hc, Bool.not_true, Bool.false_or, Bool.and_eq_false_iff, decide_eq_false_iff_not] at e2
            have e3 : keptX was l g = false := by
              rw [keptX, List.all_eq_false]
              refine ⟨l[i], List.getElem_mem hi, ?_⟩
              have : was.all (keptOne l[i]) = false := List.all_eq_false.2 ⟨was[j], List.getElem_mem hj, by simp [e1]⟩
              simp [hx, this]
            simp [F_state_kept_L0, D26, h0, h2, h15, h16, h17, h25, h26, h27, h8, hj, hg', f1, hp, hc, e3]
            intro a b c
            rcases e2 with (e2 | e2) | e2
            · exact absurd a e2
            · exact absurd b e2
            · exact absurd c e2
      · have hjl : j = was.length := by omega
        rw [hjl, List.take_length] at hall'
        simp [F_state_kept_L0, D26, h0, h2, h15, h16, h17, h25, h26, h27, hj, w1]
        refine ⟨k - 1, by omega, IW.of (show KeptI was l g _ _ _ from ⟨i + 1, by omega, ?_, by simpa using h0, by simpa using h2, by simpa using h15, by simpa using h16, by simp⟩)⟩
        rw [ht1, List.all_append, hall]
        simp [hall']
  · have hil : i = l.length := by omega
    rw [hil, List.take_length] at hall
    have e : keptX was l g = true := hall
    simp [F_state_kept_L1, D26, h0, h2, h15, h16, h17, hi, e]
end Go.Av

namespace Go.Av.Pl
structure Pt where
  id : Int
  gen : Int
  map : List Xt
deriving DecidableEq
structure Sta where
  blocks : Int
  gen : Int
  map : List Xt
  pts : List Pt
  last : Int
  staged : List UInt8
deriving DecidableEq
def Pt.zero : Pt := ⟨0, 0, []⟩
def Sta.zero : Sta := ⟨0, 0, [], [], 0, []⟩
def lastPt (w : Pt) : List Pt → Pt
  | [] => w
  | p :: l => lastPt p l
end Go.Av.Pl

namespace Go.Av
open Enc (enc dec)
open Cel (cs dc)
open Go.Proofs Pl

instance : Cel Pt where
  sz := 3
  cs x := [enc x.id, enc x.gen, enc x.map]
  dc l := match l with
    | [a, b, c] => (dec a).bind fun a => (dec b).bind fun b => (dec c).bind fun c => some ⟨a, b, c⟩
    | _ => none
  len _ := rfl
  ok l x h := by
    split at h
    · simp only [Option.bind_eq_some_iff] at h
      obtain ⟨a, ha, b, hb, c, hc, h⟩ := h
      cases h
      exact wk_dec (wk_dec (wk_dec wk_nil hc) hb) ha
    · cases h
  cl x := by simp [clean_cs]
  de x := by simp [decX_map]
instance : Enc Pt := encC
@[simp] theorem sz_pt : Cel.sz Pt = 3 := rfl
@[simp] theorem cs_pt (x : Pt) : cs x = [.val (.int .i64 x.id), .val (.int .i64 x.gen), .lit 5 (x.map.map cs)] := rfl
@[simp] theorem enc_pt (x : Pt) : (enc x : V) = .agg [.val (.int .i64 x.id), .val (.int .i64 x.gen), .lit 5 (x.map.map cs)] := rfl
@[simp] theorem dc_pt (a b c : V) : (dc [a, b, c] : Option Pt) = (dec a).bind fun a => (dec b).bind fun b => (dec c).bind fun c => some ⟨a, b, c⟩ := rfl
@[simp] theorem dec_pt (l : List V) : (dec (.agg l) : Option Pt) = dc l := rfl
instance : Cel Sta where
  sz := 6
  cs x := [enc x.blocks, enc x.gen, enc x.map, enc x.pts, enc x.last, enc x.staged]
  dc l := match l with
    | [a, b, c, d, e, f] => (dec a).bind fun a => (dec b).bind fun b => (dec c).bind fun c => (dec d).bind fun d => (dec e).bind fun e => (dec f).bind fun f => some ⟨a, b, c, d, e, f⟩
    | _ => none
  len _ := rfl
  ok l x h := by
    split at h
    · simp only [Option.bind_eq_some_iff] at h
      obtain ⟨a, ha, b, hb, c, hc, d, hd, e, he, f, hf, h⟩ := h
      cases h
      exact wk_dec (wk_dec (wk_dec (wk_dec (wk_dec (wk_dec wk_nil hf) he) hd) hc) hb) ha
    · cases h
  cl x := by simp [clean_cs]
  de x := by simp [decX_map]
instance : Enc Sta := encC
@[simp] theorem sz_sta : Cel.sz Sta = 6 := rfl
@[simp] theorem cs_sta (x : Sta) : cs x = [.val (.int .i64 x.blocks), .val (.int .i64 x.gen), .lit 5 (x.map.map cs), .lit 3 (x.pts.map cs), .val (.int .i64 x.last), .lit 1 (x.staged.map cs)] := rfl
@[simp] theorem enc_sta (x : Sta) : (enc x : V) = .agg [.val (.int .i64 x.blocks), .val (.int .i64 x.gen), .lit 5 (x.map.map cs), .lit 3 (x.pts.map cs), .val (.int .i64 x.last), .lit 1 (x.staged.map cs)] := rfl
@[simp] theorem dc_sta (a b c d e f : V) : (dc [a, b, c, d, e, f] : Option Sta) = (dec a).bind fun a => (dec b).bind fun b => (dec c).bind fun c => (dec d).bind fun d => (dec e).bind fun e => (dec f).bind fun f => some ⟨a, b, c, d, e, f⟩ := rfl
@[simp] theorem dec_sta (l : List V) : (dec (.agg l) : Option Sta) = dc l := rfl

def ptOk (s : Sta) (w p : Pt) : Bool := uptoOk s.blocks p.map p.gen && decide (w.id < p.id) && decide (p.id ≤ s.last) && decide (w.gen < p.gen) && decide (p.gen < s.gen) && keptX w.map p.map w.gen
def ptsOk (s : Sta) (w : Pt) : List Pt → Bool
  | [] => true
  | p :: l => ptOk s w p && ptsOk s p l
def staMay (s : Sta) : Bool := uptoOk s.blocks s.map s.gen && decide (1 ≤ s.gen ∧ s.gen ≤ 2147483647) && decide (s.pts.length ≤ 4) && decide (0 ≤ s.last ∧ s.last ≤ 2147483647) && decide (s.staged.length ≤ 4000)
def staOk (s : Sta) : Bool := (staMay s && ptsOk s Pt.zero s.pts) && keptX (lastPt Pt.zero s.pts).map s.map (lastPt Pt.zero s.pts).gen
def staE (s : Sta) : Int := if staOk s = true then 0 else 110
/-- Lists of a length that may be. -/
def staLen (s : Sta) : Prop := s.map.length ≤ 2 ^ 30 ∧ s.pts.length ≤ 2 ^ 30 ∧ (∀ p ∈ s.pts, p.map.length ≤ 2 ^ 30) ∧ s.staged.length ≤ 2 ^ 30
@[simp] def sp_upto (n : Int) (l : List Xt) (g : Int) : Option (V × List Tip) := if l.length ≤ 2 ^ 40 then some (enc (uptoOk n l g), []) else none
@[simp] def sp_kept (a b : List Xt) (g : Int) : Option (V × List Tip) := if a.length ≤ 2 ^ 40 ∧ b.length ≤ 2 ^ 40 then some (enc (keptX a b g), []) else none
def D27 : Orc := ((Orc.nil.add n_state_upto (sp3 sp_upto)).add n_state_kept (sp3 sp_kept)).add n_state_within (sp3 sp_within)
theorem D27_ok : OOk Try.prog D27 := by
  refine ((OOk.nil.add (sp3_ok fun n l g r h => ?_)).add (sp3_ok fun a b g r h => ?_)).add (sp3_ok fun a b c r h => by cases h; exact c_st_within a b c)
  · simp only [sp_upto] at h
    split at h <;> cases h
    exact c_upto n l g (by assumption)
  · simp only [sp_kept] at h
    split at h <;> cases h
    rename_i h
    exact c_kept a b g h.1 h.2
def StaI (q : Sta) (k : Nat) (s : Nat → V) (m : Mem) : Prop :=
  ∃ (i : Nat) (w : Pt) (may : Bool) (bx : List (List V)) (tips : List Tip), i + k = q.pts.length ∧ s 1 = .ptr 0 0 ∧ s 4 = .ptr 1 0 ∧ s 3 = .val (.bool may) ∧ s 37 = .lit 3 (q.pts.map cs) ∧ s 38 = .val (.int .i64 q.pts.length) ∧ s 39 = .val (.int .i64 i) ∧
    (staMay q && ptsOk q Pt.zero q.pts) = (may && ptsOk q w (q.pts.drop i)) ∧ lastPt Pt.zero q.pts = lastPt w (q.pts.drop i) ∧ w.map.length ≤ 2 ^ 30 ∧ m = ⟨cs q :: cs w :: bx, tips⟩
set_option maxRecDepth 4000 in
theorem c_st_Check (q : Sta) (hq : staLen q) : Pure Try.prog n_state_Check [enc q] (enc (staE q)) [] := by
  obtain ⟨hq1, hq2, hq3, hq4⟩ := hq
  refine Pure.ofC D27_ok hm F_state_Check_ok (by simp [F_state_Check]) rfl ?_
  have b1 : q.map.length ≤ 1099511627776 := by omega
  refine wp_seqC (fun s m => s 1 = .ptr 0 0 ∧ m = ⟨[cs q], []⟩) (by simp) fun s m ⟨h1, hm⟩ => ?_
  subst hm
  refine wp_seqC (fun s m => s 1 = .ptr 0 0 ∧ s 3 = .val (.bool (staMay q)) ∧ m = ⟨[cs q], []⟩) ?_ fun s m ⟨h1, h3, hm⟩ => ?_
  · simp [D27, h1, b1]
    have e4 : ((q.pts.length : Int) ≤ 4) ↔ q.pts.length ≤ 4 := by omega
    have e5 : ((q.staged.length : Int) ≤ 4000) ↔ q.staged.length ≤ 4000 := by omega
    simp only [e4, e5]
    by_cases c1 : uptoOk q.blocks q.map q.gen = true <;> by_cases c2 : 1 ≤ q.gen <;> by_cases c3 : q.gen ≤ 2147483647 <;> by_cases c4 : q.pts.length ≤ 4 <;> by_cases c5 : 0 ≤ q.last <;> by_cases c6 : q.last ≤ 2147483647 <;> simp [staMay, c1, c2, c3, c4, c5, c6] <;> try omega
  subst hm
  simp [D27, h1, h3]
  refine wp_loop (StaI q) q.pts.length (IW.of ⟨0, Pt.zero, staMay q, [], [], by omega, by simpa using h1, by simp, by simpa using h3, by simp, by simp, by simp, by simp, by simp, by simp [Pt.zero], by simp [Pt.zero]⟩) fun k s m ⟨i, w, may, bx, tips, hik, h1, h4, h3, h37, h38, h39, hmay, hlast, hw, hm⟩ => ?_
  subst hm
  by_cases hi : i < q.pts.length
  · have hg : q.pts[i]? = some q.pts[i] := List.getElem?_eq_getElem hi
    have w1 := IntWalk.i64_in ((i : Int) + 1) (by omega)
    have hpl := hq3 q.pts[i] (List.getElem_mem hi)
    rw [List.drop_eq_getElem_cons hi, ptsOk] at hmay
    rw [List.drop_eq_getElem_cons hi, lastPt] at hlast
    obtain ⟨p, hpe⟩ : ∃ p, p = q.pts[i] := ⟨_, rfl⟩
    rw [← hpe] at hmay hlast hpl
    have b2 : w.map.length ≤ 1099511627776 := by omega
    have b3 : p.map.length ≤ 1099511627776 := by omega
    have leaf : ∀ (may' : Bool) (s' : Nat → V) (m' : Mem) (bx' : List (List V)) (tips' : List Tip), s' 1 = .ptr 0 0 ∧ s' 4 = .ptr 1 0 ∧ s' 3 = .val (.bool may') ∧ s' 37 = .lit 3 (q.pts.map cs) ∧ s' 38 = .val (.int .i64 q.pts.length) ∧ s' 39 = .val (.int .i64 ((i : Int) + 1)) ∧ m' = ⟨cs q :: cs p :: bx', tips'⟩ → may' = (may && ptOk q w p) → ∃ j, j < k ∧ IW (StaI q j) s' m' := by
      intro may' s' m' bx' tips' ⟨k1, k2, k3, k4, k5, k6, k7⟩ hm'
      refine ⟨k - 1, by omega, IW.of (show StaI q _ _ _ from ⟨i + 1, p, may', bx', tips', by omega, k1, k2, k3, k4, k5, by simpa using k6, ?_, hlast, by omega, k7⟩)⟩
      rw [hmay, hm', Bool.and_assoc]
    simp [F_state_Check_L0, D27, h1, h4, h3, h37, h38, h39, hi, hg, ← hpe, w1, b2, b3]
    repeat' first
      | apply And.intro
      | intro _
    all_goals
      refine leaf _ _ _ _ _ ⟨by simpa using h1, by simpa using h4, by simp; rfl, by simpa using h37, by simpa using h38, by simp, rfl⟩ ?_
      simp_all [ptOk] <;> try (intros; omega)
  · have hil : i = q.pts.length := by omega
    rw [hil, List.drop_length] at hmay hlast
    simp [ptsOk] at hmay
    have e : staOk q = (may && keptX w.map q.map w.gen) := by rw [staOk, hmay, hlast]; rfl
    have b2 : w.map.length ≤ 1099511627776 := by omega
    cases may <;> cases hkx : keptX w.map q.map w.gen <;> simp [F_state_Check, hkx, F_state_Check_L0, D27, h1, h4, h3, h37, h38, h39, hi, b1, b2, staE, e]
end Go.Av

namespace Go.Av
open Enc (enc dec)
open Cel (cs dc)
open Go.Proofs Pl

def newS (n : Int) : Sta := if 1 ≤ n ∧ n ≤ 64 then ⟨n, 1, newL n, [], 0, []⟩ else Sta.zero
@[simp] def sp_mnew (n : Int) : Option (V × List Tip) := some (.tuple [.row 0 5 ((newL n).map cs), enc (newE n)], [(174, 5, (newL n).length)])
theorem sp_mnew_ok : EOk Try.prog n_extmap_New (sp1 sp_mnew) := sp1_ok fun n r h => by cases h; exact c_map_New n
def D28 : Orc := Orc.nil.add n_extmap_New (sp1 sp_mnew)
theorem D28_ok : OOk Try.prog D28 := OOk.nil.add sp_mnew_ok
theorem c_st_New (n : Int) : Pure Try.prog n_state_New [enc n] (.tuple [enc (newS n), enc (newE n)]) [] := by
  refine Pure.ofC D28_ok hm F_state_New_ok (by simp [F_state_New]) (by simp [V.res, V.res1]) ?_
  by_cases h : 1 ≤ n ∧ n ≤ 64
  · simp [F_state_New, D28, newE, newS, h]
  · simp [F_state_New, D28, newE, newS, h, Sta.zero]

@[simp] def sp_all (a b : List Xt) : Option (V × List Tip) := if a.length ≤ 2 ^ 40 then some (enc (decide (a = b)), []) else none
theorem sp_all_ok : EOk Try.prog n_r07_All (sp2 sp_all) := sp2_ok fun a b r h => by
  simp only [sp_all] at h
  split at h <;> cases h
  exact c_r07_All a b (by assumption)
def D29 : Orc := Orc.nil.add n_r07_All (sp2 sp_all)
theorem D29_ok : OOk Try.prog D29 := OOk.nil.add sp_all_ok
theorem c_r11_Points (a b : Pt) (ha : a.map.length ≤ 2 ^ 40) : Pure Try.prog n_r11_Points [enc a, enc b] (enc (decide (a = b))) [] := by
  refine Pure.ofC D29_ok hm F_r11_Points_ok (by simp [F_r11_Points]) rfl ?_
  obtain ⟨a1, a2, a3⟩ := a
  obtain ⟨b1, b2, b3⟩ := b
  simp only at ha
  by_cases h1 : a1 = b1 <;> by_cases h2 : a2 = b2 <;> simp [F_r11_Points, D29, ha, h1, h2]
@[simp] def sp_points (a b : Pt) : Option (V × List Tip) := if a.map.length ≤ 2 ^ 40 then some (enc (decide (a = b)), []) else none
theorem sp_points_ok : EOk Try.prog n_r11_Points (sp2 sp_points) := sp2_ok fun a b r h => by
  simp only [sp_points] at h
  split at h <;> cases h
  exact c_r11_Points a b (by assumption)
def D30 : Orc := (Orc.nil.add n_r07_All (sp2 sp_all)).add n_r11_Points (sp2 sp_points)
theorem D30_ok : OOk Try.prog D30 := (OOk.nil.add sp_all_ok).add sp_points_ok
def SameI (a b : Sta) (k : Nat) (s : Nat → V) (m : Mem) : Prop :=
  ∃ (i : Nat) (bx : List (List V)) (tips : List Tip), i + k = a.pts.length ∧ a.pts.take i = b.pts.take i ∧ s 2 = .ptr 0 0 ∧ s 3 = .ptr 1 0 ∧ s 6 = .val (.int .i64 i) ∧ m = ⟨cs a :: cs b :: bx, tips⟩
set_option maxRecDepth 4000 in
theorem c_r11_Same (a b : Sta) (ha : staLen a) : Pure Try.prog n_r11_Same [enc a, enc b] (enc (decide (a = b))) [] := by
  obtain ⟨ha1, ha2, ha3, ha4⟩ := ha
  refine Pure.ofC D30_ok hm F_r11_Same_ok (by simp [F_r11_Same]) rfl ?_
  have b1 : a.map.length ≤ 1099511627776 := by omega
  obtain ⟨a1, a2, a3, a4, a5, a6⟩ := a
  obtain ⟨c1, c2, c3, c4, c5, c6⟩ := b
  simp only at ha1 ha2 ha3 ha4 b1
  by_cases h3 : ¬ a3 = c3
  · simp [F_r11_Same, D30, b1, h3]
  replace h3 := Decidable.not_not.1 h3
  subst h3
  by_cases h1 : ¬ a1 = c1
  · simp [F_r11_Same, D30, b1, h1]
  replace h1 := Decidable.not_not.1 h1
  subst h1
  by_cases h2 : ¬ a2 = c2
  · simp [F_r11_Same, D30, b1, h2]
  replace h2 := Decidable.not_not.1 h2
  subst h2
  by_cases h5 : ¬ a5 = c5
  · simp [F_r11_Same, D30, b1, h5]
  replace h5 := Decidable.not_not.1 h5
  subst h5
  by_cases h6 : ¬ a6 = c6
  · simp [F_r11_Same, D30, b1, h6]
  replace h6 := Decidable.not_not.1 h6
  subst h6
  by_cases h4 : ¬ a4.length = c4.length
  · have e : ¬ a4 = c4 := fun e => h4 (by rw [e])
    have h4' : ¬ (a4.length : Int) = c4.length := by omega
    simp [F_r11_Same, D30, b1, h4', e]
  replace h4 := Decidable.not_not.1 h4
  simp [F_r11_Same, D30, b1, h4]
  refine wp_loop (SameI ⟨a1, a2, a3, a4, a5, a6⟩ ⟨a1, a2, a3, c4, a5, a6⟩) a4.length (IW.of ⟨0, [], [], by simp, by simp, by simp, by simp, by simp, rfl⟩) fun k s m ⟨i, bx, tips, hik, heq, s2, s3, s6, hm⟩ => ?_
  subst hm
  simp only at hik heq
  by_cases hi : i < a4.length
  · have hg : a4[i]? = some a4[i] := List.getElem?_eq_getElem hi
    have hic : i < c4.length := by omega
    have hg' : c4[i]? = some c4[i] := List.getElem?_eq_getElem hic
    have w1 := IntWalk.i64_in ((i : Int) + 1) (by omega)
    have hpl := ha3 a4[i] (List.getElem_mem hi)
    have b2 : a4[i].map.length ≤ 1099511627776 := by omega
    have t1 : a4.take (i + 1) = a4.take i ++ [a4[i]] := by rw [List.take_add_one, hg]; rfl
    have t2 : c4.take (i + 1) = c4.take i ++ [c4[i]] := by rw [List.take_add_one, hg']; rfl
    by_cases hx : a4[i] = c4[i]
    · simp [F_r11_Same_L0, D30, s2, s3, s6, hi, hic, hg, hg', w1, b2, ← hx, ← h4]
      refine ⟨k - 1, by omega, IW.of (show SameI _ _ _ _ _ from ⟨i + 1, _, _, by simp; omega, by simp only; rw [t1, t2, heq, hx], by simpa using s2, by simpa using s3, by simp, rfl⟩)⟩
    · have e : ¬ a4 = c4 := by
        rintro rfl
        exact hx rfl
      simp [F_r11_Same_L0, D30, s2, s3, s6, hi, hic, hg, hg', w1, b2, hx, ← h4, e]
  · have e : a4 = c4 := by
      rw [List.take_of_length_le (by omega), List.take_of_length_le (by omega)] at heq
      exact heq
    subst e
    simp [F_r11_Same_L0, D30, s2, s3, s6, hi]
end Go.Av
