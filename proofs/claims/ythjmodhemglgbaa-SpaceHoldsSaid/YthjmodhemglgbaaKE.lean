/-
  SnO: Numbers and compact codes of functions.
  PlA: Sums, by numbers: no Go here.
  SnG: Contracts of package crc, and of the reference of chapter 2.
  PlB: Extents: no Go here.
  SnH: Contracts of package extent, and of the reference of chapter 7.
  SnI: Contracts of package extent, and of the reference of chapter 7: bytes.
  AvY: Contracts on the memory that is there.
  SnJ: Contracts of package extent, and of the reference of chapter 7: what bytes are.
  SnK: What bytes are, by the reference of chapter 7.
-/
import Derived.Test.YthjmodhemglgbaaKD
import Derived.Test.YthjmodhemglgbaaRows
set_option linter.unusedSimpArgs false
set_option linter.unusedVariables false

namespace Go.Av
open Go.Proofs

@[simp] abbrev n_bytes_Equal : FuncId := 130
def F_bytes_Equal : F := ⟨(.seq (.ops [⟨(some 4), none, (.mov (.c (.bool false)))⟩]) (.seq (.ops [⟨(some 5), none, (.mov (.t 0))⟩, ⟨(some 6), none, (.b2s (.t 5))⟩, ⟨(some 7), none, (.mov (.t 1))⟩, ⟨(some 8), none, (.b2s (.t 7))⟩, ⟨(some 9), none, (.bin .eql (.t 6) (.t 8))⟩, ⟨(some 4), none, (.mov (.t 9))⟩]) .ret)), 10, [(.tmp 4)]⟩
theorem F_bytes_Equal_ok : compF Try.prog (fun _ => true) 130 = some F_bytes_Equal := by kernel_rfl
@[simp] abbrev n_crc_halves : FuncId := 199
def F_crc_halves : F := ⟨(.seq (.ops [⟨(some 0), none, (.alc [(.val (.int .u32 0)), (.val (.int .u32 0)), (.val (.int .u32 0)), (.val (.int .u32 0)), (.val (.int .u32 0)), (.val (.int .u32 0)), (.val (.int .u32 0)), (.val (.int .u32 0)), (.val (.int .u32 0)), (.val (.int .u32 0)), (.val (.int .u32 0)), (.val (.int .u32 0)), (.val (.int .u32 0)), (.val (.int .u32 0)), (.val (.int .u32 0)), (.val (.int .u32 0))])⟩]) (.seq (.ops [⟨(some 1), none, (.bld [(.val (.int .u32 0)), (.val (.int .u32 0)), (.val (.int .u32 0)), (.val (.int .u32 0)), (.val (.int .u32 0)), (.val (.int .u32 0)), (.val (.int .u32 0)), (.val (.int .u32 0)), (.val (.int .u32 0)), (.val (.int .u32 0)), (.val (.int .u32 0)), (.val (.int .u32 0)), (.val (.int .u32 0)), (.val (.int .u32 0)), (.val (.int .u32 0)), (.val (.int .u32 0))] [(0, (1, (.c (.int .u32 0)))), (1, (1, (.c (.int .u32 274646895)))), (2, (1, (.c (.int .u32 549293790)))), (3, (1, (.c (.int .u32 820201905)))), (4, (1, (.c (.int .u32 1098587580)))), (5, (1, (.c (.int .u32 1361435347)))), (6, (1, (.c (.int .u32 1640403810)))), (7, (1, (.c (.int .u32 1905808397)))), (8, (1, (.c (.int .u32 2197175160)))), (9, (1, (.c (.int .u32 2460548119)))), (10, (1, (.c (.int .u32 2722870694)))), (11, (1, (.c (.int .u32 2987750089)))), (12, (1, (.c (.int .u32 3280807620)))), (13, (1, (.c (.int .u32 3553878443)))), (14, (1, (.c (.int .u32 3811616794)))), (15, (1, (.c (.int .u32 4084100981))))])⟩, ⟨none, none, (.st (.t 0) 16 (.t 1))⟩]) .ret)), 2, [(.cell 0 (some 16))]⟩
theorem F_crc_halves_ok : compF Try.prog (fun _ => true) 199 = some F_crc_halves := by kernel_rfl
@[simp] abbrev n_crc_More : FuncId := 171
def F_crc_More_L0 : C := (.seq (.ops [⟨(some 14), none, (.bin .lss (.t 13) (.t 12))⟩]) (.seq (.cond (.t 14) .skip (.exit 0)) (.seq (.block 1 (.seq (.ops [⟨(some 15), none, (.ixs (.t 11) (.t 13) 1)⟩, ⟨(some 16), none, (.lde (.t 15) none)⟩, ⟨(some 7), none, (.mov (.t 16))⟩]) (.seq (.ops [⟨(some 17), none, (.mov (.t 0))⟩, ⟨(some 18), none, (.mov (.t 7))⟩, ⟨(some 19), none, (.conv .u32 (.t 18))⟩, ⟨(some 20), none, (.bin .xor (.t 17) (.t 19))⟩, ⟨(some 0), none, (.mov (.t 20))⟩]) (.seq (.ops [⟨(some 21), none, (.mov (.t 0))⟩, ⟨(some 22), none, (.bin .shr (.t 21) (.c (.int .u64 4)))⟩, ⟨(some 23), none, (.mov (.t 0))⟩, ⟨(some 24), none, (.bin .and (.t 23) (.c (.int .u32 15)))⟩, ⟨(some 25), none, (.ixa (.t 5) (.t 24) 16 1)⟩, ⟨(some 26), none, (.ld (.t 25) none)⟩, ⟨(some 27), none, (.bin .xor (.t 22) (.t 26))⟩, ⟨(some 0), none, (.mov (.t 27))⟩]) (.ops [⟨(some 28), none, (.mov (.t 0))⟩, ⟨(some 29), none, (.bin .shr (.t 28) (.c (.int .u64 4)))⟩, ⟨(some 30), none, (.mov (.t 0))⟩, ⟨(some 31), none, (.bin .and (.t 30) (.c (.int .u32 15)))⟩, ⟨(some 32), none, (.ixa (.t 5) (.t 31) 16 1)⟩, ⟨(some 33), none, (.ld (.t 32) none)⟩, ⟨(some 34), none, (.bin .xor (.t 29) (.t 33))⟩, ⟨(some 0), none, (.mov (.t 34))⟩]))))) (.ops [⟨(some 35), none, (.bin .add (.t 13) (.c (.int .i64 1)))⟩, ⟨(some 13), none, (.mov (.t 35))⟩]))))
def F_crc_More : F := ⟨(.seq (.ops [⟨(some 4), none, (.mov (.c (.int .u32 0)))⟩]) (.seq (.ops [⟨(some 8), none, (.call 199 [])⟩, ⟨(some 5), none, (.alc [(.val (.int .u32 0)), (.val (.int .u32 0)), (.val (.int .u32 0)), (.val (.int .u32 0)), (.val (.int .u32 0)), (.val (.int .u32 0)), (.val (.int .u32 0)), (.val (.int .u32 0)), (.val (.int .u32 0)), (.val (.int .u32 0)), (.val (.int .u32 0)), (.val (.int .u32 0)), (.val (.int .u32 0)), (.val (.int .u32 0)), (.val (.int .u32 0)), (.val (.int .u32 0))])⟩, ⟨none, none, (.st (.t 5) 16 (.t 8))⟩]) (.seq (.ops [⟨(some 9), none, (.mov (.t 0))⟩, ⟨(some 10), none, (.bin .xor (.t 9) (.c (.int .u32 4294967295)))⟩, ⟨(some 0), none, (.mov (.t 10))⟩]) (.seq (.seq (.ops [⟨(some 11), none, (.mov (.t 1))⟩, ⟨(some 12), none, (.len (.t 11))⟩, ⟨(some 13), none, (.mov (.c (.int .i64 0)))⟩]) (.block 0 (.loop F_crc_More_L0))) (.seq (.ops [⟨(some 36), none, (.mov (.t 0))⟩, ⟨(some 37), none, (.bin .xor (.t 36) (.c (.int .u32 4294967295)))⟩, ⟨(some 4), none, (.mov (.t 37))⟩]) .ret))))), 38, [(.tmp 4)]⟩
theorem F_crc_More_ok : compF Try.prog (fun _ => true) 171 = some F_crc_More := by kernel_rfl
@[simp] abbrev n_crc_Sum : FuncId := 122
def F_crc_Sum : F := ⟨(.seq (.ops [⟨(some 2), none, (.mov (.c (.int .u32 0)))⟩]) (.seq (.ops [⟨(some 3), none, (.mov (.t 0))⟩, ⟨(some 4), none, (.call 171 [(.c (.int .u32 0)), (.t 3)])⟩, ⟨(some 2), none, (.mov (.t 4))⟩]) .ret)), 5, [(.tmp 2)]⟩
theorem F_crc_Sum_ok : compF Try.prog (fun _ => true) 122 = some F_crc_Sum := by kernel_rfl
@[simp] abbrev n_crc_Seal : FuncId := 71
def F_crc_Seal : F := ⟨(.seq (.ops [⟨(some 2), none, (.nil 5 1 true)⟩]) (.seq (.ops [⟨(some 6), none, (.mov (.t 0))⟩, ⟨(some 7), none, (.mov (.t 0))⟩, ⟨(some 8), none, (.call 122 [(.t 7)])⟩, ⟨(some 9), none, (.conv .u64 (.t 8))⟩, ⟨(some 10), none, (.call 69 [(.t 6), (.t 9), (.c (.int .i64 4))])⟩, ⟨(some 5), none, (.mov (.t 10))⟩, ⟨(some 11), none, (.ext (.t 5) 0)⟩, ⟨(some 12), none, (.ext (.t 5) 1)⟩, ⟨(some 3), none, (.mov (.t 11))⟩, ⟨(some 4), none, (.mov (.t 12))⟩]) (.seq (.ops [⟨(some 13), none, (.mov (.t 3))⟩, ⟨(some 2), none, (.mov (.t 13))⟩]) .ret))), 14, [(.tmp 2)]⟩
theorem F_crc_Seal_ok : compF Try.prog (fun _ => true) 71 = some F_crc_Seal := by kernel_rfl
@[simp] abbrev n_crc_Open : FuncId := 79
def F_crc_Open : F := ⟨(.seq (.ops [⟨(some 2), none, (.nil 5 1 true)⟩, ⟨(some 3), none, (.mov (.c (.int .i64 0)))⟩]) (.seq (.ops [⟨(some 5), none, (.mov (.t 0))⟩, ⟨(some 6), none, (.len (.t 5))⟩, ⟨(some 7), none, (.bin .sub (.t 6) (.c (.int .i64 4)))⟩, ⟨(some 4), none, (.mov (.t 7))⟩]) (.seq (.seq (.ops [⟨(some 8), none, (.mov (.t 4))⟩, ⟨(some 9), none, (.bin .lss (.t 8) (.c (.int .i64 0)))⟩, ⟨(some 10), none, (.mov (.t 9))⟩, ⟨(some 11), (some (10, false)), (.mov (.t 0))⟩, ⟨(some 12), (some (10, false)), (.mov (.t 4))⟩, ⟨(some 13), (some (10, false)), (.slc (.t 11) none (some (.t 12)) none 1)⟩, ⟨(some 14), (some (10, false)), (.call 71 [(.t 13)])⟩, ⟨(some 15), (some (10, false)), (.mov (.t 0))⟩, ⟨(some 16), (some (10, false)), (.call 130 [(.t 14), (.t 15)])⟩, ⟨(some 17), (some (10, false)), (.un .not (.t 16))⟩, ⟨(some 18), none, (.pick (.t 10) (.c (.bool true)) (.t 17))⟩]) (.cond (.t 18) (.seq (.ops [⟨(some 2), none, (.nil 5 1 true)⟩, ⟨(some 3), none, (.mov (.c (.int .i64 20)))⟩]) .ret) .skip)) (.seq (.ops [⟨(some 19), none, (.mkl 5 1 [] true)⟩, ⟨(some 20), none, (.mov (.t 0))⟩, ⟨(some 21), none, (.mov (.t 4))⟩, ⟨(some 22), none, (.slc (.t 20) none (some (.t 21)) none 1)⟩, ⟨(some 23), none, (.app (.t 19) (.t 22) 5 1 1 true)⟩, ⟨(some 2), none, (.mov (.t 23))⟩, ⟨(some 3), none, (.mov (.c (.int .i64 0)))⟩]) .ret)))), 24, [(.tmp 2), (.tmp 3)]⟩
theorem F_crc_Open_ok : compF Try.prog (fun _ => true) 79 = some F_crc_Open := by kernel_rfl
@[simp] abbrev n_r02_step : FuncId := 175
def F_r02_step : F := ⟨(.seq (.ops [⟨(some 2), none, (.mov (.c (.int .u32 0)))⟩]) (.seq (.seq (.ops [⟨(some 3), none, (.mov (.t 0))⟩, ⟨(some 4), none, (.bin .rem (.t 3) (.c (.int .u32 2)))⟩, ⟨(some 5), none, (.bin .eql (.t 4) (.c (.int .u32 1)))⟩]) (.cond (.t 5) (.seq (.ops [⟨(some 6), none, (.mov (.t 0))⟩, ⟨(some 7), none, (.bin .quo (.t 6) (.c (.int .u32 2)))⟩, ⟨(some 8), none, (.bin .xor (.t 7) (.c (.int .u32 2197175160)))⟩, ⟨(some 2), none, (.mov (.t 8))⟩]) .ret) .skip)) (.seq (.ops [⟨(some 9), none, (.mov (.t 0))⟩, ⟨(some 10), none, (.bin .quo (.t 9) (.c (.int .u32 2)))⟩, ⟨(some 2), none, (.mov (.t 10))⟩]) .ret))), 11, [(.tmp 2)]⟩
theorem F_r02_step_ok : compF Try.prog (fun _ => true) 175 = some F_r02_step := by kernel_rfl
@[simp] abbrev n_r02_More : FuncId := 127
def F_r02_More_L0 : C := (.seq (.seq (.ops [⟨(some 23), none, (.mov (.t 7))⟩, ⟨(some 24), none, (.bin .lss (.t 23) (.c (.int .i64 8)))⟩]) (.cond (.t 24) .skip (.exit 2))) (.seq (.block 3 (.ops [⟨(some 27), none, (.mov (.t 5))⟩, ⟨(some 28), none, (.call 175 [(.t 27)])⟩, ⟨(some 5), none, (.mov (.t 28))⟩])) (.ops [⟨(some 25), none, (.mov (.t 7))⟩, ⟨(some 26), none, (.bin .add (.t 25) (.c (.int .i64 1)))⟩, ⟨(some 7), none, (.mov (.t 26))⟩])))
def F_r02_More_L1 : C := (.seq (.seq (.ops [⟨(some 10), none, (.mov (.t 6))⟩, ⟨(some 11), none, (.mov (.t 1))⟩, ⟨(some 12), none, (.len (.t 11))⟩, ⟨(some 13), none, (.bin .lss (.t 10) (.t 12))⟩]) (.cond (.t 13) .skip (.exit 0))) (.seq (.block 1 (.seq (.ops [⟨(some 16), none, (.mov (.t 5))⟩, ⟨(some 17), none, (.mov (.t 1))⟩, ⟨(some 18), none, (.mov (.t 6))⟩, ⟨(some 19), none, (.ixs (.t 17) (.t 18) 1)⟩, ⟨(some 20), none, (.lde (.t 19) none)⟩, ⟨(some 21), none, (.conv .u32 (.t 20))⟩, ⟨(some 22), none, (.bin .xor (.t 16) (.t 21))⟩, ⟨(some 5), none, (.mov (.t 22))⟩]) (.seq (.ops [⟨(some 7), none, (.mov (.c (.int .i64 0)))⟩]) (.block 2 (.loop F_r02_More_L0))))) (.ops [⟨(some 14), none, (.mov (.t 6))⟩, ⟨(some 15), none, (.bin .add (.t 14) (.c (.int .i64 1)))⟩, ⟨(some 6), none, (.mov (.t 15))⟩])))
def F_r02_More : F := ⟨(.seq (.ops [⟨(some 4), none, (.mov (.c (.int .u32 0)))⟩]) (.seq (.ops [⟨(some 8), none, (.mov (.t 0))⟩, ⟨(some 9), none, (.bin .xor (.t 8) (.c (.int .u32 4294967295)))⟩, ⟨(some 5), none, (.mov (.t 9))⟩]) (.seq (.seq (.ops [⟨(some 6), none, (.mov (.c (.int .i64 0)))⟩]) (.block 0 (.loop F_r02_More_L1))) (.seq (.ops [⟨(some 29), none, (.mov (.t 5))⟩, ⟨(some 30), none, (.bin .xor (.t 29) (.c (.int .u32 4294967295)))⟩, ⟨(some 4), none, (.mov (.t 30))⟩]) .ret)))), 31, [(.tmp 4)]⟩
theorem F_r02_More_ok : compF Try.prog (fun _ => true) 127 = some F_r02_More := by kernel_rfl
@[simp] abbrev n_r02_Seal : FuncId := 75
def F_r02_Seal : F := ⟨(.seq (.ops [⟨(some 2), none, (.nil 5 1 true)⟩]) (.seq (.ops [⟨(some 6), none, (.mov (.t 0))⟩, ⟨(some 7), none, (.mov (.t 0))⟩, ⟨(some 8), none, (.call 127 [(.c (.int .u32 0)), (.t 7)])⟩, ⟨(some 9), none, (.conv .u64 (.t 8))⟩, ⟨(some 10), none, (.call 78 [(.t 6), (.t 9), (.c (.int .i64 4))])⟩, ⟨(some 5), none, (.mov (.t 10))⟩, ⟨(some 11), none, (.ext (.t 5) 0)⟩, ⟨(some 12), none, (.ext (.t 5) 1)⟩, ⟨(some 3), none, (.mov (.t 11))⟩, ⟨(some 4), none, (.mov (.t 12))⟩]) (.seq (.ops [⟨(some 13), none, (.mov (.t 3))⟩, ⟨(some 2), none, (.mov (.t 13))⟩]) .ret))), 14, [(.tmp 2)]⟩
theorem F_r02_Seal_ok : compF Try.prog (fun _ => true) 75 = some F_r02_Seal := by kernel_rfl
@[simp] abbrev n_extent_within : FuncId := 169
def F_extent_within : F := ⟨(.seq (.ops [⟨(some 6), none, (.mov (.c (.bool false)))⟩]) (.seq (.ops [⟨(some 7), none, (.mov (.t 0))⟩, ⟨(some 8), none, (.mov (.t 1))⟩, ⟨(some 9), none, (.bin .geq (.t 7) (.t 8))⟩, ⟨(some 10), none, (.mov (.t 9))⟩, ⟨(some 11), (some (10, true)), (.mov (.t 0))⟩, ⟨(some 12), (some (10, true)), (.mov (.t 2))⟩, ⟨(some 13), (some (10, true)), (.bin .leq (.t 11) (.t 12))⟩, ⟨(some 14), none, (.pick (.t 10) (.t 13) (.c (.bool false)))⟩, ⟨(some 6), none, (.mov (.t 14))⟩]) .ret)), 15, [(.tmp 6)]⟩
theorem F_extent_within_ok : compF Try.prog (fun _ => true) 169 = some F_extent_within := by kernel_rfl
@[simp] abbrev n_extent_data : FuncId := 132
def F_extent_data : F := ⟨(.seq (.ops [⟨(some 1), none, (.box (.t 0))⟩, ⟨(some 2), none, (.mov (.c (.int .i64 0)))⟩]) (.seq (.seq (.ops [⟨(some 3), none, (.fad (.t 1) 2)⟩, ⟨(some 4), none, (.ld (.t 3) none)⟩, ⟨(some 5), none, (.bin .eql (.t 4) (.c (.int .i64 2)))⟩]) (.cond (.t 5) (.seq (.ops [⟨(some 6), none, (.fad (.t 1) 1)⟩, ⟨(some 7), none, (.ld (.t 6) none)⟩, ⟨(some 8), none, (.bin .mul (.t 7) (.c (.int .i64 32)))⟩, ⟨(some 2), none, (.mov (.t 8))⟩]) .ret) .skip)) (.seq (.ops [⟨(some 2), none, (.mov (.c (.int .i64 0)))⟩]) .ret))), 9, [(.tmp 2)]⟩
theorem F_extent_data_ok : compF Try.prog (fun _ => true) 132 = some F_extent_data := by kernel_rfl
@[simp] abbrev n_extent_Check : FuncId := 119
def F_extent_Check : F := ⟨(.seq (.ops [⟨(some 1), none, (.box (.t 0))⟩, ⟨(some 2), none, (.mov (.c (.bool false)))⟩]) (.seq (.dops false [] [⟨(some 3), none, (.fad (.t 1) 0)⟩, ⟨(some 4), none, (.ld (.t 3) none)⟩, ⟨(some 5), none, (.callq 169 [(.t 4), (.c (.int .i64 0)), (.c (.int .i64 64))])⟩, ⟨(some 6), none, (.mov (.t 5))⟩, ⟨(some 7), (some (6, true)), (.fad (.t 1) 1)⟩, ⟨(some 8), (some (6, true)), (.ld (.t 7) none)⟩, ⟨(some 9), (some (6, true)), (.fad (.t 1) 0)⟩, ⟨(some 10), (some (6, true)), (.ld (.t 9) none)⟩, ⟨(some 11), (some (6, true)), (.bin .sub (.c (.int .i64 64)) (.t 10))⟩, ⟨(some 12), (some (6, true)), (.callq 169 [(.t 8), (.c (.int .i64 1)), (.t 11)])⟩, ⟨(some 13), none, (.pick (.t 6) (.t 12) (.c (.bool false)))⟩, ⟨(some 14), none, (.mov (.t 13))⟩, ⟨(some 15), (some (14, true)), (.fad (.t 1) 2)⟩, ⟨(some 16), (some (14, true)), (.ld (.t 15) none)⟩, ⟨(some 17), (some (14, true)), (.callq 169 [(.t 16), (.c (.int .i64 0)), (.c (.int .i64 2))])⟩, ⟨(some 18), none, (.pick (.t 14) (.t 17) (.c (.bool false)))⟩, ⟨(some 19), none, (.mov (.t 18))⟩, ⟨(some 20), (some (19, true)), (.fad (.t 1) 3)⟩, ⟨(some 21), (some (19, true)), (.ld (.t 20) none)⟩, ⟨(some 22), (some (19, true)), (.callq 169 [(.t 21), (.c (.int .i64 0)), (.c (.int .i64 2147483647))])⟩, ⟨(some 23), none, (.pick (.t 19) (.t 22) (.c (.bool false)))⟩, ⟨(some 24), none, (.mov (.t 23))⟩, ⟨(some 25), (some (24, true)), (.fad (.t 1) 4)⟩, ⟨(some 26), (some (24, true)), (.ld (.t 25) none)⟩, ⟨(some 27), (some (24, true)), (.len (.t 26))⟩, ⟨(some 28), (some (24, true)), (.ld (.t 1) (some 5))⟩, ⟨(some 29), (some (24, true)), (.callq 132 [(.t 28)])⟩, ⟨(some 30), (some (24, true)), (.bin .eql (.t 27) (.t 29))⟩, ⟨(some 31), none, (.pick (.t 24) (.t 30) (.c (.bool false)))⟩, ⟨(some 2), none, (.mov (.t 31))⟩]) .ret)), 32, [(.tmp 2)]⟩
theorem F_extent_Check_ok : compF Try.prog (fun _ => true) 119 = some F_extent_Check := by kernel_rfl
@[simp] abbrev n_extent_Joins : FuncId := 177
def F_extent_Joins : F := ⟨(.seq (.ops [⟨(some 2), none, (.box (.t 0))⟩, ⟨(some 3), none, (.box (.t 1))⟩, ⟨(some 4), none, (.mov (.c (.bool false)))⟩]) (.seq (.ops [⟨(some 5), none, (.ld (.t 2) (some 5))⟩, ⟨(some 6), none, (.call 119 [(.t 5)])⟩, ⟨(some 7), none, (.mov (.t 6))⟩, ⟨(some 8), (some (7, true)), (.ld (.t 3) (some 5))⟩, ⟨(some 9), (some (7, true)), (.call 119 [(.t 8)])⟩, ⟨(some 10), none, (.pick (.t 7) (.t 9) (.c (.bool false)))⟩, ⟨(some 11), none, (.mov (.t 10))⟩, ⟨(some 12), (some (11, true)), (.fad (.t 2) 0)⟩, ⟨(some 13), (some (11, true)), (.ld (.t 12) none)⟩, ⟨(some 14), (some (11, true)), (.fad (.t 2) 1)⟩, ⟨(some 15), (some (11, true)), (.ld (.t 14) none)⟩, ⟨(some 16), (some (11, true)), (.bin .add (.t 13) (.t 15))⟩, ⟨(some 17), (some (11, true)), (.fad (.t 3) 0)⟩, ⟨(some 18), (some (11, true)), (.ld (.t 17) none)⟩, ⟨(some 19), (some (11, true)), (.bin .eql (.t 16) (.t 18))⟩, ⟨(some 20), none, (.pick (.t 11) (.t 19) (.c (.bool false)))⟩, ⟨(some 21), none, (.mov (.t 20))⟩, ⟨(some 22), (some (21, true)), (.fad (.t 2) 2)⟩, ⟨(some 23), (some (21, true)), (.ld (.t 22) none)⟩, ⟨(some 24), (some (21, true)), (.fad (.t 3) 2)⟩, ⟨(some 25), (some (21, true)), (.ld (.t 24) none)⟩, ⟨(some 26), (some (21, true)), (.bin .eql (.t 23) (.t 25))⟩, ⟨(some 27), none, (.pick (.t 21) (.t 26) (.c (.bool false)))⟩, ⟨(some 28), none, (.mov (.t 27))⟩, ⟨(some 29), (some (28, true)), (.fad (.t 2) 3)⟩, ⟨(some 30), (some (28, true)), (.ld (.t 29) none)⟩, ⟨(some 31), (some (28, true)), (.fad (.t 3) 3)⟩, ⟨(some 32), (some (28, true)), (.ld (.t 31) none)⟩, ⟨(some 33), (some (28, true)), (.bin .eql (.t 30) (.t 32))⟩, ⟨(some 34), none, (.pick (.t 28) (.t 33) (.c (.bool false)))⟩, ⟨(some 4), none, (.mov (.t 34))⟩]) .ret)), 35, [(.tmp 4)]⟩
theorem F_extent_Joins_ok : compF Try.prog (fun _ => true) 177 = some F_extent_Joins := by kernel_rfl
@[simp] abbrev n_extent_Cut : FuncId := 141
def F_extent_Cut : F := ⟨(.seq (.ops [⟨(some 3), none, (.box (.t 0))⟩, ⟨(some 6), none, (.alc [(.val (.int .i64 0)), (.val (.int .i64 0)), (.val (.int .i64 0)), (.val (.int .i64 0)), (.lit 1 [])])⟩, ⟨(some 7), none, (.mov (.c (.bool false)))⟩]) (.seq (.seq (.ops [⟨(some 11), none, (.ld (.t 3) (some 5))⟩, ⟨(some 12), none, (.call 119 [(.t 11)])⟩, ⟨(some 13), none, (.un .not (.t 12))⟩, ⟨(some 14), none, (.mov (.t 13))⟩, ⟨(some 15), (some (14, false)), (.mov (.t 1))⟩, ⟨(some 16), (some (14, false)), (.call 169 [(.t 15), (.c (.int .i64 0)), (.c (.int .i64 64))])⟩, ⟨(some 17), (some (14, false)), (.un .not (.t 16))⟩, ⟨(some 18), none, (.pick (.t 14) (.c (.bool true)) (.t 17))⟩, ⟨(some 19), none, (.mov (.t 18))⟩, ⟨(some 20), (some (19, false)), (.mov (.t 2))⟩, ⟨(some 21), (some (19, false)), (.call 169 [(.t 20), (.c (.int .i64 0)), (.c (.int .i64 64))])⟩, ⟨(some 22), (some (19, false)), (.un .not (.t 21))⟩, ⟨(some 23), none, (.pick (.t 19) (.c (.bool true)) (.t 22))⟩]) (.cond (.t 23) (.seq (.ops [⟨(some 24), none, (.bld [(.val (.int .i64 0)), (.val (.int .i64 0)), (.val (.int .i64 0)), (.val (.int .i64 0)), (.lit 1 [])] [])⟩, ⟨none, none, (.st (.t 6) 5 (.t 24))⟩, ⟨(some 7), none, (.mov (.c (.bool false)))⟩]) .ret) .skip)) (.seq (.dops false [] [⟨(some 25), none, (.fad (.t 3) 0)⟩, ⟨(some 26), none, (.ld (.t 25) none)⟩, ⟨(some 27), none, (.mov (.t 1))⟩, ⟨(some 28), none, (.mm true (.t 26) (.t 27))⟩, ⟨(some 29), none, (.fad (.t 3) 0)⟩, ⟨(some 30), none, (.ld (.t 29) none)⟩, ⟨(some 31), none, (.fad (.t 3) 1)⟩, ⟨(some 32), none, (.ld (.t 31) none)⟩, ⟨(some 33), none, (.bin .add (.t 30) (.t 32))⟩, ⟨(some 34), none, (.mov (.t 1))⟩, ⟨(some 35), none, (.mov (.t 2))⟩, ⟨(some 36), none, (.bin .add (.t 34) (.t 35))⟩, ⟨(some 37), none, (.mm false (.t 33) (.t 36))⟩, ⟨(some 8), none, (.mov (.t 28))⟩, ⟨(some 9), none, (.mov (.t 37))⟩]) (.seq (.seq (.ops [⟨(some 38), none, (.mov (.t 8))⟩, ⟨(some 39), none, (.mov (.t 9))⟩, ⟨(some 40), none, (.bin .geq (.t 38) (.t 39))⟩]) (.cond (.t 40) (.seq (.ops [⟨(some 41), none, (.bld [(.val (.int .i64 0)), (.val (.int .i64 0)), (.val (.int .i64 0)), (.val (.int .i64 0)), (.lit 1 [])] [])⟩, ⟨none, none, (.st (.t 6) 5 (.t 41))⟩, ⟨(some 7), none, (.mov (.c (.bool false)))⟩]) .ret) .skip)) (.seq (.ops [⟨(some 42), none, (.fad (.t 3) 4)⟩, ⟨(some 43), none, (.ld (.t 42) none)⟩, ⟨(some 10), none, (.mov (.t 43))⟩]) (.seq (.seq (.ops [⟨(some 44), none, (.fad (.t 3) 4)⟩, ⟨none, none, (.st (.t 44) 1 (.c (.slice none 0 0)))⟩]) (.seq (.ops [⟨(some 45), none, (.fad (.t 3) 2)⟩, ⟨(some 46), none, (.ld (.t 45) none)⟩, ⟨(some 47), none, (.bin .eql (.t 46) (.c (.int .i64 2)))⟩]) (.cond (.t 47) (.ops [⟨(some 48), none, (.mov (.t 10))⟩, ⟨(some 49), none, (.mov (.t 8))⟩, ⟨(some 50), none, (.fad (.t 3) 0)⟩, ⟨(some 51), none, (.ld (.t 50) none)⟩, ⟨(some 52), none, (.bin .sub (.t 49) (.t 51))⟩, ⟨(some 53), none, (.bin .mul (.t 52) (.c (.int .i64 32)))⟩, ⟨(some 54), none, (.mov (.t 9))⟩, ⟨(some 55), none, (.fad (.t 3) 0)⟩, ⟨(some 56), none, (.ld (.t 55) none)⟩, ⟨(some 57), none, (.bin .sub (.t 54) (.t 56))⟩, ⟨(some 58), none, (.bin .mul (.t 57) (.c (.int .i64 32)))⟩, ⟨(some 59), none, (.slc (.t 48) (some (.t 53)) (some (.t 58)) none 1)⟩, ⟨(some 60), none, (.call 77 [(.t 59)])⟩, ⟨(some 61), none, (.fad (.t 3) 4)⟩, ⟨none, none, (.st (.t 61) 1 (.t 60))⟩]) .skip))) (.seq (.ops [⟨(some 62), none, (.mov (.t 8))⟩, ⟨(some 63), none, (.mov (.t 9))⟩, ⟨(some 64), none, (.mov (.t 8))⟩, ⟨(some 65), none, (.bin .sub (.t 63) (.t 64))⟩, ⟨(some 66), none, (.fad (.t 3) 0)⟩, ⟨none, none, (.st (.t 66) 1 (.t 62))⟩, ⟨(some 67), none, (.fad (.t 3) 1)⟩, ⟨none, none, (.st (.t 67) 1 (.t 65))⟩]) (.seq (.ops [⟨(some 68), none, (.ld (.t 3) (some 5))⟩, ⟨none, none, (.st (.t 6) 5 (.t 68))⟩, ⟨(some 7), none, (.mov (.c (.bool true)))⟩]) .ret)))))))), 69, [(.cell 6 (some 5)), (.tmp 7)]⟩
theorem F_extent_Cut_ok : compF Try.prog (fun _ => true) 141 = some F_extent_Cut := by kernel_rfl
@[simp] abbrev n_extent_Write : FuncId := 68
def F_extent_Write_L0 : C := (.seq (.ops [⟨(some 16), none, (.bin .lss (.t 15) (.t 14))⟩]) (.seq (.cond (.t 16) .skip (.exit 0)) (.seq (.block 1 (.seq (.ops [⟨(some 17), none, (.ixs (.t 13) (.t 15) 5)⟩, ⟨(some 18), none, (.lde (.t 17) (some 5))⟩, ⟨(some 6), none, (.alc [(.val (.int .i64 0)), (.val (.int .i64 0)), (.val (.int .i64 0)), (.val (.int .i64 0)), (.lit 1 [])])⟩, ⟨none, none, (.st (.t 6) 5 (.t 18))⟩]) (.seq (.ops [⟨(some 20), none, (.fad (.t 6) 0)⟩, ⟨(some 21), none, (.ld (.t 20) none)⟩, ⟨(some 22), none, (.conv .u64 (.t 21))⟩, ⟨(some 23), none, (.fad (.t 6) 1)⟩, ⟨(some 24), none, (.ld (.t 23) none)⟩, ⟨(some 25), none, (.conv .u64 (.t 24))⟩, ⟨(some 26), none, (.fad (.t 6) 2)⟩, ⟨(some 27), none, (.ld (.t 26) none)⟩, ⟨(some 28), none, (.conv .u64 (.t 27))⟩, ⟨(some 29), none, (.fad (.t 6) 3)⟩, ⟨(some 30), none, (.ld (.t 29) none)⟩, ⟨(some 31), none, (.conv .u64 (.t 30))⟩, ⟨(some 32), none, (.mkl 114 1 [(.t 22), (.t 25), (.t 28), (.t 31)] true)⟩, ⟨(some 33), none, (.call 70 [(.c (.string ⟨#[98, 98, 98, 119]⟩)), (.t 32)])⟩, ⟨(some 19), none, (.mov (.t 33))⟩, ⟨(some 34), none, (.ext (.t 19) 0)⟩, ⟨(some 35), none, (.ext (.t 19) 1)⟩, ⟨(some 7), none, (.mov (.t 34))⟩, ⟨(some 8), none, (.mov (.t 35))⟩]) (.seq (.seq (.ops [⟨(some 36), none, (.ld (.t 6) (some 5))⟩, ⟨(some 37), none, (.call 119 [(.t 36)])⟩, ⟨(some 38), none, (.un .not (.t 37))⟩, ⟨(some 39), none, (.mov (.t 38))⟩, ⟨(some 40), (some (39, false)), (.mov (.t 8))⟩, ⟨(some 41), (some (39, false)), (.bin .neq (.t 40) (.c (.int .i64 0)))⟩, ⟨(some 42), none, (.pick (.t 39) (.c (.bool true)) (.t 41))⟩]) (.cond (.t 42) (.seq (.ops [⟨(some 2), none, (.nil 5 1 true)⟩, ⟨(some 3), none, (.mov (.c (.int .i64 70)))⟩]) .ret) .skip)) (.dops false [] [⟨(some 43), none, (.mov (.t 4))⟩, ⟨(some 44), none, (.mov (.t 7))⟩, ⟨(some 46), none, (.fad (.t 6) 4)⟩, ⟨(some 47), none, (.ld (.t 46) none)⟩, ⟨(some 45), none, (.app (.t 43) (.t 44) 5 1 1 true)⟩, ⟨(some 48), none, (.app (.t 45) (.t 47) 5 1 1 true)⟩, ⟨(some 4), none, (.mov (.t 48))⟩]))))) (.ops [⟨(some 49), none, (.bin .add (.t 15) (.c (.int .i64 1)))⟩, ⟨(some 15), none, (.mov (.t 49))⟩]))))
def F_extent_Write : F := ⟨(.seq (.ops [⟨(some 2), none, (.nil 5 1 true)⟩, ⟨(some 3), none, (.mov (.c (.int .i64 0)))⟩]) (.seq (.ops [⟨(some 9), none, (.mov (.t 0))⟩, ⟨(some 10), none, (.len (.t 9))⟩, ⟨(some 11), none, (.conv .u8 (.t 10))⟩, ⟨(some 12), none, (.mkl 5 1 [(.t 11)] true)⟩, ⟨(some 4), none, (.mov (.t 12))⟩]) (.seq (.seq (.ops [⟨(some 13), none, (.mov (.t 0))⟩, ⟨(some 14), none, (.len (.t 13))⟩, ⟨(some 15), none, (.mov (.c (.int .i64 0)))⟩]) (.block 0 (.loop F_extent_Write_L0))) (.seq (.seq (.ops [⟨(some 50), none, (.mov (.t 0))⟩, ⟨(some 51), none, (.len (.t 50))⟩, ⟨(some 52), none, (.bin .gtr (.t 51) (.c (.int .i64 64)))⟩]) (.cond (.t 52) (.seq (.ops [⟨(some 2), none, (.nil 5 1 true)⟩, ⟨(some 3), none, (.mov (.c (.int .i64 70)))⟩]) .ret) .skip)) (.seq (.ops [⟨(some 53), none, (.mov (.t 4))⟩, ⟨(some 2), none, (.mov (.t 53))⟩, ⟨(some 3), none, (.mov (.c (.int .i64 0)))⟩]) .ret))))), 54, [(.tmp 2), (.tmp 3)]⟩
theorem F_extent_Write_ok : compF Try.prog (fun _ => true) 68 = some F_extent_Write := by kernel_rfl
@[simp] abbrev n_extent_Read : FuncId := 84
def F_extent_Read_B0 : C := (.seq (.seq (.ops [⟨(some 24), none, (.mov (.t 2))⟩, ⟨(some 25), none, (.len (.t 24))⟩, ⟨(some 26), none, (.mov (.t 4))⟩, ⟨(some 27), none, (.bin .eql (.t 25) (.t 26))⟩]) (.cond (.t 27) (.seq (.seq (.ops [⟨(some 28), none, (.ld (.t 1) none)⟩, ⟨(some 29), none, (.len (.t 28))⟩, ⟨(some 30), none, (.bin .gtr (.t 29) (.c (.int .i64 0)))⟩]) (.cond (.t 30) (.seq (.ops [⟨(some 2), none, (.nil 174 5 true)⟩, ⟨(some 3), none, (.mov (.c (.int .i64 70)))⟩]) .ret) .skip)) (.seq (.ops [⟨(some 31), none, (.mov (.t 2))⟩, ⟨(some 2), none, (.mov (.t 31))⟩, ⟨(some 3), none, (.mov (.c (.int .i64 0)))⟩]) .ret)) .skip)) (.seq (.ops [⟨(some 33), none, (.mov (.t 5))⟩, ⟨(some 34), none, (.callv (.t 33) [])⟩, ⟨(some 32), none, (.mov (.t 34))⟩, ⟨(some 35), none, (.ext (.t 32) 0)⟩, ⟨(some 36), none, (.ext (.t 32) 1)⟩, ⟨(some 6), none, (.alc [(.val (.int .i64 0)), (.val (.int .i64 0)), (.val (.int .i64 0)), (.val (.int .i64 0)), (.lit 1 [])])⟩, ⟨none, none, (.st (.t 6) 5 (.t 35))⟩, ⟨(some 7), none, (.mov (.t 36))⟩]) (.seq (.seq (.ops [⟨(some 37), none, (.mov (.t 7))⟩, ⟨(some 38), none, (.un .not (.t 37))⟩]) (.cond (.t 38) (.seq (.ops [⟨(some 2), none, (.nil 174 5 true)⟩, ⟨(some 3), none, (.mov (.c (.int .i64 70)))⟩]) .ret) .skip)) (.seq (.ops [⟨(some 39), none, (.mov (.t 2))⟩, ⟨(some 40), none, (.ld (.t 6) (some 5))⟩, ⟨(some 41), none, (.mkl 174 5 [(.t 40)] true)⟩, ⟨(some 42), none, (.app (.t 39) (.t 41) 174 5 56 true)⟩, ⟨(some 2), none, (.mov (.t 42))⟩]) (.goto 0)))))
def F_extent_Read_J0 : C := (.seq .skip F_extent_Read_B0)
def F_extent_Read_S0 : C := (.seq (.seq (.ops [⟨(some 8), none, (.ld (.t 1) none)⟩, ⟨(some 9), none, (.len (.t 8))⟩, ⟨(some 10), none, (.bin .eql (.t 9) (.c (.int .i64 0)))⟩, ⟨(some 11), none, (.mov (.t 10))⟩, ⟨(some 12), (some (11, false)), (.ld (.t 1) none)⟩, ⟨(some 13), (some (11, false)), (.ixs (.t 12) (.c (.int .i64 0)) 1)⟩, ⟨(some 14), (some (11, false)), (.lde (.t 13) none)⟩, ⟨(some 15), (some (11, false)), (.bin .gtr (.t 14) (.c (.int .u8 64)))⟩, ⟨(some 16), none, (.pick (.t 11) (.c (.bool true)) (.t 15))⟩]) (.cond (.t 16) (.seq (.ops [⟨(some 2), none, (.nil 174 5 true)⟩, ⟨(some 3), none, (.mov (.c (.int .i64 70)))⟩]) .ret) .skip)) (.seq (.ops [⟨(some 17), none, (.ld (.t 1) none)⟩, ⟨(some 18), none, (.ixs (.t 17) (.c (.int .i64 0)) 1)⟩, ⟨(some 19), none, (.lde (.t 18) none)⟩, ⟨(some 20), none, (.conv .i64 (.t 19))⟩, ⟨(some 4), none, (.mov (.t 20))⟩]) (.seq (.ops [⟨(some 21), none, (.ld (.t 1) none)⟩, ⟨(some 22), none, (.slc (.t 21) (some (.c (.int .i64 1))) none none 1)⟩, ⟨none, none, (.st (.t 1) 1 (.t 22))⟩]) (.seq (.ops [⟨(some 23), none, (.mkf 131 [(.t 1)])⟩, ⟨(some 5), none, (.mov (.t 23))⟩]) (.seq (.label 0) F_extent_Read_B0)))))
def F_extent_Read : F := ⟨(.seq (.ops [⟨(some 1), none, (.box (.t 0))⟩, ⟨(some 2), none, (.nil 174 5 true)⟩, ⟨(some 3), none, (.mov (.c (.int .i64 0)))⟩]) (.scopeJ F_extent_Read_S0 0 F_extent_Read_J0)), 43, [(.tmp 2), (.tmp 3)]⟩
theorem F_extent_Read_ok : compF Try.prog (fun _ => true) 84 = some F_extent_Read := by kernel_rfl
@[simp] abbrev n_extent_Read_1 : FuncId := 131
def F_extent_Read_1 : F := ⟨(.seq (.ops [⟨(some 1), none, (.alc [(.val (.int .i64 0)), (.val (.int .i64 0)), (.val (.int .i64 0)), (.val (.int .i64 0)), (.lit 1 [])])⟩, ⟨(some 2), none, (.mov (.c (.bool false)))⟩]) (.seq (.seq (.ops [⟨(some 6), none, (.ld (.t 0) none)⟩, ⟨(some 7), none, (.len (.t 6))⟩, ⟨(some 8), none, (.bin .lss (.t 7) (.c (.int .i64 7)))⟩]) (.cond (.t 8) (.seq (.ops [⟨(some 9), none, (.ld (.t 1) (some 5))⟩, ⟨none, none, (.st (.t 1) 5 (.t 9))⟩, ⟨(some 2), none, (.mov (.c (.bool false)))⟩]) .ret) .skip)) (.seq (.ops [⟨(some 11), none, (.ld (.t 0) none)⟩, ⟨(some 12), none, (.slc (.t 11) none (some (.c (.int .i64 7))) none 1)⟩, ⟨(some 13), none, (.call 82 [(.c (.string ⟨#[98, 98, 98, 119]⟩)), (.t 12)])⟩, ⟨(some 10), none, (.mov (.t 13))⟩, ⟨(some 14), none, (.ext (.t 10) 0)⟩, ⟨(some 15), none, (.ext (.t 10) 1)⟩, ⟨(some 3), none, (.mov (.t 14))⟩, ⟨(some 4), none, (.mov (.t 15))⟩]) (.seq (.seq (.ops [⟨(some 16), none, (.mov (.t 4))⟩, ⟨(some 17), none, (.bin .neq (.t 16) (.c (.int .i64 0)))⟩]) (.cond (.t 17) (.seq (.ops [⟨(some 18), none, (.ld (.t 1) (some 5))⟩, ⟨none, none, (.st (.t 1) 5 (.t 18))⟩, ⟨(some 2), none, (.mov (.c (.bool false)))⟩]) .ret) .skip)) (.seq (.dops false [(0, 1)] [⟨(some 19), none, (.mov (.t 3))⟩, ⟨(some 20), none, (.ixs (.t 19) (.c (.int .i64 0)) 1)⟩, ⟨(some 21), none, (.lde (.t 20) none)⟩, ⟨(some 22), none, (.conv .i64 (.t 21))⟩, ⟨(some 23), none, (.mov (.t 3))⟩, ⟨(some 24), none, (.ixs (.t 23) (.c (.int .i64 1)) 1)⟩, ⟨(some 25), none, (.lde (.t 24) none)⟩, ⟨(some 26), none, (.conv .i64 (.t 25))⟩, ⟨(some 27), none, (.mov (.t 3))⟩, ⟨(some 28), none, (.ixs (.t 27) (.c (.int .i64 2)) 1)⟩, ⟨(some 29), none, (.lde (.t 28) none)⟩, ⟨(some 30), none, (.conv .i64 (.t 29))⟩, ⟨(some 31), none, (.mov (.t 3))⟩, ⟨(some 32), none, (.ixs (.t 31) (.c (.int .i64 3)) 1)⟩, ⟨(some 33), none, (.lde (.t 32) none)⟩, ⟨(some 34), none, (.conv .i64 (.t 33))⟩, ⟨(some 35), none, (.bld [(.val (.int .i64 0)), (.val (.int .i64 0)), (.val (.int .i64 0)), (.val (.int .i64 0)), (.lit 1 [])] [(0, (1, (.t 22))), (1, (1, (.t 26))), (2, (1, (.t 30))), (3, (1, (.t 34)))])⟩, ⟨(some 36), none, (.ld (.t 0) none)⟩, ⟨(some 37), none, (.slc (.t 36) (some (.c (.int .i64 7))) none none 1)⟩, ⟨none, none, (.st (.t 1) 5 (.t 35))⟩, ⟨none, none, (.st (.t 0) 1 (.t 37))⟩]) (.seq (.seq (.ops [⟨(some 38), none, (.ld (.t 1) (some 5))⟩, ⟨(some 39), none, (.call 132 [(.t 38)])⟩, ⟨(some 5), none, (.mov (.t 39))⟩]) (.seq (.ops [⟨(some 40), none, (.mov (.t 5))⟩, ⟨(some 41), none, (.bin .gtr (.t 40) (.c (.int .i64 0)))⟩, ⟨(some 42), none, (.mov (.t 41))⟩, ⟨(some 43), (some (42, true)), (.mov (.t 5))⟩, ⟨(some 44), (some (42, true)), (.ld (.t 0) none)⟩, ⟨(some 45), (some (42, true)), (.len (.t 44))⟩, ⟨(some 46), (some (42, true)), (.bin .leq (.t 43) (.t 45))⟩, ⟨(some 47), none, (.pick (.t 42) (.t 46) (.c (.bool false)))⟩]) (.cond (.t 47) (.dops false [(0, 55)] [⟨(some 48), none, (.ld (.t 0) none)⟩, ⟨(some 49), none, (.mov (.t 5))⟩, ⟨(some 50), none, (.slc (.t 48) none (some (.t 49)) none 1)⟩, ⟨(some 51), none, (.callq 77 [(.t 50)])⟩, ⟨(some 52), none, (.ld (.t 0) none)⟩, ⟨(some 53), none, (.mov (.t 5))⟩, ⟨(some 54), none, (.slc (.t 52) (some (.t 53)) none none 1)⟩, ⟨(some 55), none, (.fad (.t 1) 4)⟩, ⟨none, none, (.st (.t 55) 1 (.t 51))⟩, ⟨none, none, (.st (.t 0) 1 (.t 54))⟩]) .skip))) (.seq (.dops false [] [⟨(some 56), none, (.ld (.t 1) (some 5))⟩, ⟨(some 57), none, (.ld (.t 1) (some 5))⟩, ⟨(some 58), none, (.callq 119 [(.t 57)])⟩, ⟨none, none, (.st (.t 1) 5 (.t 56))⟩, ⟨(some 2), none, (.mov (.t 58))⟩]) .ret))))))), 59, [(.cell 1 (some 5)), (.tmp 2)]⟩
theorem F_extent_Read_1_ok : compF Try.prog (fun _ => true) 131 = some F_extent_Read_1 := by kernel_rfl
@[simp] abbrev n_r07_Check : FuncId := 174
def F_r07_Check : F := ⟨(.seq (.ops [⟨(some 1), none, (.box (.t 0))⟩, ⟨(some 2), none, (.mov (.c (.bool false)))⟩]) (.seq (.seq (.ops [⟨(some 3), none, (.fad (.t 1) 0)⟩, ⟨(some 4), none, (.ld (.t 3) none)⟩, ⟨(some 5), none, (.bin .lss (.t 4) (.c (.int .i64 0)))⟩, ⟨(some 6), none, (.mov (.t 5))⟩, ⟨(some 7), (some (6, false)), (.fad (.t 1) 0)⟩, ⟨(some 8), (some (6, false)), (.ld (.t 7) none)⟩, ⟨(some 9), (some (6, false)), (.bin .gtr (.t 8) (.c (.int .i64 64)))⟩, ⟨(some 10), none, (.pick (.t 6) (.c (.bool true)) (.t 9))⟩, ⟨(some 11), none, (.mov (.t 10))⟩, ⟨(some 12), (some (11, false)), (.fad (.t 1) 1)⟩, ⟨(some 13), (some (11, false)), (.ld (.t 12) none)⟩, ⟨(some 14), (some (11, false)), (.bin .lss (.t 13) (.c (.int .i64 1)))⟩, ⟨(some 15), none, (.pick (.t 11) (.c (.bool true)) (.t 14))⟩, ⟨(some 16), none, (.mov (.t 15))⟩, ⟨(some 17), (some (16, false)), (.fad (.t 1) 1)⟩, ⟨(some 18), (some (16, false)), (.ld (.t 17) none)⟩, ⟨(some 19), (some (16, false)), (.fad (.t 1) 0)⟩, ⟨(some 20), (some (16, false)), (.ld (.t 19) none)⟩, ⟨(some 21), (some (16, false)), (.bin .sub (.c (.int .i64 64)) (.t 20))⟩, ⟨(some 22), (some (16, false)), (.bin .gtr (.t 18) (.t 21))⟩, ⟨(some 23), none, (.pick (.t 16) (.c (.bool true)) (.t 22))⟩, ⟨(some 24), none, (.mov (.t 23))⟩, ⟨(some 25), (some (24, false)), (.fad (.t 1) 2)⟩, ⟨(some 26), (some (24, false)), (.ld (.t 25) none)⟩, ⟨(some 27), (some (24, false)), (.bin .lss (.t 26) (.c (.int .i64 0)))⟩, ⟨(some 28), none, (.pick (.t 24) (.c (.bool true)) (.t 27))⟩, ⟨(some 29), none, (.mov (.t 28))⟩, ⟨(some 30), (some (29, false)), (.fad (.t 1) 2)⟩, ⟨(some 31), (some (29, false)), (.ld (.t 30) none)⟩, ⟨(some 32), (some (29, false)), (.bin .gtr (.t 31) (.c (.int .i64 2)))⟩, ⟨(some 33), none, (.pick (.t 29) (.c (.bool true)) (.t 32))⟩, ⟨(some 34), none, (.mov (.t 33))⟩, ⟨(some 35), (some (34, false)), (.fad (.t 1) 3)⟩, ⟨(some 36), (some (34, false)), (.ld (.t 35) none)⟩, ⟨(some 37), (some (34, false)), (.bin .lss (.t 36) (.c (.int .i64 0)))⟩, ⟨(some 38), none, (.pick (.t 34) (.c (.bool true)) (.t 37))⟩, ⟨(some 39), none, (.mov (.t 38))⟩, ⟨(some 40), (some (39, false)), (.fad (.t 1) 3)⟩, ⟨(some 41), (some (39, false)), (.ld (.t 40) none)⟩, ⟨(some 42), (some (39, false)), (.bin .geq (.t 41) (.c (.int .i64 2147483648)))⟩, ⟨(some 43), none, (.pick (.t 39) (.c (.bool true)) (.t 42))⟩]) (.cond (.t 43) (.seq (.ops [⟨(some 2), none, (.mov (.c (.bool false)))⟩]) .ret) .skip)) (.seq (.seq (.ops [⟨(some 44), none, (.fad (.t 1) 2)⟩, ⟨(some 45), none, (.ld (.t 44) none)⟩, ⟨(some 46), none, (.bin .eql (.t 45) (.c (.int .i64 2)))⟩]) (.cond (.t 46) (.seq (.ops [⟨(some 47), none, (.fad (.t 1) 4)⟩, ⟨(some 48), none, (.ld (.t 47) none)⟩, ⟨(some 49), none, (.len (.t 48))⟩, ⟨(some 50), none, (.fad (.t 1) 1)⟩, ⟨(some 51), none, (.ld (.t 50) none)⟩, ⟨(some 52), none, (.bin .mul (.c (.int .i64 32)) (.t 51))⟩, ⟨(some 53), none, (.bin .eql (.t 49) (.t 52))⟩, ⟨(some 2), none, (.mov (.t 53))⟩]) .ret) .skip)) (.seq (.ops [⟨(some 54), none, (.fad (.t 1) 4)⟩, ⟨(some 55), none, (.ld (.t 54) none)⟩, ⟨(some 56), none, (.len (.t 55))⟩, ⟨(some 57), none, (.bin .eql (.t 56) (.c (.int .i64 0)))⟩, ⟨(some 2), none, (.mov (.t 57))⟩]) .ret)))), 58, [(.tmp 2)]⟩
theorem F_r07_Check_ok : compF Try.prog (fun _ => true) 174 = some F_r07_Check := by kernel_rfl
@[simp] abbrev n_r07_Joins : FuncId := 200
def F_r07_Joins : F := ⟨(.seq (.ops [⟨(some 2), none, (.box (.t 0))⟩, ⟨(some 3), none, (.box (.t 1))⟩, ⟨(some 4), none, (.mov (.c (.bool false)))⟩]) (.seq (.ops [⟨(some 7), none, (.ld (.t 2) (some 5))⟩, ⟨(some 8), none, (.call 174 [(.t 7)])⟩, ⟨(some 5), none, (.mov (.t 8))⟩]) (.seq (.ops [⟨(some 9), none, (.ld (.t 3) (some 5))⟩, ⟨(some 10), none, (.call 174 [(.t 9)])⟩, ⟨(some 6), none, (.mov (.t 10))⟩]) (.seq (.ops [⟨(some 11), none, (.mov (.t 5))⟩, ⟨(some 12), none, (.mov (.t 11))⟩, ⟨(some 13), (some (12, true)), (.mov (.t 6))⟩, ⟨(some 14), none, (.pick (.t 12) (.t 13) (.c (.bool false)))⟩, ⟨(some 15), none, (.mov (.t 14))⟩, ⟨(some 16), (some (15, true)), (.fad (.t 2) 0)⟩, ⟨(some 17), (some (15, true)), (.ld (.t 16) none)⟩, ⟨(some 18), (some (15, true)), (.fad (.t 2) 1)⟩, ⟨(some 19), (some (15, true)), (.ld (.t 18) none)⟩, ⟨(some 20), (some (15, true)), (.bin .add (.t 17) (.t 19))⟩, ⟨(some 21), (some (15, true)), (.fad (.t 3) 0)⟩, ⟨(some 22), (some (15, true)), (.ld (.t 21) none)⟩, ⟨(some 23), (some (15, true)), (.bin .eql (.t 20) (.t 22))⟩, ⟨(some 24), none, (.pick (.t 15) (.t 23) (.c (.bool false)))⟩, ⟨(some 25), none, (.mov (.t 24))⟩, ⟨(some 26), (some (25, true)), (.fad (.t 2) 2)⟩, ⟨(some 27), (some (25, true)), (.ld (.t 26) none)⟩, ⟨(some 28), (some (25, true)), (.fad (.t 3) 2)⟩, ⟨(some 29), (some (25, true)), (.ld (.t 28) none)⟩, ⟨(some 30), (some (25, true)), (.bin .eql (.t 27) (.t 29))⟩, ⟨(some 31), none, (.pick (.t 25) (.t 30) (.c (.bool false)))⟩, ⟨(some 32), none, (.mov (.t 31))⟩, ⟨(some 33), (some (32, true)), (.fad (.t 2) 3)⟩, ⟨(some 34), (some (32, true)), (.ld (.t 33) none)⟩, ⟨(some 35), (some (32, true)), (.fad (.t 3) 3)⟩, ⟨(some 36), (some (32, true)), (.ld (.t 35) none)⟩, ⟨(some 37), (some (32, true)), (.bin .eql (.t 34) (.t 36))⟩, ⟨(some 38), none, (.pick (.t 32) (.t 37) (.c (.bool false)))⟩, ⟨(some 4), none, (.mov (.t 38))⟩]) .ret)))), 39, [(.tmp 4)]⟩
theorem F_r07_Joins_ok : compF Try.prog (fun _ => true) 200 = some F_r07_Joins := by kernel_rfl
@[simp] abbrev n_r07_Bytes : FuncId := 201
def F_r07_Bytes : F := ⟨(.seq (.ops [⟨(some 1), none, (.box (.t 0))⟩, ⟨(some 2), none, (.nil 5 1 true)⟩]) (.seq (.ops [⟨(some 4), none, (.ld (.t 1) (some 5))⟩, ⟨(some 5), none, (.call 174 [(.t 4)])⟩, ⟨(some 3), none, (.mov (.t 5))⟩]) (.seq (.seq (.ops [⟨(some 6), none, (.mov (.t 3))⟩, ⟨(some 7), none, (.un .not (.t 6))⟩]) (.cond (.t 7) (.seq (.ops [⟨(some 2), none, (.nil 5 1 true)⟩]) .ret) .skip)) (.seq (.seq (.ops [⟨(some 8), none, (.fad (.t 1) 2)⟩, ⟨(some 9), none, (.ld (.t 8) none)⟩, ⟨(some 10), none, (.bin .eql (.t 9) (.c (.int .i64 2)))⟩]) (.cond (.t 10) (.seq (.ops [⟨(some 11), none, (.mkl 5 1 [] true)⟩, ⟨(some 12), none, (.fad (.t 1) 4)⟩, ⟨(some 13), none, (.ld (.t 12) none)⟩, ⟨(some 14), none, (.app (.t 11) (.t 13) 5 1 1 true)⟩, ⟨(some 2), none, (.mov (.t 14))⟩]) .ret) .skip)) (.seq (.ops [⟨(some 15), none, (.fad (.t 1) 1)⟩, ⟨(some 16), none, (.ld (.t 15) none)⟩, ⟨(some 17), none, (.bin .mul (.c (.int .i64 32)) (.t 16))⟩, ⟨(some 18), none, (.mks (.t 17) (.t 17) 5 1 1 [(.val (.int .u8 0))] true)⟩, ⟨(some 2), none, (.mov (.t 18))⟩]) .ret))))), 19, [(.tmp 2)]⟩
theorem F_r07_Bytes_ok : compF Try.prog (fun _ => true) 201 = some F_r07_Bytes := by kernel_rfl
@[simp] abbrev n_r07_Write : FuncId := 126
def F_r07_Write_L0 : C := (.seq (.seq (.ops [⟨(some 16), none, (.mov (.t 5))⟩, ⟨(some 17), none, (.mov (.t 0))⟩, ⟨(some 18), none, (.len (.t 17))⟩, ⟨(some 19), none, (.bin .lss (.t 16) (.t 18))⟩]) (.cond (.t 19) .skip (.exit 0))) (.seq (.block 1 (.seq (.ops [⟨(some 22), none, (.mov (.t 0))⟩, ⟨(some 23), none, (.mov (.t 5))⟩, ⟨(some 24), none, (.ixs (.t 22) (.t 23) 5)⟩, ⟨(some 25), none, (.lde (.t 24) (some 5))⟩, ⟨(some 26), none, (.call 174 [(.t 25)])⟩, ⟨(some 6), none, (.mov (.t 26))⟩]) (.seq (.seq (.ops [⟨(some 27), none, (.mov (.t 6))⟩, ⟨(some 28), none, (.un .not (.t 27))⟩]) (.cond (.t 28) (.seq (.ops [⟨(some 2), none, (.nil 5 1 true)⟩, ⟨(some 3), none, (.mov (.c (.int .i64 70)))⟩]) .ret) .skip)) (.seq (.dops false [] [⟨(some 30), none, (.mov (.t 0))⟩, ⟨(some 31), none, (.mov (.t 5))⟩, ⟨(some 32), none, (.ixs (.t 30) (.t 31) 5)⟩, ⟨(some 33), none, (.fad (.t 32) 0)⟩, ⟨(some 34), none, (.lde (.t 33) none)⟩, ⟨(some 35), none, (.conv .u64 (.t 34))⟩, ⟨(some 36), none, (.mov (.t 0))⟩, ⟨(some 37), none, (.mov (.t 5))⟩, ⟨(some 38), none, (.ixs (.t 36) (.t 37) 5)⟩, ⟨(some 39), none, (.fad (.t 38) 1)⟩, ⟨(some 40), none, (.lde (.t 39) none)⟩, ⟨(some 41), none, (.conv .u64 (.t 40))⟩, ⟨(some 42), none, (.mov (.t 0))⟩, ⟨(some 43), none, (.mov (.t 5))⟩, ⟨(some 44), none, (.ixs (.t 42) (.t 43) 5)⟩, ⟨(some 45), none, (.fad (.t 44) 2)⟩, ⟨(some 46), none, (.lde (.t 45) none)⟩, ⟨(some 47), none, (.conv .u64 (.t 46))⟩, ⟨(some 48), none, (.mov (.t 0))⟩, ⟨(some 49), none, (.mov (.t 5))⟩, ⟨(some 50), none, (.ixs (.t 48) (.t 49) 5)⟩, ⟨(some 51), none, (.fad (.t 50) 3)⟩, ⟨(some 52), none, (.lde (.t 51) none)⟩, ⟨(some 53), none, (.conv .u64 (.t 52))⟩, ⟨(some 54), none, (.mkl 114 1 [(.t 35), (.t 41), (.t 47), (.t 53)] true)⟩, ⟨(some 55), none, (.call 73 [(.c (.string ⟨#[98, 98, 98, 119]⟩)), (.t 54)])⟩, ⟨(some 29), none, (.mov (.t 55))⟩, ⟨(some 56), none, (.ext (.t 29) 0)⟩, ⟨(some 57), none, (.ext (.t 29) 1)⟩, ⟨(some 7), none, (.mov (.t 56))⟩, ⟨(some 8), none, (.mov (.t 57))⟩]) (.dops false [] [⟨(some 58), none, (.mov (.t 4))⟩, ⟨(some 59), none, (.mov (.t 7))⟩, ⟨(some 61), none, (.mov (.t 0))⟩, ⟨(some 62), none, (.mov (.t 5))⟩, ⟨(some 63), none, (.ixs (.t 61) (.t 62) 5)⟩, ⟨(some 64), none, (.fad (.t 63) 4)⟩, ⟨(some 65), none, (.lde (.t 64) none)⟩, ⟨(some 60), none, (.app (.t 58) (.t 59) 5 1 1 true)⟩, ⟨(some 66), none, (.app (.t 60) (.t 65) 5 1 1 true)⟩, ⟨(some 4), none, (.mov (.t 66))⟩]))))) (.ops [⟨(some 20), none, (.mov (.t 5))⟩, ⟨(some 21), none, (.bin .add (.t 20) (.c (.int .i64 1)))⟩, ⟨(some 5), none, (.mov (.t 21))⟩])))
def F_r07_Write : F := ⟨(.seq (.ops [⟨(some 2), none, (.nil 5 1 true)⟩, ⟨(some 3), none, (.mov (.c (.int .i64 0)))⟩]) (.seq (.seq (.ops [⟨(some 9), none, (.mov (.t 0))⟩, ⟨(some 10), none, (.len (.t 9))⟩, ⟨(some 11), none, (.bin .gtr (.t 10) (.c (.int .i64 64)))⟩]) (.cond (.t 11) (.seq (.ops [⟨(some 2), none, (.nil 5 1 true)⟩, ⟨(some 3), none, (.mov (.c (.int .i64 70)))⟩]) .ret) .skip)) (.seq (.ops [⟨(some 12), none, (.mov (.t 0))⟩, ⟨(some 13), none, (.len (.t 12))⟩, ⟨(some 14), none, (.conv .u8 (.t 13))⟩, ⟨(some 15), none, (.mkl 5 1 [(.t 14)] true)⟩, ⟨(some 4), none, (.mov (.t 15))⟩]) (.seq (.seq (.ops [⟨(some 5), none, (.mov (.c (.int .i64 0)))⟩]) (.block 0 (.loop F_r07_Write_L0))) (.seq (.ops [⟨(some 67), none, (.mov (.t 4))⟩, ⟨(some 2), none, (.mov (.t 67))⟩, ⟨(some 3), none, (.mov (.c (.int .i64 0)))⟩]) .ret))))), 68, [(.tmp 2), (.tmp 3)]⟩
theorem F_r07_Write_ok : compF Try.prog (fun _ => true) 126 = some F_r07_Write := by kernel_rfl
@[simp] abbrev n_r07_Read : FuncId := 134
def F_r07_Read_L0 : C := (.seq (.seq (.ops [⟨(some 15), none, (.mov (.t 6))⟩, ⟨(some 16), none, (.mov (.t 0))⟩, ⟨(some 17), none, (.ixs (.t 16) (.c (.int .i64 0)) 1)⟩, ⟨(some 18), none, (.lde (.t 17) none)⟩, ⟨(some 19), none, (.conv .i64 (.t 18))⟩, ⟨(some 20), none, (.bin .lss (.t 15) (.t 19))⟩]) (.cond (.t 20) .skip (.exit 0))) (.seq (.block 1 (.seq (.seq (.ops [⟨(some 23), none, (.mov (.t 0))⟩, ⟨(some 24), none, (.len (.t 23))⟩, ⟨(some 25), none, (.mov (.t 5))⟩, ⟨(some 26), none, (.bin .sub (.t 24) (.t 25))⟩, ⟨(some 27), none, (.bin .lss (.t 26) (.c (.int .i64 7)))⟩]) (.cond (.t 27) (.seq (.ops [⟨(some 2), none, (.nil 174 5 true)⟩, ⟨(some 3), none, (.mov (.c (.int .i64 70)))⟩]) .ret) .skip)) (.seq (.ops [⟨(some 29), none, (.mov (.t 0))⟩, ⟨(some 30), none, (.mov (.t 5))⟩, ⟨(some 31), none, (.mov (.t 5))⟩, ⟨(some 32), none, (.bin .add (.t 31) (.c (.int .i64 7)))⟩, ⟨(some 33), none, (.slc (.t 29) (some (.t 30)) (some (.t 32)) none 1)⟩, ⟨(some 34), none, (.call 85 [(.c (.string ⟨#[98, 98, 98, 119]⟩)), (.t 33)])⟩, ⟨(some 28), none, (.mov (.t 34))⟩, ⟨(some 35), none, (.ext (.t 28) 0)⟩, ⟨(some 36), none, (.ext (.t 28) 1)⟩, ⟨(some 7), none, (.mov (.t 35))⟩, ⟨(some 8), none, (.mov (.t 36))⟩]) (.seq (.dops false [] [⟨(some 37), none, (.mov (.t 7))⟩, ⟨(some 38), none, (.ixs (.t 37) (.c (.int .i64 0)) 1)⟩, ⟨(some 39), none, (.lde (.t 38) none)⟩, ⟨(some 40), none, (.conv .i64 (.t 39))⟩, ⟨(some 41), none, (.mov (.t 7))⟩, ⟨(some 42), none, (.ixs (.t 41) (.c (.int .i64 1)) 1)⟩, ⟨(some 43), none, (.lde (.t 42) none)⟩, ⟨(some 44), none, (.conv .i64 (.t 43))⟩, ⟨(some 45), none, (.mov (.t 7))⟩, ⟨(some 46), none, (.ixs (.t 45) (.c (.int .i64 2)) 1)⟩, ⟨(some 47), none, (.lde (.t 46) none)⟩, ⟨(some 48), none, (.conv .i64 (.t 47))⟩, ⟨(some 49), none, (.mov (.t 7))⟩, ⟨(some 50), none, (.ixs (.t 49) (.c (.int .i64 3)) 1)⟩, ⟨(some 51), none, (.lde (.t 50) none)⟩, ⟨(some 52), none, (.conv .i64 (.t 51))⟩, ⟨(some 53), none, (.bld [(.val (.int .i64 0)), (.val (.int .i64 0)), (.val (.int .i64 0)), (.val (.int .i64 0)), (.lit 1 [])] [(0, (1, (.t 40))), (1, (1, (.t 44))), (2, (1, (.t 48))), (3, (1, (.t 52)))])⟩, ⟨(some 9), none, (.alc [(.val (.int .i64 0)), (.val (.int .i64 0)), (.val (.int .i64 0)), (.val (.int .i64 0)), (.lit 1 [])])⟩, ⟨none, none, (.st (.t 9) 5 (.t 53))⟩]) (.seq (.ops [⟨(some 54), none, (.mov (.t 5))⟩, ⟨(some 55), none, (.bin .add (.t 54) (.c (.int .i64 7)))⟩, ⟨(some 5), none, (.mov (.t 55))⟩]) (.seq (.seq (.ops [⟨(some 56), none, (.fad (.t 9) 2)⟩, ⟨(some 57), none, (.ld (.t 56) none)⟩, ⟨(some 58), none, (.bin .eql (.t 57) (.c (.int .i64 2)))⟩]) (.cond (.t 58) (.seq (.seq (.ops [⟨(some 59), none, (.mov (.t 0))⟩, ⟨(some 60), none, (.len (.t 59))⟩, ⟨(some 61), none, (.mov (.t 5))⟩, ⟨(some 62), none, (.bin .sub (.t 60) (.t 61))⟩, ⟨(some 63), none, (.fad (.t 9) 1)⟩, ⟨(some 64), none, (.ld (.t 63) none)⟩, ⟨(some 65), none, (.bin .mul (.c (.int .i64 32)) (.t 64))⟩, ⟨(some 66), none, (.bin .lss (.t 62) (.t 65))⟩]) (.cond (.t 66) (.seq (.ops [⟨(some 2), none, (.nil 174 5 true)⟩, ⟨(some 3), none, (.mov (.c (.int .i64 70)))⟩]) .ret) .skip)) (.seq (.ops [⟨(some 67), none, (.mkl 5 1 [] true)⟩, ⟨(some 68), none, (.mov (.t 0))⟩, ⟨(some 69), none, (.mov (.t 5))⟩, ⟨(some 70), none, (.mov (.t 5))⟩, ⟨(some 71), none, (.fad (.t 9) 1)⟩, ⟨(some 72), none, (.ld (.t 71) none)⟩, ⟨(some 73), none, (.bin .mul (.c (.int .i64 32)) (.t 72))⟩, ⟨(some 74), none, (.bin .add (.t 70) (.t 73))⟩, ⟨(some 75), none, (.slc (.t 68) (some (.t 69)) (some (.t 74)) none 1)⟩, ⟨(some 76), none, (.app (.t 67) (.t 75) 5 1 1 true)⟩, ⟨(some 77), none, (.fad (.t 9) 4)⟩, ⟨none, none, (.st (.t 77) 1 (.t 76))⟩]) (.ops [⟨(some 78), none, (.mov (.t 5))⟩, ⟨(some 79), none, (.fad (.t 9) 1)⟩, ⟨(some 80), none, (.ld (.t 79) none)⟩, ⟨(some 81), none, (.bin .mul (.c (.int .i64 32)) (.t 80))⟩, ⟨(some 82), none, (.bin .add (.t 78) (.t 81))⟩, ⟨(some 5), none, (.mov (.t 82))⟩]))) .skip)) (.ops [⟨(some 83), none, (.mov (.t 4))⟩, ⟨(some 84), none, (.ld (.t 9) (some 5))⟩, ⟨(some 85), none, (.mkl 174 5 [(.t 84)] false)⟩, ⟨(some 86), none, (.app (.t 83) (.t 85) 174 5 56 true)⟩, ⟨(some 4), none, (.mov (.t 86))⟩]))))))) (.ops [⟨(some 21), none, (.mov (.t 6))⟩, ⟨(some 22), none, (.bin .add (.t 21) (.c (.int .i64 1)))⟩, ⟨(some 6), none, (.mov (.t 22))⟩])))
def F_r07_Read : F := ⟨(.seq (.ops [⟨(some 2), none, (.nil 174 5 true)⟩, ⟨(some 3), none, (.mov (.c (.int .i64 0)))⟩]) (.seq (.seq (.ops [⟨(some 12), none, (.mov (.t 0))⟩, ⟨(some 13), none, (.len (.t 12))⟩, ⟨(some 14), none, (.bin .eql (.t 13) (.c (.int .i64 0)))⟩]) (.cond (.t 14) (.seq (.ops [⟨(some 2), none, (.nil 174 5 true)⟩, ⟨(some 3), none, (.mov (.c (.int .i64 70)))⟩]) .ret) .skip)) (.seq (.ops [⟨(some 4), none, (.nil 174 5 true)⟩]) (.seq (.ops [⟨(some 5), none, (.mov (.c (.int .i64 1)))⟩]) (.seq (.seq (.ops [⟨(some 6), none, (.mov (.c (.int .i64 0)))⟩]) (.block 0 (.loop F_r07_Read_L0))) (.seq (.ops [⟨(some 88), none, (.mov (.t 4))⟩, ⟨(some 89), none, (.call 126 [(.t 88)])⟩, ⟨(some 87), none, (.mov (.t 89))⟩, ⟨(some 90), none, (.ext (.t 87) 0)⟩, ⟨(some 91), none, (.ext (.t 87) 1)⟩, ⟨(some 10), none, (.mov (.t 90))⟩, ⟨(some 11), none, (.mov (.t 91))⟩]) (.seq (.seq (.ops [⟨(some 92), none, (.mov (.t 11))⟩, ⟨(some 93), none, (.bin .neq (.t 92) (.c (.int .i64 0)))⟩, ⟨(some 94), none, (.mov (.t 93))⟩, ⟨(some 95), (some (94, false)), (.mov (.t 10))⟩, ⟨(some 96), (some (94, false)), (.b2s (.t 95))⟩, ⟨(some 97), (some (94, false)), (.mov (.t 0))⟩, ⟨(some 98), (some (94, false)), (.b2s (.t 97))⟩, ⟨(some 99), (some (94, false)), (.bin .neq (.t 96) (.t 98))⟩, ⟨(some 100), none, (.pick (.t 94) (.c (.bool true)) (.t 99))⟩]) (.cond (.t 100) (.seq (.ops [⟨(some 2), none, (.nil 174 5 true)⟩, ⟨(some 3), none, (.mov (.c (.int .i64 70)))⟩]) .ret) .skip)) (.seq (.ops [⟨(some 101), none, (.mov (.t 4))⟩, ⟨(some 2), none, (.mov (.t 101))⟩, ⟨(some 3), none, (.mov (.c (.int .i64 0)))⟩]) .ret)))))))), 102, [(.tmp 2), (.tmp 3)]⟩
theorem F_r07_Read_ok : compF Try.prog (fun d => !([85].contains d)) 134 = some F_r07_Read := by kernel_rfl
@[simp] abbrev n_r07_Same : FuncId := 135
def F_r07_Same : F := ⟨(.seq (.ops [⟨(some 2), none, (.box (.t 0))⟩, ⟨(some 3), none, (.box (.t 1))⟩, ⟨(some 4), none, (.mov (.c (.bool false)))⟩]) (.seq (.ops [⟨(some 5), none, (.fad (.t 2) 0)⟩, ⟨(some 6), none, (.ld (.t 5) none)⟩, ⟨(some 7), none, (.fad (.t 3) 0)⟩, ⟨(some 8), none, (.ld (.t 7) none)⟩, ⟨(some 9), none, (.bin .eql (.t 6) (.t 8))⟩, ⟨(some 10), none, (.mov (.t 9))⟩, ⟨(some 11), (some (10, true)), (.fad (.t 2) 1)⟩, ⟨(some 12), (some (10, true)), (.ld (.t 11) none)⟩, ⟨(some 13), (some (10, true)), (.fad (.t 3) 1)⟩, ⟨(some 14), (some (10, true)), (.ld (.t 13) none)⟩, ⟨(some 15), (some (10, true)), (.bin .eql (.t 12) (.t 14))⟩, ⟨(some 16), none, (.pick (.t 10) (.t 15) (.c (.bool false)))⟩, ⟨(some 17), none, (.mov (.t 16))⟩, ⟨(some 18), (some (17, true)), (.fad (.t 2) 2)⟩, ⟨(some 19), (some (17, true)), (.ld (.t 18) none)⟩, ⟨(some 20), (some (17, true)), (.fad (.t 3) 2)⟩, ⟨(some 21), (some (17, true)), (.ld (.t 20) none)⟩, ⟨(some 22), (some (17, true)), (.bin .eql (.t 19) (.t 21))⟩, ⟨(some 23), none, (.pick (.t 17) (.t 22) (.c (.bool false)))⟩, ⟨(some 24), none, (.mov (.t 23))⟩, ⟨(some 25), (some (24, true)), (.fad (.t 2) 3)⟩, ⟨(some 26), (some (24, true)), (.ld (.t 25) none)⟩, ⟨(some 27), (some (24, true)), (.fad (.t 3) 3)⟩, ⟨(some 28), (some (24, true)), (.ld (.t 27) none)⟩, ⟨(some 29), (some (24, true)), (.bin .eql (.t 26) (.t 28))⟩, ⟨(some 30), none, (.pick (.t 24) (.t 29) (.c (.bool false)))⟩, ⟨(some 31), none, (.mov (.t 30))⟩, ⟨(some 32), (some (31, true)), (.fad (.t 2) 4)⟩, ⟨(some 33), (some (31, true)), (.ld (.t 32) none)⟩, ⟨(some 34), (some (31, true)), (.b2s (.t 33))⟩, ⟨(some 35), (some (31, true)), (.fad (.t 3) 4)⟩, ⟨(some 36), (some (31, true)), (.ld (.t 35) none)⟩, ⟨(some 37), (some (31, true)), (.b2s (.t 36))⟩, ⟨(some 38), (some (31, true)), (.bin .eql (.t 34) (.t 37))⟩, ⟨(some 39), none, (.pick (.t 31) (.t 38) (.c (.bool false)))⟩, ⟨(some 4), none, (.mov (.t 39))⟩]) .ret)), 40, [(.tmp 4)]⟩
theorem F_r07_Same_ok : compF Try.prog (fun _ => true) 135 = some F_r07_Same := by kernel_rfl
@[simp] abbrev n_r07_All : FuncId := 87
def F_r07_All_L0 : C := (.seq (.seq (.ops [⟨(some 12), none, (.mov (.t 5))⟩, ⟨(some 13), none, (.mov (.t 0))⟩, ⟨(some 14), none, (.len (.t 13))⟩, ⟨(some 15), none, (.bin .lss (.t 12) (.t 14))⟩]) (.cond (.t 15) .skip (.exit 0))) (.seq (.block 1 (.seq (.dops false [] [⟨(some 18), none, (.mov (.t 0))⟩, ⟨(some 19), none, (.mov (.t 5))⟩, ⟨(some 20), none, (.ixs (.t 18) (.t 19) 5)⟩, ⟨(some 21), none, (.lde (.t 20) (some 5))⟩, ⟨(some 22), none, (.mov (.t 1))⟩, ⟨(some 23), none, (.mov (.t 5))⟩, ⟨(some 24), none, (.ixs (.t 22) (.t 23) 5)⟩, ⟨(some 25), none, (.lde (.t 24) (some 5))⟩, ⟨(some 26), none, (.call 135 [(.t 21), (.t 25)])⟩, ⟨(some 6), none, (.mov (.t 26))⟩]) (.seq (.ops [⟨(some 27), none, (.mov (.t 6))⟩, ⟨(some 28), none, (.un .not (.t 27))⟩]) (.cond (.t 28) (.seq (.ops [⟨(some 4), none, (.mov (.c (.bool false)))⟩]) .ret) .skip)))) (.ops [⟨(some 16), none, (.mov (.t 5))⟩, ⟨(some 17), none, (.bin .add (.t 16) (.c (.int .i64 1)))⟩, ⟨(some 5), none, (.mov (.t 17))⟩])))
def F_r07_All : F := ⟨(.seq (.ops [⟨(some 4), none, (.mov (.c (.bool false)))⟩]) (.seq (.seq (.ops [⟨(some 7), none, (.mov (.t 0))⟩, ⟨(some 8), none, (.len (.t 7))⟩, ⟨(some 9), none, (.mov (.t 1))⟩, ⟨(some 10), none, (.len (.t 9))⟩, ⟨(some 11), none, (.bin .neq (.t 8) (.t 10))⟩]) (.cond (.t 11) (.seq (.ops [⟨(some 4), none, (.mov (.c (.bool false)))⟩]) .ret) .skip)) (.seq (.seq (.ops [⟨(some 5), none, (.mov (.c (.int .i64 0)))⟩]) (.block 0 (.loop F_r07_All_L0))) (.seq (.ops [⟨(some 4), none, (.mov (.c (.bool true)))⟩]) .ret)))), 29, [(.tmp 4)]⟩
theorem F_r07_All_ok : compF Try.prog (fun _ => true) 87 = some F_r07_All := by kernel_rfl
end Go.Av

/- Sums, by numbers: no Go here. -/
namespace Go.Av.Pl

def poly : Nat := 2197175160
def stepN (n : Nat) : Nat := if n % 2 = 1 then n / 2 ^^^ poly else n / 2
def step4 (n : Nat) : Nat := stepN (stepN (stepN (stepN n)))
def tabL : List Nat := [0, 274646895, 549293790, 820201905, 1098587580, 1361435347, 1640403810, 1905808397, 2197175160, 2460548119, 2722870694, 2987750089, 3280807620, 3553878443, 3811616794, 4084100981]
theorem stepN_xor (a b : Nat) : stepN (a ^^^ b) = stepN a ^^^ stepN b := by
  have h1 : (a ^^^ b) / 2 = a / 2 ^^^ b / 2 := by
    have := Nat.shiftRight_xor_distrib (a := a) (b := b) (i := 1)
    simpa [Nat.shiftRight_eq_div_pow] using this
  have h2 : (a ^^^ b) % 2 = (a + b) % 2 := by
    have h : (a ^^^ b) % 2 ^ 1 = a % 2 ^ 1 ^^^ b % 2 ^ 1 := Nat.xor_mod_two_pow
    rw [Nat.pow_one] at h
    rw [h, Nat.add_mod]
    rcases Nat.mod_two_eq_zero_or_one a with ha | ha <;> rcases Nat.mod_two_eq_zero_or_one b with hb | hb <;> rw [ha, hb] <;> rfl
  unfold stepN
  rw [h1, h2]
  rcases Nat.mod_two_eq_zero_or_one a with ha | ha <;> rcases Nat.mod_two_eq_zero_or_one b with hb | hb
  · rw [if_neg (by omega), if_neg (by omega), if_neg (by omega)]
  · rw [if_pos (by omega), if_neg (by omega), if_pos (by omega), Nat.xor_assoc]
  · rw [if_pos (by omega), if_pos (by omega), if_neg (by omega), Nat.xor_assoc, Nat.xor_assoc, Nat.xor_comm poly]
  · rw [if_neg (by omega), if_pos (by omega), if_pos (by omega)]
    rw [Nat.xor_assoc, Nat.xor_comm poly, Nat.xor_assoc, Nat.xor_self, Nat.xor_zero]
theorem stepN_two (x : Nat) : stepN (2 * x) = x := by
  unfold stepN
  rw [if_neg (by omega)]
  omega
theorem split16 (n : Nat) : n = (16 * (n / 16)) ^^^ (n % 16) := by
  apply Nat.eq_of_testBit_eq
  intro i
  rw [Nat.testBit_xor, show 16 * (n / 16) = 2 ^ 4 * (n / 16) from rfl, show n % 16 = n % 2 ^ 4 from rfl, show n / 16 = n / 2 ^ 4 from rfl, Nat.testBit_mod_two_pow, Nat.testBit_two_pow_mul, Nat.testBit_div_two_pow]
  by_cases h : i < 4
  · have : ¬ (4 ≤ i) := by omega
    simp [h, this]
  · have : 4 ≤ i := by omega
    simp [h, this]
/-- The table's. -/
def tabN (n : Nat) : Nat := tabL.getD (n % 16) 0
theorem step4_tab (n : Nat) : step4 n = (n / 16) ^^^ tabN n := by
  have h16 : ∀ q, step4 (16 * q) = q := fun q => by
    unfold step4
    rw [show 16 * q = 2 * (2 * (2 * (2 * q))) by omega, stepN_two, stepN_two, stepN_two, stepN_two]
  have hx : ∀ a b, step4 (a ^^^ b) = step4 a ^^^ step4 b := fun a b => by unfold step4; rw [stepN_xor, stepN_xor, stepN_xor, stepN_xor]
  have ht : ∀ r : _root_.Fin 16, step4 r.val = tabL.getD r.val 0 := by decide
  conv => lhs; rw [split16 n]
  rw [hx, h16, ht ⟨n % 16, by omega⟩]
  rfl
theorem stepN_lt {n : Nat} (h : n < 2 ^ 32) : stepN n < 2 ^ 32 := by
  unfold stepN
  split
  · exact Nat.xor_lt_two_pow (by omega) (by decide)
  · omega
/-- A byte more. -/
def crcB (n : Nat) (b : UInt8) : Nat := step4 (step4 (n ^^^ b.toNat))
def crcF (n : Nat) (l : List UInt8) : Nat := l.foldl crcB n
def crcN (sum : Nat) (l : List UInt8) : Nat := crcF (sum ^^^ 4294967295) l ^^^ 4294967295
theorem step4_lt {n : Nat} (h : n < 2 ^ 32) : step4 n < 2 ^ 32 := stepN_lt (stepN_lt (stepN_lt (stepN_lt h)))
theorem crcB_lt {n : Nat} (h : n < 2 ^ 32) (b : UInt8) : crcB n b < 2 ^ 32 := by
  have := b.toNat_lt
  exact step4_lt (step4_lt (Nat.xor_lt_two_pow h (by omega)))
theorem crcF_lt : ∀ (l : List UInt8) {n : Nat}, n < 2 ^ 32 → crcF n l < 2 ^ 32
  | [], _, h => h
  | b :: l, _, h => crcF_lt l (crcB_lt h b)
theorem crcN_lt {sum : Nat} (h : sum < 2 ^ 32) (l : List UInt8) : crcN sum l < 2 ^ 32 :=
  Nat.xor_lt_two_pow (crcF_lt l (Nat.xor_lt_two_pow h (by decide))) (by decide)
theorem crcF_append (n : Nat) (a b : List UInt8) : crcF n (a ++ b) = crcF (crcF n a) b := List.foldl_append ..
end Go.Av.Pl

namespace Go.Av
open Enc (enc dec)
open Cel (cs dc)
open Go.Proofs Pl

theorem xor32 {a b : Nat} (ha : a < 2 ^ 32) (hb : b < 2 ^ 32) : bitXor .u32 (a : Int) (b : Int) = ((a ^^^ b : Nat) : Int) := by
  unfold bitXor
  have e : (BitVec.ofInt 32 (a : Int) ^^^ BitVec.ofInt 32 (b : Int)).toNat = a ^^^ b := by
    rw [BitVec.ofInt_natCast, BitVec.ofInt_natCast, BitVec.toNat_xor, BitVec.toNat_ofNat, BitVec.toNat_ofNat, Nat.mod_eq_of_lt ha, Nat.mod_eq_of_lt hb]
  show IntKind.u32.wrap (((BitVec.ofInt 32 (a : Int) ^^^ BitVec.ofInt 32 (b : Int)).toNat : Nat) : Int) = _
  have := Nat.xor_lt_two_pow ha hb
  rw [e, IntWalk.u32_in _ (by omega)]
theorem and15 {a : Nat} (ha : a < 2 ^ 32) : bitAnd .u32 (a : Int) 15 = ((a % 16 : Nat) : Int) := by
  unfold bitAnd
  have e : (BitVec.ofInt 32 (a : Int) &&& BitVec.ofInt 32 (15 : Int)).toNat = a % 16 := by
    rw [BitVec.ofInt_natCast, show BitVec.ofInt 32 (15 : Int) = BitVec.ofNat 32 15 from rfl, BitVec.toNat_and, BitVec.toNat_ofNat, BitVec.toNat_ofNat, Nat.mod_eq_of_lt ha]
    exact Nat.and_two_pow_sub_one_eq_mod a 4
  show IntKind.u32.wrap (((BitVec.ofInt 32 (a : Int) &&& BitVec.ofInt 32 (15 : Int)).toNat : Nat) : Int) = _
  rw [e, IntWalk.u32_in _ (by omega)]
def u32V (n : Nat) : V := .val (.int .u32 n)
theorem c_bytes_Equal (a b : List UInt8) : Pure Try.prog n_bytes_Equal [enc a, enc b] (enc (a == b)) [] := by
  refine Pure.ofC OOk.nil hm F_bytes_Equal_ok (by simp [F_bytes_Equal]) rfl ?_
  simp [F_bytes_Equal]
theorem c_halves : Pure Try.prog n_crc_halves [] (.agg (tabL.map u32V)) [] := by
  refine Pure.ofC OOk.nil hm F_crc_halves_ok (by simp [F_crc_halves]) rfl ?_
  simp [F_crc_halves, tabL, u32V]
@[simp] def sp_halves : Option (V × List Tip) := some (.agg (tabL.map u32V), [])
def D6 : Orc := Orc.nil.add n_crc_halves (sp0 sp_halves)
theorem D6_ok : OOk Try.prog D6 := OOk.nil.add (sp0_ok fun r h => by cases h; exact c_halves)
def MoreI (sum : Nat) (l : List UInt8) (k : Nat) (s : Nat → V) (m : Mem) : Prop :=
  ∃ i : Nat, i + k = l.length ∧ s 0 = u32V (crcF sum (l.take i)) ∧ s 5 = .ptr 0 0 ∧ s 11 = .lit 1 (l.map cs) ∧ s 12 = .val (.int .i64 l.length) ∧ s 13 = .val (.int .i64 i) ∧ m = ⟨[tabL.map u32V], []⟩
theorem tab_get (n : Nat) : (tabL.map u32V)[n % 16]? = some (u32V (tabN n)) := by
  have : n % 16 < tabL.length := by show n % 16 < 16; omega
  rw [List.getElem?_map, List.getElem?_eq_getElem this]
  simp [tabN, List.getD_eq_getElem?_getD, List.getElem?_eq_getElem this]
theorem tab_lt (n : Nat) : tabN n < 2 ^ 32 := by
  have ht : ∀ r : _root_.Fin 16, tabL.getD r.val 0 < 2 ^ 32 := by decide
  exact ht ⟨n % 16, by omega⟩
theorem c_crc_More (sum : Nat) (l : List UInt8) (hs : sum < 2 ^ 32) (hl : l.length ≤ 2 ^ 40) : Pure Try.prog n_crc_More [u32V sum, enc l] (u32V (crcN sum l)) [] := by
  refine Pure.ofC D6_ok hm F_crc_More_ok (by simp [F_crc_More]) rfl ?_
  have hx := xor32 hs (show 4294967295 < 2 ^ 32 by decide)
  have hx' : bitXor .u32 (sum : Int) 4294967295 = ((sum ^^^ 4294967295 : Nat) : Int) := hx
  have hlt := Nat.xor_lt_two_pow hs (show 4294967295 < 2 ^ 32 by decide)
  have htl : (tabL.map u32V).length = 16 := rfl
  simp [F_crc_More, u32V, hx', D6]
  refine ⟨by rfl, ?_⟩
  refine wp_loop (MoreI (sum ^^^ 4294967295) l) l.length (IW.of ⟨0, Nat.zero_add _, by simp [u32V, crcF], by simp, by simp, by simp, by simp, by simp⟩) fun k s m ⟨i, hik, h0, h5, h11, h12, h13, hm⟩ => ?_
  subst hm
  have hc := crcF_lt (l.take i) hlt
  by_cases hi : i < l.length
  · have hg : l[i]? = some l[i] := List.getElem?_eq_getElem hi
    have hb := l[i].toNat_lt
    have hobj : isObj (tabL.map u32V) = false := rfl
    have w1 : IntKind.u32.wrap (l[i].toNat : Int) = l[i].toNat := IntWalk.u32_in _ (by omega)
    have x1 := xor32 hc (show l[i].toNat < 2 ^ 32 by omega)
    have hn1 := Nat.xor_lt_two_pow hc (show l[i].toNat < 2 ^ 32 by omega)
    have hd : ∀ n : Nat, (n : Int).fdiv (2 ^ min 4 IntKind.u32.bits) = ((n / 16 : Nat) : Int) := fun n => by
      rw [show min 4 IntKind.u32.bits = 4 from rfl, shr_eq]
    have hm16 : ∀ n : Nat, ((n % 16 : Nat) : Int) < 16 := fun n => by omega
    have a1 := and15 hn1
    have x2 := xor32 (show (crcF (sum ^^^ 4294967295) (l.take i) ^^^ l[i].toNat) / 16 < 2 ^ 32 by omega) (tab_lt (crcF (sum ^^^ 4294967295) (l.take i) ^^^ l[i].toNat))
    rw [← step4_tab] at x2
    have hn2 := step4_lt hn1
    have a2 := and15 hn2
    have x3 := xor32 (show step4 (crcF (sum ^^^ 4294967295) (l.take i) ^^^ l[i].toNat) / 16 < 2 ^ 32 by omega) (tab_lt (step4 (crcF (sum ^^^ 4294967295) (l.take i) ^^^ l[i].toNat)))
    rw [← step4_tab] at x3
    simp only [u32V] at h0
    have tg := tab_get
    simp only [u32V] at tg hobj
    simp [F_crc_More_L0, h0, h5, h11, h12, h13, hg, hi, hobj, w1, x1, hd, a1, x2, a2, x3, hm16, u32V, tg, -Int.natCast_emod, -Int.natCast_ediv, -List.getElem?_map]
    refine ⟨k - 1, by omega, IW.of (show MoreI (sum ^^^ 4294967295) l _ _ _ from ⟨i + 1, by omega, ?_, by simpa using h5, by simpa using h11, by simpa using h12, ?_, rfl⟩)⟩
    · have e1 : l.take (i + 1) = l.take i ++ [l[i]] := by rw [List.take_add_one, hg]; rfl
      have e2 : crcF (sum ^^^ 4294967295) (l.take (i + 1)) = crcB (crcF (sum ^^^ 4294967295) (l.take i)) l[i] := by rw [e1, crcF_append]; rfl
      rw [e2]
      simp [u32V, crcB]
    · simp; rw [IntWalk.i64_in _ (by omega)]
  · have hil : i = l.length := by omega
    have ht : l.take i = l := by rw [hil, List.take_length]
    rw [ht] at h0 hc
    have hx2 : bitXor .u32 ((crcF (sum ^^^ 4294967295) l : Nat) : Int) 4294967295 = ((crcN sum l : Nat) : Int) := xor32 hc (show 4294967295 < 2 ^ 32 by decide)
    simp only [u32V] at h0
    simp [F_crc_More_L0, h0, h12, h13, hi, hx2]

@[simp] def sp_More (s : UInt32) (l : List UInt8) : Option (V × List Tip) := if l.length ≤ 2 ^ 40 then some (u32V (crcN s.toNat l), []) else none
def D7 : Orc := Orc.nil.add n_crc_More (sp2 sp_More)
theorem D7_ok : OOk Try.prog D7 := OOk.nil.add (sp2_ok fun s l r h => by
  simp only [sp_More] at h
  split at h <;> cases h
  exact c_crc_More s.toNat l s.toNat_lt (by assumption))
theorem c_crc_Sum (l : List UInt8) (hl : l.length ≤ 2 ^ 40) : Pure Try.prog n_crc_Sum [enc l] (u32V (crcN 0 l)) [] := by
  refine Pure.ofC D7_ok hm F_crc_Sum_ok (by simp [F_crc_Sum]) rfl ?_
  simp [F_crc_Sum, D7, u32V]
  omega
@[simp] def sp_Sum (l : List UInt8) : Option (V × List Tip) := if l.length ≤ 2 ^ 40 then some (u32V (crcN 0 l), []) else none
/-- A text with its sum behind. -/
def sealS (l : List UInt8) : List UInt8 := l ++ leB (crcN 0 l) 4
theorem put4 (l b : List UInt8) : bytesPut b (crcN 0 l) 4 = b ++ leB (crcN 0 l) 4 ∧ errPut (crcN 0 l) 4 = 0 := by
  have h := crcN_lt (sum := 0) (by decide) l
  have : mayB (crcN 0 l) 4 = true := by simp [mayB]; exact h
  simp [bytesPut, errPut, this]
def D8 : Orc := (Orc.nil.add n_crc_Sum (sp1 sp_Sum)).add n_le_Put (sp3 sp_Put)
theorem D8_ok : OOk Try.prog D8 := by
  refine (OOk.nil.add (sp1_ok fun l r h => ?_)).add (sp3_ok fun b v w r h => ?_)
  · simp only [sp_Sum] at h
    split at h <;> cases h
    exact c_crc_Sum l (by assumption)
  · simp only [sp_Put] at h
    split at h <;> cases h
    exact c_le_Put b v w (by assumption)
theorem u64_32 {n : Nat} (h : n < 2 ^ 32) : IntKind.u64.wrap (n : Int) = n := IntWalk.u64_in _ (by omega)
theorem c_crc_Seal (l : List UInt8) (hl : l.length ≤ 2 ^ 40) : Pure Try.prog n_crc_Seal [enc l] (.row 0 1 ((sealS l).map cs)) [(5, 1, (sealS l).length)] := by
  refine Pure.ofR D8_ok hm F_crc_Seal_ok (by simp [F_crc_Seal]) (by simp [V.res, V.res1]) ?_
  have h := u64_32 (crcN_lt (sum := 0) (by decide) l)
  have h4 := put4 l l
  simp [F_crc_Seal, D8, u32V, h, h4.1, h4.2, sealS]
  omega
@[simp] def sp_Seal (l : List UInt8) : Option (V × List Tip) := if l.length ≤ 2 ^ 40 then some (.row 0 1 ((sealS l).map cs), [(5, 1, (sealS l).length)]) else none
@[simp] def sp_Equal (a b : List UInt8) : Option (V × List Tip) := some (enc (a == b), [])
def D9 : Orc := (Orc.nil.add n_crc_Seal (sp1 sp_Seal)).add n_bytes_Equal (sp2 sp_Equal)
theorem D9_ok : OOk Try.prog D9 := by
  refine (OOk.nil.add (sp1_ok fun l r h => ?_)).add (sp2_ok fun a b r h => ?_)
  · simp only [sp_Seal] at h
    split at h <;> cases h
    exact c_crc_Seal l (by assumption)
  · cases h; exact c_bytes_Equal a b
/-- The text of one. -/
def openOk (b : List UInt8) : Bool := decide (4 ≤ b.length) && (sealS (b.take (b.length - 4)) == b)
def openT (b : List UInt8) : List UInt8 := if openOk b = true then b.take (b.length - 4) else []
def openE (b : List UInt8) : Int := if openOk b = true then 0 else 20
theorem c_crc_Open (b : List UInt8) (hb : b.length ≤ 2 ^ 40) : Pure Try.prog n_crc_Open [enc b] (.tuple [.row 0 1 ((openT b).map cs), enc (openE b)]) [(5, 1, (openT b).length)] := by
  refine Pure.ofR D9_ok hm F_crc_Open_ok (by simp [F_crc_Open]) (by simp [V.res, V.res1]) ?_
  have hw : IntKind.i64.wrap ((b.length : Int) - 4) = (b.length : Int) - 4 := IntWalk.i64_in _ (by omega)
  by_cases h4 : 4 ≤ b.length
  · have hn : (4 : Int) ≤ b.length := by omega
    have h0 : (0 : Int) ≤ (b.length : Int) - 4 := by omega
    have hs : ((b.length : Int) - 4).toNat = b.length - 4 := by omega
    have hle : (b.length : Int) - 4 ≤ b.length := by omega
    have hb2 : b.length ≤ 1099511627780 := by omega
    have hb3 : b.length ≤ 140737488355332 := by omega
    cases he : (sealS (b.take (b.length - 4)) == b) with
    | true =>
      have he' : sealS (b.take (b.length - 4)) = b := by simpa using he
      simp [F_crc_Open, D9, hw, hn, hs, hle, he', hb2, hb3, openT, openE, openOk, h4]
    | false =>
      have he' : ¬ sealS (b.take (b.length - 4)) = b := by simpa using he
      simp [F_crc_Open, D9, hw, hn, hs, hle, he', hb2, openT, openE, openOk, h4]
  · have hn : ¬ ((4 : Int) ≤ b.length) := by omega
    simp [F_crc_Open, D9, hw, hn, openT, openE, openOk, h4]

-- The reference of chapter 2.
theorem c_r02_step (n : Nat) (h : n < 2 ^ 32) : Pure Try.prog n_r02_step [u32V n] (u32V (stepN n)) [] := by
  refine Pure.ofC OOk.nil hm F_r02_step_ok (by simp [F_r02_step]) rfl ?_
  have hq : IntKind.u32.wrap ((n : Int) / 2) = ((n / 2 : Nat) : Int) := by rw [IntWalk.u32_in _ (by omega)]; omega
  have hr : (n : Int).tmod 2 = ((n % 2 : Nat) : Int) := by rw [Int.tmod_eq_emod_of_nonneg (by omega)]; omega
  have hx : bitXor .u32 ((n / 2 : Nat) : Int) 2197175160 = ((n / 2 ^^^ poly : Nat) : Int) := xor32 (show n / 2 < 2 ^ 32 by omega) (show poly < 2 ^ 32 by decide)
  by_cases h1 : n % 2 = 1
  · simp [F_r02_step, u32V, hq, hr, hx, h1, stepN, -Int.natCast_emod, -Int.natCast_ediv]
  · have h1' : ¬ (((n % 2 : Nat) : Int) = 1) := by omega
    simp [F_r02_step, u32V, hq, hr, h1', h1, stepN, -Int.natCast_emod, -Int.natCast_ediv]
@[simp] def sp_step (n : UInt32) : Option (V × List Tip) := some (u32V (stepN n.toNat), [])
def D10 : Orc := Orc.nil.add n_r02_step (sp1 sp_step)
theorem D10_ok : OOk Try.prog D10 := OOk.nil.add (sp1_ok fun n r h => by cases h; exact c_r02_step n.toNat n.toNat_lt)
def stepK : Nat → Nat → Nat
  | 0, n => n
  | k + 1, n => stepK k (stepN n)
theorem stepK_lt : ∀ (k : Nat) {n : Nat}, n < 2 ^ 32 → stepK k n < 2 ^ 32
  | 0, _, h => h
  | k + 1, _, h => stepK_lt k (stepN_lt h)
theorem stepK_succ : ∀ (k n : Nat), stepK (k + 1) n = stepN (stepK k n)
  | 0, _ => rfl
  | k + 1, n => by rw [stepK, stepK_succ k]; rfl
def RMoreI (sum : Nat) (l : List UInt8) (k : Nat) (s : Nat → V) (m : Mem) : Prop :=
  ∃ i : Nat, i + k = l.length ∧ s 5 = u32V (crcF sum (l.take i)) ∧ s 1 = .lit 1 (l.map cs) ∧ s 6 = .val (.int .i64 i) ∧ m = ⟨[], []⟩
def RMoreJ (x : Nat) (l : List UInt8) (i : Nat) (k : Nat) (s : Nat → V) (m : Mem) : Prop :=
  ∃ j : Nat, j + k = 8 ∧ s 5 = u32V (stepK j x) ∧ s 1 = .lit 1 (l.map cs) ∧ s 6 = .val (.int .i64 i) ∧ s 7 = .val (.int .i64 j) ∧ m = ⟨[], []⟩
theorem c_r02_More (sum : Nat) (l : List UInt8) (hs : sum < 2 ^ 32) (hl : l.length ≤ 2 ^ 40) : Pure Try.prog n_r02_More [u32V sum, enc l] (u32V (crcN sum l)) [] := by
  refine Pure.ofC D10_ok hm F_r02_More_ok (by simp [F_r02_More]) rfl ?_
  have hx' : bitXor .u32 (sum : Int) 4294967295 = ((sum ^^^ 4294967295 : Nat) : Int) := xor32 hs (show 4294967295 < 2 ^ 32 by decide)
  have hlt := Nat.xor_lt_two_pow hs (show 4294967295 < 2 ^ 32 by decide)
  simp [F_r02_More, u32V, hx']
  refine wp_loop (RMoreI (sum ^^^ 4294967295) l) l.length (IW.of ⟨0, by omega, by simp [u32V, crcF], by simp, by simp, rfl⟩) fun k s m ⟨i, hik, h5, h1, h6, hm⟩ => ?_
  subst hm
  have hc := crcF_lt (l.take i) hlt
  simp only [u32V] at h5
  by_cases hi : i < l.length
  · have hg : l[i]? = some l[i] := List.getElem?_eq_getElem hi
    have hb := l[i].toNat_lt
    have w1 : IntKind.u32.wrap (l[i].toNat : Int) = l[i].toNat := IntWalk.u32_in _ (by omega)
    have x1 := xor32 hc (show l[i].toNat < 2 ^ 32 by omega)
    have hn1 := Nat.xor_lt_two_pow hc (show l[i].toNat < 2 ^ 32 by omega)
    simp [F_r02_More_L1, h5, h1, h6, hg, hi, w1, x1]
    refine wp_loop (RMoreJ (crcF (sum ^^^ 4294967295) (l.take i) ^^^ l[i].toNat) l i) 8 (IW.of ⟨0, by omega, by simp [u32V, stepK], by simpa using h1, by simpa using h6, by simp, rfl⟩) fun k2 s m ⟨j, hjk, h5, h1, h6, h7, hm⟩ => ?_
    subst hm
    have hcj := stepK_lt j hn1
    simp only [u32V] at h5
    by_cases hj : j < 8
    · have hj' : (j : Int) < 8 := by omega
      have hcj' : ((stepK j (crcF (sum ^^^ 4294967295) (l.take i) ^^^ l[i].toNat) : Nat) : Int) < 4294967296 := by omega
      have hmod : stepK j (crcF (sum ^^^ 4294967295) (l.take i) ^^^ l[i].toNat) % 4294967296 = stepK j (crcF (sum ^^^ 4294967295) (l.take i) ^^^ l[i].toNat) := Nat.mod_eq_of_lt hcj
      simp [F_r02_More_L0, D10, h5, h1, h6, h7, hj', hcj', hmod]
      refine ⟨k2 - 1, by omega, IW.of (show RMoreJ _ l i _ _ _ from ⟨j + 1, by omega, by simp [u32V, stepK_succ], by simpa using h1, by simpa using h6, ?_, rfl⟩)⟩
      simp; rw [IntWalk.i64_in _ (by omega)]
    · have hj' : ¬ ((j : Int) < 8) := by omega
      obtain rfl : j = 8 := by omega
      simp [F_r02_More_L0, h5, h1, h6, h7]
      refine ⟨k - 1, by omega, IW.of (show RMoreI (sum ^^^ 4294967295) l _ _ _ from ⟨i + 1, by omega, ?_, by simpa using h1, ?_, rfl⟩)⟩
      · have e1 : l.take (i + 1) = l.take i ++ [l[i]] := by rw [List.take_add_one, hg]; rfl
        have e2 : crcF (sum ^^^ 4294967295) (l.take (i + 1)) = crcB (crcF (sum ^^^ 4294967295) (l.take i)) l[i] := by rw [e1, crcF_append]; rfl
        rw [e2]
        simp [h5, u32V, crcB, step4, stepK]
      · simp; rw [IntWalk.i64_in _ (by omega)]
  · have hil : i = l.length := by omega
    have ht : l.take i = l := by rw [hil, List.take_length]
    rw [ht] at h5 hc
    have hx2 : bitXor .u32 ((crcF (sum ^^^ 4294967295) l : Nat) : Int) 4294967295 = ((crcN sum l : Nat) : Int) := xor32 hc (show 4294967295 < 2 ^ 32 by decide)
    simp [F_r02_More_L1, h5, h1, h6, hi, hx2]
def D11 : Orc := (Orc.nil.add n_r02_More (sp2 sp_More)).add n_r01_Put (sp3 sp_Put)
theorem D11_ok : OOk Try.prog D11 := by
  refine (OOk.nil.add (sp2_ok fun s l r h => ?_)).add (sp3_ok fun b v w r h => ?_)
  · simp only [sp_More] at h
    split at h <;> cases h
    exact c_r02_More s.toNat l s.toNat_lt (by assumption)
  · simp only [sp_Put] at h
    split at h <;> cases h
    exact c_r01_Put b v w (by assumption)
theorem c_r02_Seal (l : List UInt8) (hl : l.length ≤ 2 ^ 40) : Pure Try.prog n_r02_Seal [enc l] (.row 0 1 ((sealS l).map cs)) [(5, 1, (sealS l).length)] := by
  refine Pure.ofR D11_ok hm F_r02_Seal_ok (by simp [F_r02_Seal]) (by simp [V.res, V.res1]) ?_
  have h := u64_32 (crcN_lt (sum := 0) (by decide) l)
  have h4 := put4 l l
  simp [F_r02_Seal, D11, u32V, h, h4.1, h4.2, sealS]
  omega
end Go.Av

/- Extents: no Go here. -/
namespace Go.Av.Pl

structure Xt where
  lba : Int
  len : Int
  kind : Int
  gen : Int
  data : List UInt8
deriving DecidableEq
def Xt.zero : Xt := ⟨0, 0, 0, 0, []⟩
def extOk (x : Xt) : Bool := decide (0 ≤ x.lba ∧ x.lba ≤ 64 ∧ 1 ≤ x.len ∧ x.len ≤ 64 - x.lba ∧ 0 ≤ x.kind ∧ x.kind ≤ 2 ∧ 0 ≤ x.gen ∧ x.gen ≤ 2147483647 ∧ (x.data.length : Int) = if x.kind = 2 then x.len * 32 else 0)
theorem extOk_iff {x : Xt} : extOk x = true ↔ 0 ≤ x.lba ∧ x.lba ≤ 64 ∧ 1 ≤ x.len ∧ x.len ≤ 64 - x.lba ∧ 0 ≤ x.kind ∧ x.kind ≤ 2 ∧ 0 ≤ x.gen ∧ x.gen ≤ 2147483647 ∧ (x.data.length : Int) = if x.kind = 2 then x.len * 32 else 0 := by simp [extOk]
def joins (a b : Xt) : Bool := extOk a && extOk b && decide (a.lba + a.len = b.lba ∧ a.kind = b.kind ∧ a.gen = b.gen)
def cutOk (x : Xt) (lba n : Int) : Bool := extOk x && decide (0 ≤ lba ∧ lba ≤ 64 ∧ 0 ≤ n ∧ n ≤ 64 ∧ max x.lba lba < min (x.lba + x.len) (lba + n))
def cutX (x : Xt) (lba n : Int) : Xt := if cutOk x lba n = true then
    ⟨max x.lba lba, min (x.lba + x.len) (lba + n) - max x.lba lba, x.kind, x.gen, if x.kind = 2 then (x.data.take ((min (x.lba + x.len) (lba + n) - x.lba) * 32).toNat).drop ((max x.lba lba - x.lba) * 32).toNat else []⟩ else Xt.zero
end Go.Av.Pl

namespace Go.Av
open Enc (enc dec)
open Cel (cs dc)
open Go.Proofs Pl

instance : Cel Xt where
  sz := 5
  cs x := [enc x.lba, enc x.len, enc x.kind, enc x.gen, enc x.data]
  dc l := match l with
    | [a, b, c, d, e] => (dec a).bind fun a => (dec b).bind fun b => (dec c).bind fun c => (dec d).bind fun d => (dec e).bind fun e => some ⟨a, b, c, d, e⟩
    | _ => none
  len _ := rfl
  ok l x h := by
    split at h
    · simp only [Option.bind_eq_some_iff] at h
      obtain ⟨a, ha, b, hb, c, hc, d, hd, e, he, h⟩ := h
      cases h
      exact wk_dec (wk_dec (wk_dec (wk_dec (wk_dec wk_nil he) hd) hc) hb) ha
    · cases h
  cl x := by simp
  de x := by simp
instance : Enc Xt := encC
@[simp] theorem sz_ext : Cel.sz Xt = 5 := rfl
@[simp] theorem cs_ext (x : Xt) : cs x = [.val (.int .i64 x.lba), .val (.int .i64 x.len), .val (.int .i64 x.kind), .val (.int .i64 x.gen), .lit 1 (x.data.map cs)] := rfl
@[simp] theorem enc_ext (x : Xt) : (enc x : V) = .agg [.val (.int .i64 x.lba), .val (.int .i64 x.len), .val (.int .i64 x.kind), .val (.int .i64 x.gen), .lit 1 (x.data.map cs)] := rfl
@[simp] theorem dc_ext (a b c d e : V) : (dc [a, b, c, d, e] : Option Xt) = (dec a).bind fun a => (dec b).bind fun b => (dec c).bind fun c => (dec d).bind fun d => (dec e).bind fun e => some ⟨a, b, c, d, e⟩ := rfl
@[simp] theorem dec_ext (l : List V) : (dec (.agg l) : Option Xt) = dc l := rfl

theorem c_within (n a b : Int) : Pure Try.prog n_extent_within [enc n, enc a, enc b] (enc (decide (a ≤ n ∧ n ≤ b))) [] := by
  refine Pure.ofC OOk.nil hm F_extent_within_ok (by simp [F_extent_within]) rfl ?_
  simp [F_extent_within]
  by_cases h : a ≤ n
  · simp [h]
    try omega
  · simp [h]
    try omega
theorem c_data (x : Xt) (h1 : -2 ^ 50 ≤ x.len) (h2 : x.len ≤ 2 ^ 50) : Pure Try.prog n_extent_data [enc x] (enc (if x.kind = 2 then x.len * 32 else 0)) [] := by
  refine Pure.ofC OOk.nil hm F_extent_data_ok (by simp [F_extent_data]) rfl ?_
  have := IntWalk.i64_in (x.len * 32) (by omega)
  simp [F_extent_data, this]
  by_cases h : x.kind = 2 <;> simp [h]
@[simp] def sp_within (n a b : Int) : Option (V × List Tip) := some (enc (decide (a ≤ n ∧ n ≤ b)), [])
@[simp] def sp_data (x : Xt) : Option (V × List Tip) := if -2 ^ 50 ≤ x.len ∧ x.len ≤ 2 ^ 50 then some (enc (if x.kind = 2 then x.len * 32 else 0), []) else none
def D12 : Orc := (Orc.nil.add n_extent_within (sp3 sp_within)).add n_extent_data (sp1 sp_data)
theorem D12_ok : OOk Try.prog D12 := by
  refine (OOk.nil.add (sp3_ok fun n a b r h => ?_)).add (sp1_ok fun x r h => ?_)
  · cases h; exact c_within n a b
  · simp only [sp_data] at h
    split at h <;> cases h
    rename_i h; exact c_data x h.1 h.2
theorem c_ext_Check (x : Xt) : Pure Try.prog n_extent_Check [enc x] (enc (extOk x)) [] := by
  refine Pure.ofC D12_ok hm F_extent_Check_ok (by simp [F_extent_Check]) rfl ?_
  have hw : 0 ≤ x.lba → x.lba ≤ 64 → IntKind.i64.wrap (64 - x.lba) = 64 - x.lba := fun h1 h2 => IntWalk.i64_in _ (by omega)
  simp [F_extent_Check, D12]
  by_cases hok : extOk x = true
  · have h := extOk_iff.1 hok
    simp [hok]
    omega
  · have h := mt extOk_iff.2 hok
    simp [hok]
    omega
theorem c_r07_Check (x : Xt) : Pure Try.prog n_r07_Check [enc x] (enc (extOk x)) [] := by
  refine Pure.ofC OOk.nil hm F_r07_Check_ok (by simp [F_r07_Check]) rfl ?_
  have hw : 0 ≤ x.lba → x.lba ≤ 64 → IntKind.i64.wrap (64 - x.lba) = 64 - x.lba := fun h1 h2 => IntWalk.i64_in _ (by omega)
  have hw2 : 1 ≤ x.len → x.len ≤ 64 → IntKind.i64.wrap (32 * x.len) = 32 * x.len := fun h1 h2 => IntWalk.i64_in _ (by omega)
  simp [F_r07_Check]
  rw [show (decide (x.data = [])) = decide (x.data.length = 0) by simp]
  by_cases hok : extOk x = true
  · have h := extOk_iff.1 hok
    simp [hok]
    have hk : (x.kind = 2 ∨ x.kind ≠ 2) := by omega
    by_cases hd : x.data = []
    · rcases hk with hk | hk <;> simp [hk, hd] at h ⊢ <;> omega
    · rcases hk with hk | hk <;> simp [hk, hd] at h ⊢ <;> omega
  · have h := mt extOk_iff.2 hok
    simp [hok]
    have hk : (x.kind = 2 ∨ x.kind ≠ 2) := by omega
    by_cases hd : x.data = []
    · rcases hk with hk | hk <;> simp [hk, hd] at h ⊢ <;> omega
    · rcases hk with hk | hk <;> simp [hk, hd] at h ⊢ <;> omega
@[simp] def sp_extOk (x : Xt) : Option (V × List Tip) := some (enc (extOk x), [])
def D13 : Orc := (Orc.nil.add n_extent_Check (sp1 sp_extOk)).add n_extent_within (sp3 sp_within) |>.add n_bytes_Clone (sp1 sp_clone)
theorem D13_ok : OOk Try.prog D13 := by
  refine ((OOk.nil.add (sp1_ok fun x r h => ?_)).add (sp3_ok fun n a b r h => ?_)).add (sp1_ok fun l r h => ?_)
  · cases h; exact c_ext_Check x
  · cases h; exact c_within n a b
  · simp only [sp_clone] at h
    split at h <;> cases h
    exact c_clone l (by assumption)
def D14 : Orc := Orc.nil.add n_r07_Check (sp1 sp_extOk)
theorem D14_ok : OOk Try.prog D14 := OOk.nil.add (sp1_ok fun x r h => by cases h; exact c_r07_Check x)
theorem c_ext_Joins (x y : Xt) : Pure Try.prog n_extent_Joins [enc x, enc y] (enc (joins x y)) [] := by
  refine Pure.ofC D13_ok hm F_extent_Joins_ok (by simp [F_extent_Joins]) rfl ?_
  simp [F_extent_Joins, D13]
  by_cases h1 : extOk x = true
  · have h := extOk_iff.1 h1
    have hw : IntKind.i64.wrap (x.lba + x.len) = x.lba + x.len := IntWalk.i64_in _ (by omega)
    by_cases h2 : extOk y = true
    · simp [h1, h2, hw, joins]
      by_cases a1 : x.lba + x.len = y.lba <;> by_cases a2 : x.kind = y.kind <;> simp [a1, a2]
    · simp [h1, h2, joins]
  · simp [h1, joins]
theorem c_r07_Joins (x y : Xt) : Pure Try.prog n_r07_Joins [enc x, enc y] (enc (joins x y)) [] := by
  refine Pure.ofC D14_ok hm F_r07_Joins_ok (by simp [F_r07_Joins]) rfl ?_
  simp [F_r07_Joins, D14]
  by_cases h1 : extOk x = true
  · have h := extOk_iff.1 h1
    have hw : IntKind.i64.wrap (x.lba + x.len) = x.lba + x.len := IntWalk.i64_in _ (by omega)
    by_cases h2 : extOk y = true
    · simp [h1, h2, hw, joins]
      by_cases a1 : x.lba + x.len = y.lba <;> by_cases a2 : x.kind = y.kind <;> simp [a1, a2]
    · simp [h1, h2, joins]
  · simp [h1, joins]
set_option maxRecDepth 4000 in
theorem c_ext_Cut (x : Xt) (lba n : Int) : Pure Try.prog n_extent_Cut [enc x, enc lba, enc n] (.tuple [enc (cutX x lba n), enc (cutOk x lba n)]) [] := by
  refine Pure.ofC D13_ok hm F_extent_Cut_ok (by simp [F_extent_Cut]) (by simp [V.res, V.res1]) ?_
  by_cases h1 : extOk x = true
  · have h := extOk_iff.1 h1
    have w1 : IntKind.i64.wrap (x.lba + x.len) = x.lba + x.len := IntWalk.i64_in _ (by omega)
    by_cases hl : 0 ≤ lba ∧ lba ≤ 64
    · by_cases hn : 0 ≤ n ∧ n ≤ 64
      · have w2 : IntKind.i64.wrap (lba + n) = lba + n := IntWalk.i64_in _ (by omega)
        have w3 : IntKind.i64.wrap (max x.lba lba - x.lba) = max x.lba lba - x.lba := IntWalk.i64_in _ (by omega)
        have w4 : IntKind.i64.wrap (min (x.lba + x.len) (lba + n) - x.lba) = min (x.lba + x.len) (lba + n) - x.lba := IntWalk.i64_in _ (by omega)
        have w5 : IntKind.i64.wrap ((max x.lba lba - x.lba) * 32) = (max x.lba lba - x.lba) * 32 := IntWalk.i64_in _ (by omega)
        have w6 : IntKind.i64.wrap ((min (x.lba + x.len) (lba + n) - x.lba) * 32) = (min (x.lba + x.len) (lba + n) - x.lba) * 32 := IntWalk.i64_in _ (by omega)
        have w7 : IntKind.i64.wrap (min (x.lba + x.len) (lba + n) - max x.lba lba) = min (x.lba + x.len) (lba + n) - max x.lba lba := IntWalk.i64_in _ (by omega)
        have e : cutOk x lba n = decide (max x.lba lba < min (x.lba + x.len) (lba + n)) := by simp [cutOk, h1, hl, hn]
        by_cases hlt : max x.lba lba < min (x.lba + x.len) (lba + n)
        · have e1 : cutOk x lba n = true := by rw [e]; simpa using hlt
          by_cases hk : x.kind = 2
          · simp only [hk, if_true] at h
            have hlen := h.2.2.2.2.2.2.2.2
            have hx : extOk ⟨x.lba, x.len, 2, x.gen, x.data⟩ = true := by rw [← hk]; exact h1
            simp [F_extent_Cut, D13, h1, hl, hn, w1, w2, hlt, Int.not_le.2 hlt, w3, w4, w5, w6, w7, cutX, e1, hk, hx]
            omega
          · simp [F_extent_Cut, D13, h1, hl, hn, w1, w2, hlt, Int.not_le.2 hlt, w3, w4, w5, w6, w7, cutX, e1, hk]
        · have e1 : cutOk x lba n = false := by rw [e]; simpa using hlt
          simp [F_extent_Cut, D13, h1, hl, hn, w1, w2, Int.not_lt.1 hlt, cutX, e1, Xt.zero]
      · have e1 : cutOk x lba n = false := by simp [cutOk]; intro _ _ _ h3 h4; exact absurd ⟨h3, h4⟩ hn
        simp [F_extent_Cut, D13, h1, hl, hn, cutX, e1, Xt.zero]
    · have e1 : cutOk x lba n = false := by simp [cutOk]; intro _ h3 h4; exact absurd ⟨h3, h4⟩ hl
      simp [F_extent_Cut, D13, h1, hl, cutX, e1, Xt.zero]
  · simp [F_extent_Cut, D13, h1, cutX, cutOk, Xt.zero]

-- Likeness, and blocks, by the reference.
theorem c_r07_Same (x y : Xt) : Pure Try.prog n_r07_Same [enc x, enc y] (enc (decide (x = y))) [] := by
  refine Pure.ofC OOk.nil hm F_r07_Same_ok (by simp [F_r07_Same]) rfl ?_
  obtain ⟨a1, a2, a3, a4, a5⟩ := x
  obtain ⟨b1, b2, b3, b4, b5⟩ := y
  simp [F_r07_Same]
  by_cases h1 : a1 = b1 <;> by_cases h2 : a2 = b2 <;> by_cases h3 : a3 = b3 <;> by_cases h4 : a4 = b4 <;> simp [h1, h2, h3, h4]
  rw [Bool.eq_iff_iff]
  simp
@[simp] def sp_xtSame (x y : Xt) : Option (V × List Tip) := some (enc (decide (x = y)), [])
def D15 : Orc := Orc.nil.add n_r07_Same (sp2 sp_xtSame)
theorem D15_ok : OOk Try.prog D15 := OOk.nil.add (sp2_ok fun x y r h => by cases h; exact c_r07_Same x y)
def RAllI (a b : List Xt) (k : Nat) (s : Nat → V) (m : Mem) : Prop :=
  ∃ i : Nat, i + k = a.length ∧ a.take i = b.take i ∧ s 0 = .lit 5 (a.map cs) ∧ s 1 = .lit 5 (b.map cs) ∧ s 5 = .val (.int .i64 i)
theorem take_succ_eq {α : Type} {a b : List α} {i : Nat} (h : a.take i = b.take i) (ha : i < a.length) (hb : i < b.length) : a.take (i + 1) = b.take (i + 1) ↔ a[i] = b[i] := by
  have e1 : a.take (i + 1) = a.take i ++ [a[i]] := by rw [List.take_add_one, List.getElem?_eq_getElem ha]; rfl
  have e2 : b.take (i + 1) = b.take i ++ [b[i]] := by rw [List.take_add_one, List.getElem?_eq_getElem hb]; rfl
  rw [e1, e2, h, List.append_right_inj]
  simp
theorem c_r07_All (a b : List Xt) (ha : a.length ≤ 2 ^ 40) : Pure Try.prog n_r07_All [enc a, enc b] (enc (decide (a = b))) [] := by
  refine Pure.ofC D15_ok hm F_r07_All_ok (by simp [F_r07_All]) rfl ?_
  by_cases hl : a.length = b.length
  · simp [F_r07_All, hl]
    refine wp_loop (RAllI a b) a.length (IW.of ⟨0, by omega, by simp, by simp, by simp, by simp⟩) fun k s m ⟨i, hik, ht, h0, h1, h5⟩ => ?_
    by_cases hi : i < a.length
    · have hga : a[i]? = some a[i] := List.getElem?_eq_getElem hi
      have hib : i < b.length := by omega
      have hgb : b[i]? = some b[i] := List.getElem?_eq_getElem hib
      have hs := take_succ_eq ht hi hib
      by_cases he : a[i] = b[i]
      · simp [F_r07_All_L0, D15, h0, h1, h5, hga, hgb, hi, he]
        exact ⟨k - 1, by omega, IW.of (show RAllI a b _ _ _ from ⟨i + 1, by omega, hs.2 he, by simpa using h0, by simpa using h1, by simp; rw [IntWalk.i64_in _ (by omega)]⟩)⟩
      · have hne : ¬ a = b := fun e => he (by subst e; rfl)
        simp [F_r07_All_L0, D15, h0, h1, h5, hga, hgb, hi, he, hne]
    · have hi' : i = a.length := by omega
      have : a = b := by
        have h2 := ht
        rw [hi', List.take_length, hl, List.take_length] at h2
        exact h2
      subst this
      simp [F_r07_All_L0, h0, h5, hi]
  · have hne : ¬ a = b := fun e => hl (by rw [e])
    have hl' : ¬ ((a.length : Int) = b.length) := by omega
    simp [F_r07_All, hl', hne]
/-- An extent's bytes. -/
def bytesX (x : Xt) : List UInt8 := if extOk x = true then (if x.kind = 2 then x.data else List.replicate (32 * x.len).toNat 0) else []
theorem c_r07_Bytes (x : Xt) : Pure Try.prog n_r07_Bytes [enc x] (.row 0 1 ((bytesX x).map cs)) [(5, 1, (bytesX x).length)] := by
  refine Pure.ofR D14_ok hm F_r07_Bytes_ok (by simp [F_r07_Bytes]) (by simp [V.res, V.res1]) ?_
  by_cases h1 : extOk x = true
  · have h := extOk_iff.1 h1
    by_cases hk : x.kind = 2
    · have hx : extOk ⟨x.lba, x.len, 2, x.gen, x.data⟩ = true := by rw [← hk]; exact h1
      simp only [hk, if_true] at h
      have hl := h.2.2.2.2.2.2.2.2
      simp [F_r07_Bytes, D14, h1, hk, hx, bytesX]
      omega
    · have w : IntKind.i64.wrap (32 * x.len) = 32 * x.len := IntWalk.i64_in _ (by omega)
      simp [F_r07_Bytes, D14, h1, hk, w, bytesX]
      omega
  · simp [F_r07_Bytes, D14, h1, bytesX]
end Go.Av

namespace Go.Av
open Enc (enc dec)
open Cel (cs dc)
open Go.Proofs Pl

/-- A form's letters are letters of a byte each. -/
def formOk (f : ByteArray) : Bool := f.data.toList.all (fun c => decide (c.toNat < 128)) && decide (f.size ≤ 2 ^ 30)
theorem formOk_spec {f : ByteArray} (h : formOk f = true) : (∀ c ∈ f.data.toList, c.toNat < 128) ∧ f.data.toList.length ≤ 2 ^ 30 := by
  simp only [formOk, Bool.and_eq_true, List.all_eq_true, decide_eq_true_eq] at h
  exact ⟨h.1, by rw [Array.length_toList]; exact h.2⟩
@[simp] def sp_pack (f : ByteArray) (l : List Nat) : Option (V × List Tip) := if formOk f = true ∧ l.length ≤ 2 ^ 30 then some (.tuple [.row 0 1 ((packB f.data.toList l).map cs), enc (packE f.data.toList l)], [(5, 1, (packB f.data.toList l).length)]) else none
@[simp] def sp_unpack (f : ByteArray) (b : List UInt8) : Option (V × List Tip) := if formOk f = true ∧ b.length ≤ 2 ^ 40 then some (.tuple [.row 0 1 ((unpackN f.data.toList b).map cs), enc (unpackE f.data.toList b)], [(114, 1, (unpackN f.data.toList b).length)]) else none
theorem ba_eta (f : ByteArray) : (⟨f.data.toList.toArray⟩ : ByteArray) = f := by cases f; simp
theorem sp_pack_ok : EOk Try.prog n_le_Pack (sp2 sp_pack) := sp2_ok fun f l r h => by
  simp only [sp_pack] at h
  split at h <;> cases h
  rename_i h
  have := c_le_Pack f.data.toList l (formOk_spec h.1).1 (formOk_spec h.1).2 h.2
  rwa [ba_eta] at this
theorem sp_unpack_ok : EOk Try.prog n_le_Unpack (sp2 sp_unpack) := sp2_ok fun f b r h => by
  simp only [sp_unpack] at h
  split at h <;> cases h
  rename_i h
  have := c_le_Unpack f.data.toList b (formOk_spec h.1).1 (formOk_spec h.1).2 h.2
  rwa [ba_eta] at this
theorem sp_rpack_ok : EOk Try.prog n_r01_Pack (sp2 sp_pack) := sp2_ok fun f l r h => by
  simp only [sp_pack] at h
  split at h <;> cases h
  rename_i h
  have := c_r01_Pack f.data.toList l (formOk_spec h.1).2
  rwa [ba_eta] at this
theorem sp_runpack_ok : EOk Try.prog n_r01_Unpack (sp2 sp_unpack) := sp2_ok fun f b r h => by
  simp only [sp_unpack] at h
  split at h <;> cases h
  rename_i h
  have := c_r01_Unpack f.data.toList b (formOk_spec h.1).2 h.2
  rwa [ba_eta] at this
theorem f_bbbw : formOk ⟨#[98, 98, 98, 119]⟩ = true := by decide

theorem tipset {tips xs : List Tip} {t : Nat} {b : Tip} (h : t < tips.length) : ((tips ++ xs).set t b)[t]? = some b := by rw [List.getElem?_set_self (by simp; omega)]
/-- An extent's head, and its bytes; those of some. -/
def hdX (x : Xt) : List UInt8 := leB x.lba.toNat 1 ++ (leB x.len.toNat 1 ++ (leB x.kind.toNat 1 ++ leB x.gen.toNat 4))
def wr1 (x : Xt) : List UInt8 := hdX x ++ x.data
def wrOk (l : List Xt) : Bool := decide (l.length ≤ 64) && l.all extOk
def wrB (l : List Xt) : List UInt8 := UInt8.ofNat l.length :: l.flatMap wr1
def writeB (l : List Xt) : List UInt8 := if wrOk l = true then wrB l else []
def writeE (l : List Xt) : Int := if wrOk l = true then 0 else 70
theorem hdX_length (x : Xt) : (hdX x).length = 7 := by simp [hdX, leB_length]
theorem pack_hd {x : Xt} (h : extOk x = true) : packS [98, 98, 98, 119] [x.lba.toNat, x.len.toNat, x.kind.toNat, x.gen.toNat] = some (hdX x) := by
  have h := extOk_iff.1 h
  have m1 : mayB x.lba.toNat 1 = true := by simp [mayB]; omega
  have m2 : mayB x.len.toNat 1 = true := by simp [mayB]; omega
  have m3 : mayB x.kind.toNat 1 = true := by simp [mayB]; omega
  have m4 : mayB x.gen.toNat 4 = true := by simp [mayB]; omega
  simp [packS, sizeL, m1, m2, m3, m4, hdX]
theorem ext_len {x : Xt} (h : extOk x = true) : x.data.length ≤ 2048 := by
  have h := extOk_iff.1 h
  have hl := h.2.2.2.2.2.2.2.2
  split at hl <;> omega
theorem wr1_length {x : Xt} (h : extOk x = true) : (wr1 x).length ≤ 2055 := by
  have := ext_len h
  simp [wr1, hdX_length]
  omega
theorem u64_wraps {x : Xt} (h : extOk x = true) : IntKind.u64.wrap x.lba = x.lba ∧ IntKind.u64.wrap x.len = x.len ∧ IntKind.u64.wrap x.kind = x.kind ∧ IntKind.u64.wrap x.gen = x.gen := by
  have h := extOk_iff.1 h
  exact ⟨IntWalk.u64_in _ (by omega), IntWalk.u64_in _ (by omega), IntWalk.u64_in _ (by omega), IntWalk.u64_in _ (by omega)⟩

def D16 : Orc := ((Orc.nil.add n_extent_Check (sp1 sp_extOk)).add n_le_Pack (sp2 sp_pack))
theorem D16_ok : OOk Try.prog D16 := (OOk.nil.add (sp1_ok fun x r h => by cases h; exact c_ext_Check x)).add sp_pack_ok
def XWriteI (l : List Xt) (k : Nat) (s : Nat → V) (m : Mem) : Prop :=
  ∃ (i t : Nat) (bx : List (List V)) (tips : List Tip) (acc : List UInt8), i + k = l.length ∧ (l.take i).all extOk = true ∧ acc = UInt8.ofNat l.length :: (l.take i).flatMap wr1 ∧ acc.length ≤ 1 + 2055 * i ∧ s 0 = .lit 5 (l.map cs) ∧ s 13 = .lit 5 (l.map cs) ∧ s 14 = .val (.int .i64 l.length) ∧ s 15 = .val (.int .i64 i) ∧
    s 4 = .row t 1 (acc.map cs) ∧ m = ⟨bx, tips⟩ ∧ tips[t]? = some (5, 1, acc.length)
theorem c_ext_Write (l : List Xt) (hl : l.length ≤ 2 ^ 20) : Pure Try.prog n_extent_Write [enc l] (.tuple [.row 0 1 ((writeB l).map cs), enc (writeE l)]) [(5, 1, (writeB l).length)] := by
  refine Pure.ofR D16_ok hm F_extent_Write_ok (by simp [F_extent_Write]) (by simp [V.res, V.res1]) ?_
  simp [F_extent_Write]
  refine wp_loop (XWriteI l) l.length (IW.of ⟨0, 1, _, _, [UInt8.ofNat l.length], by omega, by simp, by simp, by simp, by simp, by simp, by simp, by simp, by simp [wrap_u8_nat], rfl, by simp⟩) fun k s m ⟨i, t, bx, tips, acc, hik, hok, hacc, hal, h0, h13, h14, h15, h4, hm, ht⟩ => ?_
  subst hm
  by_cases hi : i < l.length
  · have hg : l[i]? = some l[i] := List.getElem?_eq_getElem hi
    have ht1 : l.take (i + 1) = l.take i ++ [l[i]] := by rw [List.take_add_one, hg]; rfl
    have htl : t < tips.length := lt_of_some ht
    cases hx : extOk l[i] with
    | false =>
      have hno : wrOk l = false := by
        simp only [wrOk, Bool.and_eq_false_iff]
        refine .inr (List.all_eq_false.2 ⟨l[i], List.getElem_mem hi, by simp [hx]⟩)
      simp [XWriteI, F_extent_Write_L0, D16, h0, h13, h14, h15, h4, hg, hi, hx, f_bbbw, writeB, writeE, hno]
    | true =>
      obtain ⟨w1, w2, w3, w4⟩ := u64_wraps hx
      have hp := pack_hd hx
      have hb1 : packB [98, 98, 98, 119] [l[i].lba.toNat, l[i].len.toNat, l[i].kind.toNat, l[i].gen.toNat] = hdX l[i] := by simp [packB, hp]
      have hb2 : packE [98, 98, 98, 119] [l[i].lba.toNat, l[i].len.toNat, l[i].kind.toNat, l[i].gen.toNat] = 0 := by simp [packE, hp]
      have hlen := wr1_length hx
      have hle := ext_len hx
      have h7 := hdX_length l[i]
      have hx2 := extOk_iff.1 hx
      simp [F_extent_Write_L0, D16, h0, h13, h14, h15, h4, hg, hi, hx, f_bbbw, w1, w2, w3, w4, hb1, hb2, h7, ht, List.getElem?_append_left htl, tipset htl]
      refine ⟨by omega, by omega, by omega, by omega, by omega, by omega, k - 1, by omega, IW.of (show XWriteI l _ _ _ from ⟨i + 1, t, _, _, acc ++ wr1 l[i], by omega, ?_, ?_, ?_, by simpa using h0, by simpa using h13, by simpa using h14, ?_, by simp [wr1], rfl, ?_⟩)⟩
      · rw [ht1, List.all_append, hok]; simp [hx]
      · rw [ht1, List.flatMap_append, hacc]; simp
      · simp; omega
      · simp; rw [IntWalk.i64_in _ (by omega)]
      · rw [List.getElem?_set_self (by simp; omega)]
        simp [wr1, h7, Nat.add_assoc]
  · have hil : i = l.length := by omega
    have htk : l.take i = l := by rw [hil, List.take_length]
    rw [htk] at hok hacc
    by_cases h64 : l.length ≤ 64
    · have hw : wrOk l = true := by simp [wrOk, h64, hok]
      have h64' : ¬ ((64 : Int) < l.length) := by omega
      have e : writeB l = acc := by simp [writeB, hw, hacc, wrB]
      simp [F_extent_Write_L0, D16, h0, h13, h14, h15, h4, hi, h64', ht, e, writeE, hw]
    · have hw : wrOk l = false := by simp [wrOk, h64]
      have h64' : (64 : Int) < l.length := by omega
      simp [F_extent_Write_L0, D16, h0, h13, h14, h15, h4, hi, h64', writeB, writeE, hw]

def D17 : Orc := ((Orc.nil.add n_r07_Check (sp1 sp_extOk)).add n_r01_Pack (sp2 sp_pack))
theorem D17_ok : OOk Try.prog D17 := (OOk.nil.add (sp1_ok fun x r h => by cases h; exact c_r07_Check x)).add sp_rpack_ok
def RXWriteI (l : List Xt) (k : Nat) (s : Nat → V) (m : Mem) : Prop :=
  ∃ (i t : Nat) (bx : List (List V)) (tips : List Tip) (acc : List UInt8), i + k = l.length ∧ (l.take i).all extOk = true ∧ acc = UInt8.ofNat l.length :: (l.take i).flatMap wr1 ∧ acc.length ≤ 1 + 2055 * i ∧ s 0 = .lit 5 (l.map cs) ∧ s 5 = .val (.int .i64 i) ∧
    s 4 = .row t 1 (acc.map cs) ∧ m = ⟨bx, tips⟩ ∧ tips[t]? = some (5, 1, acc.length)
theorem c_r07_Write (l : List Xt) : Pure Try.prog n_r07_Write [enc l] (.tuple [.row 0 1 ((writeB l).map cs), enc (writeE l)]) [(5, 1, (writeB l).length)] := by
  refine Pure.ofR D17_ok hm F_r07_Write_ok (by simp [F_r07_Write]) (by simp [V.res, V.res1]) ?_
  by_cases h64 : l.length ≤ 64
  · have h64' : ¬ ((64 : Int) < l.length) := by omega
    simp [F_r07_Write, h64']
    refine wp_loop (RXWriteI l) l.length (IW.of ⟨0, 1, _, _, [UInt8.ofNat l.length], by omega, by simp, by simp, by simp, by simp, by simp, by simp [wrap_u8_nat], rfl, by simp⟩) fun k s m ⟨i, t, bx, tips, acc, hik, hok, hacc, hal, h0, h5, h4, hm, ht⟩ => ?_
    subst hm
    by_cases hi : i < l.length
    · have hg : l[i]? = some l[i] := List.getElem?_eq_getElem hi
      have ht1 : l.take (i + 1) = l.take i ++ [l[i]] := by rw [List.take_add_one, hg]; rfl
      have htl : t < tips.length := lt_of_some ht
      cases hx : extOk l[i] with
      | false =>
        have hno : wrOk l = false := by
          simp only [wrOk, Bool.and_eq_false_iff]
          refine .inr (List.all_eq_false.2 ⟨l[i], List.getElem_mem hi, by simp [hx]⟩)
        simp [F_r07_Write_L0, D17, h0, h5, h4, hg, hi, hx, writeB, writeE, hno]
      | true =>
        obtain ⟨w1, w2, w3, w4⟩ := u64_wraps hx
        have hp := pack_hd hx
        have hb1 : packB [98, 98, 98, 119] [l[i].lba.toNat, l[i].len.toNat, l[i].kind.toNat, l[i].gen.toNat] = hdX l[i] := by simp [packB, hp]
        have hb2 : packE [98, 98, 98, 119] [l[i].lba.toNat, l[i].len.toNat, l[i].kind.toNat, l[i].gen.toNat] = 0 := by simp [packE, hp]
        have hlen := wr1_length hx
        have hle := ext_len hx
        have h7 := hdX_length l[i]
        have hx2 := extOk_iff.1 hx
        simp [F_r07_Write_L0, D17, h0, h5, h4, hg, hi, hx, f_bbbw, w1, w2, w3, w4, hb1, hb2, h7, ht, List.getElem?_append_left htl, tipset htl]
        refine ⟨by omega, by omega, by omega, by omega, by omega, by omega, k - 1, by omega, IW.of (show RXWriteI l _ _ _ from ⟨i + 1, t, _, _, acc ++ wr1 l[i], by omega, ?_, ?_, ?_, by simpa using h0, ?_, by simp [wr1], rfl, ?_⟩)⟩
        · rw [ht1, List.all_append, hok]; simp [hx]
        · rw [ht1, List.flatMap_append, hacc]; simp
        · simp; omega
        · simp; rw [IntWalk.i64_in _ (by omega)]
        · rw [List.getElem?_set_self (by simp; omega)]
          simp [wr1, h7, Nat.add_assoc]
    · have hil : i = l.length := by omega
      have htk : l.take i = l := by rw [hil, List.take_length]
      rw [htk] at hok hacc
      have hw : wrOk l = true := by simp [wrOk, h64, hok]
      have e : writeB l = acc := by simp [writeB, hw, hacc, wrB]
      simp [F_r07_Write_L0, D17, h0, h5, h4, hi, ht, e, writeE, hw]
  · have hw : wrOk l = false := by simp [wrOk, h64]
    have h64' : (64 : Int) < l.length := by omega
    simp [F_r07_Write, h64', writeB, writeE, hw]
end Go.Av

namespace Go.Av
open Enc (enc dec)
open Cel (cs dc)
open Go.RowKit

mutual
theorem Rep.under {M : Mp} {w : World} : ∀ (v : V) (x : Value), Rep M w v x → v.under M.β.length M.γ.length = true
  | .val _, _, _ => rfl
  | .agg l, x, h => by
    obtain ⟨vs, rfl, h⟩ := h
    exact RepL.under l _ h
  | .lit sz xs, x, h => by
    rcases h with ⟨rfl, _⟩ | ⟨ad, c, h0, h1, h2, h3, h4⟩
    · rfl
    · exact RepX.under xs _ _ h4
  | .full sz xs, x, h => by
    rcases h with ⟨rfl, _⟩ | ⟨ad, h0, h2, h3, h4⟩
    · rfl
    · exact RepX.under xs _ _ h4
  | .emp _, _, _ => rfl
  | .row t sz xs, x, h => by
    obtain ⟨G, h4, h⟩ := h
    have ht : t < M.γ.length := (List.getElem?_eq_some_iff.1 h4).1
    simp only [V.under, ht, decide_true, Bool.true_and]
    rcases h with ⟨rfl, _⟩ | ⟨g, c, h0, h1, h2, h3, h5⟩
    · rfl
    · exact RepX.under xs _ _ h3
  | .ptr b off, x, h => by
    obtain ⟨g, rfl, h⟩ := h
    simpa [V.under] using (List.getElem?_eq_some_iff.1 h).1
  | .yld b, x, h => by
    obtain ⟨g, rfl, h⟩ := h
    simpa [V.under] using (List.getElem?_eq_some_iff.1 h).1
  | .ref k b, x, h => by
    obtain ⟨g, c, rfl, h0, h⟩ := h
    simpa [V.under] using (List.getElem?_eq_some_iff.1 h).1
  | .eptr cs, x, h => by
    obtain ⟨ad, rfl, h1, h⟩ := h
    exact RepC.under cs _ _ h
  | .func f cap, x, h => by
    obtain ⟨vs, rfl, h⟩ := h
    exact RepL.under cap _ h
  | .iface t v, x, h => by
    obtain ⟨y, rfl, h⟩ := h
    exact Rep.under v _ h
  | .tuple l, x, h => by
    obtain ⟨vs, rfl, h⟩ := h
    exact RepL.under l _ h
theorem RepL.under {M : Mp} {w : World} : ∀ (l : List V) (m : List Value), RepL M w l m → underL M.β.length M.γ.length l = true
  | [], _, _ => rfl
  | v :: l, m, h => by
    obtain ⟨x, m', rfl, h1, h2⟩ := h
    simp only [underL, Rep.under v x h1, RepL.under l m' h2]; rfl
theorem RepC.under {M : Mp} {w : World} : ∀ (l : List V) (b o : Nat), RepC M w l b o → underL M.β.length M.γ.length l = true
  | [], _, _, _ => rfl
  | v :: l, b, o, h => by
    obtain ⟨⟨x, h1, h2, h3, h4⟩, h⟩ := h
    simp only [underL, Rep.under v x h4, RepC.under l b _ h]; rfl
theorem RepX.under {M : Mp} {w : World} : ∀ (l : List (List V)) (b o : Nat), RepX M w l b o → underX M.β.length M.γ.length l = true
  | [], _, _, _ => rfl
  | e :: l, b, o, h => by
    simp only [underX, RepC.under e b o h.1, RepX.under l b _ h.2]; rfl
end
theorem underX_iff {k j : Nat} : ∀ {l : List (List V)}, underX k j l = true ↔ ∀ e ∈ l, underL k j e = true
  | [] => by simp [underX]
  | e :: l => by simp [underX, underX_iff (l := l)]
theorem underX_set {k j p : Nat} {l : List (List V)} {c : List V} (h : underX k j l = true) (hc : underL k j c = true) : underX k j (l.set p c) = true := by
  rw [underX_iff] at h ⊢
  intro e he
  rcases List.mem_or_eq_of_mem_set he with he | rfl
  · exact h e he
  · exact hc
theorem Good.under {B : Nat} {I0 : Nat → Nat → Prop} {w0 : World} {M : Mp} {m : Mem} {w : World} (h : Good B I0 w0 M m w) : underX m.boxes.length m.tips.length m.boxes = true := by
  rw [underX_iff]
  intro e he
  obtain ⟨i, hi, rfl⟩ := List.getElem_of_mem he
  have hβ : M.β[i]? = some (M.β[i]'(by rw [h.lβ]; exact hi)) := List.getElem?_eq_getElem _
  obtain ⟨_, ob, _, hb⟩ := h.box i _ _ hβ (List.getElem?_eq_getElem hi)
  rw [← h.lβ, ← h.lγ]
  rcases hb with ⟨_, vs, T, _, _, hr, _⟩ | ⟨_, str, pos, _, hc⟩ | ⟨fam, st, _, _, hc⟩ | ⟨_, es, c, _, hr⟩ | ⟨_, hc⟩
  · exact RepL.under _ _ hr
  · rw [hc]; simp [underL, V.under]
  · rw [hc]; cases st <;> simp [St.v, underL, V.under]
  · exact RepL.under _ _ hr
  · rw [hc]; rfl
section
variable {P : Program} {D : Orc} {own : Nat → Bool} {f : FuncId} {F : F} {args : List V}
/-- A function that writes to boxes that are there; its answer is clean. -/
theorem Loc.ofC (hD : OOk P D) (hm : P.follows .mixedOrders = true) (hF : compF P own f = some F) {m m' : Mem} {r : V} (hn : args.length ≤ F.n) (hr : cleanL [r] = true ∨ ∃ l, r = .tuple l ∧ cleanL l = true) (k j : Nat) (hk : m.boxes.length ≤ k) (hj : m.tips.length ≤ j)
    (h : underX m.boxes.length m.tips.length m.boxes = true → wp P noY D F.c (argS args) m (Fin F.rs fun v m1 => keepN [] v r ∧ underX k j (m1.boxes.take k) = true ∧ m' = ⟨m1.boxes.take k, m1.tips.take j⟩)) : Loc P f args m r m' := by
  have hcl : callable P f = true := by
    unfold compF at hF
    split at hF
    · assumption
    · cases hF
  refine ⟨hcl, fun B I0 w0 M w vals hg hrl => ?_⟩
  refine (calls_sound hm hF hn hg hrl YOk.no (wp_sound hD _ (h hg.under))).2.mono fun e w' ⟨x, M', v, m1, he, hE, hg', hx, hv, hb, hm'⟩ => ?_
  refine ⟨x, M'.cut k j, he, Mp.cut_ext M' k j hE (by rw [hg.lβ]; exact hk) (by rw [hg.lγ]; exact hj), by rw [hm']; exact hg'.cut hb, ?_⟩
  have hx' := keepN_rep hv hx
  rcases hr with hr | ⟨l, rfl, hr⟩
  · simp only [cleanL, Bool.and_true] at hr
    exact Rep.clean (M := M'.sel []) (M' := M'.cut k j) (fun _ _ h => h) r x hr hx'
  · obtain ⟨vs, rfl, hx'⟩ := hx'
    exact ⟨vs, rfl, RepL.clean (M := M'.sel []) (M' := M'.cut k j) (fun _ _ h => h) l _ hr hx'⟩
end
/-- A box of the caller's, below those of one's own. -/
theorem box_facts {l : List (List V)} {p : Nat} (h : p < l.length) :
    (∀ (b : List (List V)), (l ++ b)[p]? = l[p]?) ∧ (∀ (b : List (List V)) (y : List V), (l ++ b).set p y = l.set p y ++ b) ∧ (∀ (b : List (List V)) (y : List V), (l.set p y ++ b)[p]? = some y) ∧ (∀ (c y : List V) (b : List (List V)), (l.set p y ++ c :: b)[l.length]? = some c) ∧
    (∀ (c y z : List V) (b : List (List V)), (l.set p y ++ c :: b).set l.length z = l.set p y ++ z :: b) ∧ (∀ (y z : List V) (b : List (List V)), (l.set p y ++ b).set p z = l.set p z ++ b) ∧ (∀ (y : List V) (b : List (List V)), (l.set p y ++ b).take l.length = l.set p y) := by
  refine ⟨fun b => List.getElem?_append_left h, fun b y => List.set_append_left p y h, fun b y => ?_, fun c y b => ?_, fun c y z b => ?_, fun y z b => ?_, fun y b => ?_⟩
  · rw [List.getElem?_append_left (by simpa using h), List.getElem?_set_self h]
  · rw [List.getElem?_append_right (by simp)]; simp
  · rw [List.set_append_right _ _ (by simp)]; simp
  · rw [List.set_append_left _ _ (by simpa using h), List.set_set]
  · rw [← (List.length_set : (l.set p y).length = l.length), List.take_left']
    rfl
theorem setC_self {α : Type} {l : List α} {p : Nat} {c : α} (h : l[p]? = some c) : l.set p c = l := by
  refine List.ext_getElem? fun i => ?_
  by_cases e : p = i
  · subst e
    rw [List.getElem?_set_self (List.getElem?_eq_some_iff.1 h).1, h]
  · rw [List.getElem?_set_ne e]
@[simp] theorem sepV_ptr {b o b' o' : Nat} : sepV (.ptr b o) (.ptr b' o') = (b ≠ b') := by
  refine propext ⟨fun h => h b o b' o' rfl rfl, fun h c d c' d' e e' => ?_⟩
  cases e; cases e'; exact h
section
variable {α : Type} [Cel α]
theorem row_dec {M : Mp} {w : World} {x : Value} {t sz : Nat} {xs : List (List V)} {l : List α} (hz : sz = Cel.sz α) (h : decX xs = some l) (hr : Rep M w (.row t sz xs) x) : Rep M w (.row t sz (l.map cs)) x := by
  obtain ⟨G, h4, hr⟩ := hr
  refine ⟨G, h4, ?_⟩
  rcases hr with ⟨rfl, rfl⟩ | ⟨g, c, rfl, h1, h2, h3, h5⟩
  · cases h; exact .inl ⟨rfl, rfl⟩
  · obtain ⟨i1, i2⟩ := RepX.of_dc h h3
    refine .inr ⟨g, c, by rw [i2, List.length_map], by simpa [← i2] using h1, ?_, i1, by rw [List.length_map, ← i2]; exact h5⟩
    intro e he
    obtain ⟨a, _, rfl⟩ := List.mem_map.1 he
    rw [Cel.len, hz]
theorem put_put_same (d : Nat) (v w : V) (s : Nat → V) : put (some d) v (put (some d) w s) = put (some d) v s := by
  funext i
  simp only [put]
  split <;> simp_all
/-- A row's elements, as plain ones. -/
theorem IW.rowSlot {I : (Nat → V) → Mem → Prop} {s : Nat → V} {m : Mem} {d t sz : Nat} {xs : List (List V)} (l : List α) (hs : s d = .row t sz xs) (hd : decX xs = some l) (hz : sz = Cel.sz α) (h : I (put (some d) (.row t sz (l.map cs)) s) m) : IW I s m :=
  ⟨_, m, Wkn.slot (fun M w x hr => by rw [hs] at hr; exact row_dec hz hd hr), h⟩
end
theorem Loc.wk {P : Program} {f : FuncId} {args args' : List V} {m m' : Mem} {r : V} (h : WkL args args') (hl : Loc P f args' m r m') : Loc P f args m r m' :=
  ⟨hl.1, fun B I0 w0 M w vals hg hr => hl.2 B I0 w0 M w vals hg (h M w vals.toList hr)⟩
theorem WkL.refl : ∀ l : List V, WkL l l := fun _ _ _ _ h => h
/-- The run up to a place. -/
theorem wp_seqC {P : Program} {Y : YRel} {D : Orc} {a b : C} {s : Nat → V} {m : Mem} {Q : Exit → (Nat → V) → Mem → Prop} (R : (Nat → V) → Mem → Prop) (h : wp P Y D a s m (seqQ R Q)) (h2 : ∀ s' m', R s' m' → wp P Y D b s' m' Q) : wp P Y D (.seq a b) s m Q :=
  wp_seq_cut R h h2
section
variable {P : Program} {D : Orc} {own : Nat → Bool} {f : FuncId} {F : F} {args : List V}
/-- A function that calls a 'yield' that is at hand; what is left is all that is there. -/
theorem LocY.ofX {Y : YRel} (hD : OOk P D) (hm : P.follows .mixedOrders = true) (hF : compF P own f = some F) {m m' : Mem} {r : V} (hn : args.length ≤ F.n)
    (h : wp P Y D F.c (argS args) m (Fin F.rs fun v m1 => v = r ∧ m1 = m')) : LocY P Y f args m r m' := by
  have hcl : callable P f = true := by
    unfold compF at hF
    split at hF
    · assumption
    · cases hF
  refine ⟨hcl, fun B I0 w0 M w vals hY hg hrl => ?_⟩
  refine (calls_sound hm hF hn hg hrl hY (wp_sound hD _ h)).2.mono fun e w' ⟨x, M', v, m1, he, hE, hg', hx, hv, hm'⟩ => ?_
  subst hv hm'
  exact ⟨x, M', he, hE, hg', hx⟩
theorem Loc.ofX (hD : OOk P D) (hm : P.follows .mixedOrders = true) (hF : compF P own f = some F) {m m' : Mem} {r : V} (hn : args.length ≤ F.n)
    (h : wp P noY D F.c (argS args) m (Fin F.rs fun v m1 => v = r ∧ m1 = m')) : Loc P f args m r m' := (LocY.ofX hD hm hF hn h).loc
end
/-- What an iterator's calls of 'yield' do, one behind the other. -/
inductive YRun (Y : YRel) (L : Nat) (K : Mem → Prop) : List (List V) → Mem → Mem → Prop
  | done {m : Mem} : YRun Y L K [] m m
  | stop {a : List V} {r : List (List V)} {m m1 : Mem} (h : Y L a m (.val (.bool false)) m1) : YRun Y L K (a :: r) m m1
  | next {a : List V} {r : List (List V)} {m m1 m2 : Mem} (h : Y L a m (.val (.bool true)) m1) (hk : K m1) (h2 : YRun Y L K r m1 m2) : YRun Y L K (a :: r) m m2
end Go.Av

namespace Go.Av
open Enc (enc dec)
open Cel (cs dc)
open Go.Proofs Pl

/-- An extent's head, as its bytes tell it; an extent that bytes begin with, and what is behind it. -/
def hdR (b : List UInt8) : Xt := ⟨leN (b.take 1), leN ((b.drop 1).take 1), leN ((b.drop 2).take 1), leN ((b.drop 3).take 4), []⟩
def datN (x : Xt) : Nat := if x.kind = 2 then (x.len * 32).toNat else 0
def nextX (b : List UInt8) : Xt × List UInt8 := if b.length < 7 then (Xt.zero, b) else
  if 0 < datN (hdR b) ∧ datN (hdR b) ≤ (b.drop 7).length then ({ hdR b with data := (b.drop 7).take (datN (hdR b)) }, (b.drop 7).drop (datN (hdR b))) else (hdR b, b.drop 7)
theorem unpack_hd {b : List UInt8} (h : 7 ≤ b.length) : unpackS [98, 98, 98, 119] (b.take 7) = some [leN (b.take 1), leN ((b.drop 1).take 1), leN ((b.drop 2).take 1), leN ((b.drop 3).take 4)] := by
  have e : okT = fun (b : List UInt8) (w : Int) => mayB 0 w && decide (w ≤ b.length) := rfl
  match b, h with
  | a1 :: a2 :: a3 :: a4 :: a5 :: a6 :: a7 :: r, _ =>
    simp [unpackS, sizeL, okT, mayB]
theorem hdR_bounds (b : List UInt8) : 0 ≤ (hdR b).lba ∧ (hdR b).lba < 256 ∧ 0 ≤ (hdR b).len ∧ (hdR b).len < 256 ∧ 0 ≤ (hdR b).kind ∧ (hdR b).kind < 256 ∧ 0 ≤ (hdR b).gen ∧ (hdR b).gen < 4294967296 := by
  have a1 := leN_lt (b.take 1)
  have a2 := leN_lt ((b.drop 1).take 1)
  have a3 := leN_lt ((b.drop 2).take 1)
  have a4 := leN_lt ((b.drop 3).take 4)
  have p : ∀ (l : List UInt8) (n : Nat), 256 ^ (l.take n).length ≤ 256 ^ n := fun l n => Nat.pow_le_pow_right (by decide) (by simp; omega)
  have p1 := p b 1
  have p2 := p (b.drop 1) 1
  have p3 := p (b.drop 2) 1
  have p4 := p (b.drop 3) 4
  simp only [hdR]
  omega
theorem under_cs (k j : Nat) : ∀ l : List UInt8, underX k j (l.map cs) = true
  | [] => rfl
  | a :: l => by simp only [List.map_cons, underX, under_cs k j l]; rfl
@[simp] def sp_extdata (x : Xt) : Option (V × List Tip) := sp_data x
def D18 : Orc := (((Orc.nil.add n_extent_Check (sp1 sp_extOk)).add n_le_Unpack (sp2 sp_unpack)).add n_extent_data (sp1 sp_data)).add n_bytes_Clone (sp1 sp_clone)
theorem sp_clone_ok : EOk Try.prog n_bytes_Clone (sp1 sp_clone) := sp1_ok fun l r h => by
  simp only [sp_clone] at h
  split at h <;> cases h
  exact c_clone l (by assumption)
theorem sp_data_ok : EOk Try.prog n_extent_data (sp1 sp_data) := sp1_ok fun x r h => by
  simp only [sp_data] at h
  split at h <;> cases h
  rename_i h; exact c_data x h.1 h.2
theorem sp_extOk_ok : EOk Try.prog n_extent_Check (sp1 sp_extOk) := sp1_ok fun x r h => by cases h; exact c_ext_Check x
theorem sp_rextOk_ok : EOk Try.prog n_r07_Check (sp1 sp_extOk) := sp1_ok fun x r h => by cases h; exact c_r07_Check x
theorem D18_ok : OOk Try.prog D18 := (((OOk.nil.add sp_extOk_ok).add sp_unpack_ok).add sp_data_ok).add sp_clone_ok
set_option maxRecDepth 4000 in
theorem c_ext_Read1 (m : Mem) (p : Nat) (b : List UInt8) (hb : b.length ≤ 2 ^ 40) (hp : m.boxes[p]? = some [enc b]) :
    Loc Try.prog n_extent_Read_1 [.ptr p 0] m (.tuple [enc (nextX b).1, enc (decide (7 ≤ b.length) && extOk (nextX b).1)]) { m with boxes := m.boxes.set p [enc (nextX b).2] } := by
  refine Loc.ofC D18_ok hm F_extent_Read_1_ok (by simp [F_extent_Read_1]) (.inr ⟨_, rfl, by simp⟩) m.boxes.length m.tips.length (Nat.le_refl _) (Nat.le_refl _) fun hu => ?_
  have hpl : p < m.boxes.length := (List.getElem?_eq_some_iff.1 hp).1
  have hp' : m.boxes[p]? = some [.lit 1 (b.map cs)] := hp
  have hset : m.boxes.set p [.lit 1 (b.map cs)] = m.boxes := setC_self hp'
  obtain ⟨f1, f2, f3, f4, f5, f6, f7⟩ := box_facts hpl
  have hus : ∀ l : List UInt8, underX m.boxes.length m.tips.length (m.boxes.set p [.lit 1 (l.map cs)]) = true := fun l => underX_set hu (by simp only [underL, V.under, Bool.and_true]; exact under_cs _ _ l)
  have hus2 : ∀ n : Nat, underX m.boxes.length m.tips.length (m.boxes.set p [.lit 1 ((b.map cs).drop n)]) = true := fun n => by rw [← List.map_drop]; exact hus _
  by_cases h7 : b.length < 7
  · have h7' : (b.length : Int) < 7 := by omega
    have hn : nextX b = (Xt.zero, b) := by simp [nextX, h7]
    simp [F_extent_Read_1, D18, f1, hp', h7', hn, Xt.zero, hu, hset, Nat.not_le.2 h7]
  · have h7' : ¬ (b.length : Int) < 7 := by omega
    have hp1 := unpack_hd (b := b) (by omega)
    have hu1 : unpackN [98, 98, 98, 119] (b.take 7) = [leN (b.take 1), leN ((b.drop 1).take 1), leN ((b.drop 2).take 1), leN ((b.drop 3).take 4)] := by simp only [unpackN, hp1]; rfl
    have hu2 : unpackE [98, 98, 98, 119] (b.take 7) = 0 := by simp only [unpackE, hp1]; rfl
    have hbd := hdR_bounds b
    simp only [hdR] at hbd
    have hh : hdR b = ⟨leN (b.take 1), leN ((b.drop 1).take 1), leN ((b.drop 2).take 1), leN ((b.drop 3).take 4), []⟩ := rfl
    generalize leN (b.take 1) = a1 at *
    generalize leN ((b.drop 1).take 1) = a2 at *
    generalize leN ((b.drop 2).take 1) = a3 at *
    generalize leN ((b.drop 3).take 4) = a4 at *
    have w1 := IntWalk.i64_in (a1 : Int) (by omega)
    have w2 := IntWalk.i64_in (a2 : Int) (by omega)
    have w3 := IntWalk.i64_in (a3 : Int) (by omega)
    have w4 := IntWalk.i64_in (a4 : Int) (by omega)
    have g1 : (7 : Int) ≤ b.length := by omega
    have g2 : 7 ≤ b.length := by omega
    by_cases hc : a3 = 2 ∧ 0 < a2 ∧ a2 * 32 ≤ b.length - 7
    · obtain ⟨rfl, hc1, hc2⟩ := hc
      have hd : datN (hdR b) = a2 * 32 := by rw [hh]; simp [datN]; omega
      have hn : nextX b = (⟨a1, a2, 2, a4, (b.drop 7).take (a2 * 32)⟩, (b.drop 7).drop (a2 * 32)) := by
        rw [nextX, if_neg h7, hd, if_pos ⟨by omega, by simp; omega⟩, hh]; rfl
      have h1 : (0 : Int) < a2 * 32 := by omega
      have h2 : (a2 : Int) * 32 ≤ (b.length - 7 : Nat) := by omega
      have h3 : ((a2 : Int) * 32).toNat = a2 * 32 := by omega
      have h4 : (0 : Int) ≤ (a2 : Int) * 32 := by omega
      have w3' : IntKind.i64.wrap 2 = 2 := by decide
      simp [F_extent_Read_1, D18, f1, f2, f3, f4, f5, f6, f7, hp', h7', hu1, hu2, w1, w2, w3', w4, f_bbbw, hus2, g1, g2, h1, h2, h3, h4, hn, Nat.ne_of_lt hpl, -Int.natCast_mul]
      omega
    · have hn : nextX b = (⟨a1, a2, a3, a4, []⟩, b.drop 7) := by
        rw [nextX, if_neg h7, if_neg, hh]
        intro ⟨k1, k2⟩
        rw [hh] at k1 k2
        simp only [datN, List.length_drop] at k1 k2
        apply hc
        split at k1 <;> rename_i e
        · rw [if_pos e] at k2
          omega
        · omega
      by_cases h2 : a3 = 2
      · subst h2
        have w3' : IntKind.i64.wrap 2 = 2 := by decide
        by_cases h3 : 0 < a2
        · have h4 : (0 : Int) < a2 * 32 := by omega
          have h5 : ¬ ((a2 : Int) * 32 ≤ (b.length - 7 : Nat)) := by omega
          simp [F_extent_Read_1, D18, f1, f2, f3, f4, f5, f6, f7, hp', h7', hu1, hu2, w1, w2, w3', w4, f_bbbw, hus2, g1, g2, h4, h5, hn, Nat.ne_of_lt hpl, -Int.natCast_mul]
          omega
        · have h4 : a2 = 0 := by omega
          subst h4
          have w2' : IntKind.i64.wrap 0 = 0 := by decide
          simp [F_extent_Read_1, D18, f1, f2, f3, f4, f5, f6, f7, hp', h7', hu1, hu2, w1, w2', w3', w4, f_bbbw, hus2, g1, g2, hn, Nat.ne_of_lt hpl, -Int.natCast_mul]
      · have h2' : ¬ (a3 : Int) = 2 := by omega
        simp [F_extent_Read_1, D18, f1, f2, f3, f4, f5, f6, f7, hp', h7', hu1, hu2, w1, w2, w3, w4, f_bbbw, hus2, g1, g2, h2', hn, Nat.ne_of_lt hpl, -Int.natCast_mul]
        omega
theorem dec_eq_u8 {v : V} {a : UInt8} (h : dec v = some a) : v = enc a := by
  unfold dec instEncUInt8 at h
  simp only at h
  split at h
  · rename_i n
    split at h
    · rename_i h0
      cases h
      show _ = V.val (.int .u8 _)
      have : n.toNat < 256 := by omega
      rw [show (((UInt8.ofNat n.toNat).toNat : Nat) : Int) = n by simp; omega]
    · cases h
  · cases h
theorem decX_u8 : ∀ {xs : List (List V)} {l : List UInt8}, decX xs = some l → xs = l.map cs
  | [], l, h => by cases h; rfl
  | e :: r, l, h => by
    simp only [decX, Option.bind_eq_some_iff] at h
    obtain ⟨a, h1, l', h2, h3⟩ := h
    cases h3
    have h1' : dc1 e = some a := h1
    unfold dc1 at h1'
    split at h1'
    · rw [decX_u8 h2, dec_eq_u8 h1']; rfl
    · cases h1'
/-- A box of bytes, cut by a closure. -/
def boxB (m : Mem) (p : Nat) : Option (List UInt8) := match m.boxes[p]? with
  | some [.lit 1 xs] => decX xs
  | _ => none
theorem boxB_some {m : Mem} {p : Nat} {b : List UInt8} (h : boxB m p = some b) : m.boxes[p]? = some [enc b] := by
  unfold boxB at h
  split at h
  · rename_i xs e
    rw [e, decX_u8 h]; rfl
  · cases h
@[simp] theorem boxB_of {m : Mem} {p : Nat} {b : List UInt8} (h : m.boxes[p]? = some [.lit 1 (b.map cs)]) : boxB m p = some b := by
  simp [boxB, h, decX_map]
def sp_next : List V → Mem → Option (V × Mem)
  | [.ptr p 0], m => (boxB m p).bind fun b => if b.length ≤ 2 ^ 40 then some (.tuple [enc (nextX b).1, enc (decide (7 ≤ b.length) && extOk (nextX b).1)], { m with boxes := m.boxes.set p [enc (nextX b).2] }) else none
  | _, _ => none
theorem sp_next_ok : EOkL Try.prog n_extent_Read_1 sp_next := by
  intro args m v m' h
  unfold sp_next at h
  split at h
  · simp only [Option.bind_eq_some_iff] at h
    obtain ⟨b, hb, h⟩ := h
    split at h <;> cases h
    exact c_ext_Read1 m _ b (by assumption) (boxB_some hb)
  · cases h

/-- So many extents that bytes are. -/
def readN : Nat → List UInt8 → Option (List Xt)
  | 0, b => if b = [] then some [] else none
  | n + 1, b => if 7 ≤ b.length ∧ extOk (nextX b).1 = true then (readN n (nextX b).2).map ((nextX b).1 :: ·) else none
def readX : List UInt8 → Option (List Xt)
  | [] => none
  | c :: b => if c.toNat ≤ 64 then readN c.toNat b else none
def readL (b : List UInt8) : List Xt := (readX b).getD []
def readE (b : List UInt8) : Int := if (readX b).isSome = true then 0 else 70
theorem nextX_length (b : List UInt8) : (nextX b).2.length ≤ b.length := by
  unfold nextX
  split
  · exact Nat.le_refl _
  · split <;> simp <;> omega
def D19 : Orc := Orc.nil.addL n_extent_Read_1 sp_next
theorem D19_ok : OOk Try.prog D19 := OOk.nil.addL sp_next_ok
def XReadJ (b0 : List UInt8) (n : Nat) (k : Nat) (s : Nat → V) (m : Mem) : Prop :=
  ∃ (i t : Nat) (bx : List (List V)) (tips : List Tip) (acc : List Xt) (b : List UInt8), i + k = n ∧ acc.length = i ∧ b.length ≤ 2 ^ 40 ∧ readX b0 = (readN k b).map (acc ++ ·) ∧ s 1 = .ptr 0 0 ∧ s 2 = .row t 5 (acc.map cs) ∧ s 3 = .val (.int .i64 0) ∧ s 4 = .val (.int .i64 n) ∧ s 5 = .func n_extent_Read_1 [.ptr 0 0] ∧
    m = ⟨[.lit 1 (b.map cs)] :: bx, tips⟩ ∧ tips[t]? = some (174, 5, acc.length)
theorem c_ext_Read (b : List UInt8) (hb : b.length ≤ 2 ^ 40) : Pure Try.prog n_extent_Read [enc b] (.tuple [.row 0 5 ((readL b).map cs), enc (readE b)]) [(174, 5, (readL b).length)] := by
  refine Pure.ofR D19_ok hm F_extent_Read_ok (by simp [F_extent_Read]) (by simp [V.res, V.res1]) ?_
  simp [F_extent_Read]
  cases b with
  | nil => 
    refine wp_jumps (fun _ _ _ => False) ?_ (fun _ _ _ h => h.elim)
    simp [F_extent_Read_S0, readL, readE, readX]
  | cons c r =>
    by_cases hc : c.toNat ≤ 64
    · have hc' : ¬ ((64 : Int) < c.toNat) := by omega
      have hw := IntWalk.i64_in (c.toNat : Int) (by omega)
      have rest : ∀ k s m, XReadJ (c :: r) c.toNat k s m → wp Try.prog noY D19 F_extent_Read_B0 s m (jumpQ 0 (fun s m => ∃ j, j < k ∧ IW (XReadJ (c :: r) c.toNat j) s m) (Fin [.tmp 2, .tmp 3] fun v m => ∃ t, keepN [t] v (.tuple [.row 0 5 ((readL (c :: r)).map cs), enc (readE (c :: r))]) ∧ m.tips[t]? = some (174, 5, (readL (c :: r)).length))) := by
        intro k s m ⟨i, t, bx, tips, acc, b, hik, hi, hb, hr, h1, h2, h3, h4, h5, hm, ht⟩
        subst hm
        have hbx : boxB ⟨[.lit 1 (b.map cs)] :: bx, tips⟩ 0 = some b := boxB_of rfl
        have htl : t < tips.length := lt_of_some ht
        by_cases hk : k = 0
        · subst hk
          have e1 : acc.length = c.toNat := by omega
          cases b with
          | nil =>
            have e2 : readX (c :: r) = some acc := by simp [hr, readN]
            simp [F_extent_Read_B0, D19, h1, h2, h3, h4, h5, e1, readL, readE, e2]
            first | exact ht | exact ⟨t, ⟨rfl, rfl⟩, by rw [← e1]; exact ht⟩ | (rw [← e1]; exact ht)
          | cons d b =>
            have e2 : readX (c :: r) = none := by simp [hr, readN]
            simp [F_extent_Read_B0, D19, h1, h2, h3, h4, h5, e1, readL, readE, e2]
        · have e1 : ¬ (acc.length : Int) = c.toNat := by omega
          obtain ⟨k, rfl⟩ : ∃ k', k = k' + 1 := ⟨k - 1, by omega⟩
          cases hx : decide (7 ≤ b.length) && extOk (nextX b).1 with
          | false =>
            have e2 : readX (c :: r) = none := by
              rw [hr, readN, if_neg]
              · rfl
              · simpa using hx
            simp [F_extent_Read_B0, D19, h1, h2, h3, h4, h5, e1, readL, readE, e2, sp_next, hbx, hb, hx]
          | true =>
            have e2 : readX (c :: r) = (readN k (nextX b).2).map ((acc ++ [(nextX b).1]) ++ ·) := by
              rw [hr, readN, if_pos (by simpa using hx)]
              cases readN k (nextX b).2 <;> simp
            have e3 := nextX_length b
            simp [F_extent_Read_B0, D19, h1, h2, h3, h4, h5, e1, sp_next, hbx, hb, hx, ht]
            refine ⟨⟨by rw [List.getElem?_append_left htl]; exact ht, by omega⟩, k, by omega, IW.of (show XReadJ _ _ _ _ _ from ⟨i + 1, t, _, _, acc ++ [(nextX b).1], (nextX b).2, by omega, by simp [hi], by omega, e2, by simpa using h1, by simp, by simpa using h3, by simpa using h4, by simpa using h5, rfl, ?_⟩)⟩
            simp [tipset htl]
      refine wp_jumps (XReadJ (c :: r) c.toNat) ?_ ?_
      · simp [F_extent_Read_S0, D19, hc', hw]
        refine ⟨fun _ => ⟨by omega, wp_mono _ (fun e s m h => ?_) (rest c.toNat _ _ ⟨0, 0, _, _, [], r, by omega, rfl, ?_, ?_, by simp, by simp, by simp, by simp, by simp, rfl, rfl⟩)⟩, fun h => by omega⟩
        · cases e with
          | goto l => exact ⟨h.1, h.2.elim fun j hj => ⟨j, hj.2⟩⟩
          | _ => exact h
        · simp at hb; omega
        · simp [readX, hc]
      · intro k s m hJ
        simp [F_extent_Read_J0]
        exact rest k s m hJ
    · have hc' : (64 : Int) < c.toNat := by omega
      refine wp_jumps (fun _ _ _ => False) ?_ (fun _ _ _ h => h.elim)
      simp [F_extent_Read_S0, readL, readE, readX, hc, hc']
end Go.Av

namespace Go.Av
open Enc (enc dec)
open Cel (cs dc)
open Go.Proofs Pl

theorem leN_leB (v : Nat) : ∀ w, leN (leB v w) = v % 256 ^ w
  | 0 => by rw [leB_zero, Nat.pow_zero, Nat.mod_one]; rfl
  | w + 1 => by
    rw [leB_succ, leN_append, leN_leB v w, leB_length]
    simp only [leN, Nat.mul_zero, Nat.add_zero]
    rw [Nat.pow_succ, Nat.mod_mul, show (UInt8.ofNat (v / 256 ^ w)).toNat = v / 256 ^ w % 256 by simp]
theorem leB_cons (v w : Nat) : leB v (w + 1) = UInt8.ofNat v :: leB (v / 256) w := by
  simp only [leB, List.range_succ_eq_map, List.map_cons, List.map_map, Nat.pow_zero, Nat.div_one]
  congr 1
  refine List.map_congr_left fun i _ => ?_
  simp only [Function.comp, Nat.pow_succ]
  rw [Nat.mul_comm, Nat.div_div_eq_div_mul]
theorem leB_leN : ∀ l : List UInt8, leB (leN l) l.length = l
  | [] => rfl
  | b :: l => by
    have := b.toNat_lt
    have e : UInt8.ofNat (b.toNat + 256 * leN l) = b := by
      apply UInt8.toNat_inj.1
      simp
    rw [List.length_cons, leB_cons, leN, e, show (b.toNat + 256 * leN l) / 256 = leN l by omega, leB_leN l]
theorem hdX_hdR {b : List UInt8} (h : 7 ≤ b.length) (d : List UInt8) : hdX { hdR b with data := d } = b.take 7 := by
  match b, h with
  | a1 :: a2 :: a3 :: a4 :: a5 :: a6 :: a7 :: r, _ =>
    have h1 := leB_leN [a1]
    have h2 := leB_leN [a2]
    have h3 := leB_leN [a3]
    have h4 := leB_leN [a4, a5, a6, a7]
    simp only [List.length_cons, List.length_nil] at h1 h2 h3 h4
    simp only [hdX, hdR, Int.toNat_natCast, List.take_succ_cons, List.take_zero, List.drop_succ_cons, List.drop_zero]
    rw [h1, h2, h3, h4]
    rfl
theorem hdR_hdX {x : Xt} (h : extOk x = true) (r : List UInt8) : hdR (hdX x ++ r) = { x with data := [] } := by
  have h := extOk_iff.1 h
  obtain ⟨a, b, c, d, e⟩ := x
  simp only at h
  have e1 : (hdX ⟨a, b, c, d, e⟩ ++ r) = leB a.toNat 1 ++ (leB b.toNat 1 ++ (leB c.toNat 1 ++ (leB d.toNat 4 ++ r))) := by simp [hdX]
  have t : ∀ v w r, (leB v w ++ r).take w = leB v w := fun v w r => by rw [List.take_left' (leB_length v w)]
  have d' : ∀ v w r, (leB v w ++ r).drop w = r := fun v w r => by rw [List.drop_left' (leB_length v w)]
  have d2 : (hdX ⟨a, b, c, d, e⟩ ++ r).drop 2 = leB c.toNat 1 ++ (leB d.toNat 4 ++ r) := by
    rw [show (2 : Nat) = 1 + 1 from rfl, ← List.drop_drop, e1, d', d']
  have d3 : (hdX ⟨a, b, c, d, e⟩ ++ r).drop 3 = leB d.toNat 4 ++ r := by
    rw [show (3 : Nat) = 2 + 1 from rfl, ← List.drop_drop, d2, d']
  rw [hdR, d2, d3, e1, t, d', t, t, t]
  simp only [leN_leB, Xt.mk.injEq, and_true]
  omega
/-- An extent's bytes, read again. -/
theorem next_wr {x : Xt} (h : extOk x = true) (r : List UInt8) : nextX (wr1 x ++ r) = (x, r) := by
  have h7 := hdX_length x
  have e : wr1 x ++ r = hdX x ++ (x.data ++ r) := by simp [wr1]
  have hh := hdR_hdX h (x.data ++ r)
  have hd : (hdX x ++ (x.data ++ r)).drop 7 = x.data ++ r := by rw [List.drop_left' h7]
  have hl := (extOk_iff.1 h)
  rw [e, nextX, if_neg (by simp; omega), hh, hd]
  by_cases hk : x.kind = 2
  · have hn : datN { x with data := [] } = x.data.length := by
      have := hl.2.2.2.2.2.2.2.2
      rw [if_pos hk] at this
      simp only [datN, hk, if_true]
      omega
    have := hl.2.2.2.2.2.2.2.2
    rw [if_pos hk] at this
    rw [hn, if_pos ⟨by omega, by simp⟩]
    simp
  · have hn : datN { x with data := [] } = 0 := by simp [datN, hk]
    have := hl.2.2.2.2.2.2.2.2
    rw [if_neg hk] at this
    have e0 : x.data = [] := List.eq_nil_of_length_eq_zero (by omega)
    rw [hn, if_neg (by omega), e0]
    simp only [List.nil_append, Prod.mk.injEq, and_true]
    rw [← e0]
theorem wr_next {b : List UInt8} (h7 : 7 ≤ b.length) (h : extOk (nextX b).1 = true) : wr1 (nextX b).1 ++ (nextX b).2 = b := by
  rw [nextX, if_neg (by omega)] at h ⊢
  split
  · rename_i hc
    rw [wr1, hdX_hdR h7, List.append_assoc, List.take_append_drop, List.take_append_drop]
  · have := hdX_hdR h7 []
    have e : ({ hdR b with data := [] } : Xt) = hdR b := rfl
    rw [e] at this
    rw [wr1, this]
    show b.take 7 ++ [] ++ b.drop 7 = b
    rw [List.append_nil, List.take_append_drop]
theorem readN_some : ∀ {n : Nat} {b : List UInt8} {l : List Xt}, readN n b = some l ↔ l.length = n ∧ l.all extOk = true ∧ l.flatMap wr1 = b
  | 0, b, l => by
    simp only [readN]
    constructor
    · intro h
      split at h
      · rename_i e; cases h; subst e; exact ⟨rfl, rfl, rfl⟩
      · cases h
    · intro ⟨h1, h2, h3⟩
      have e := List.eq_nil_of_length_eq_zero h1
      subst e
      subst h3
      rfl
  | n + 1, b, l => by
    simp only [readN]
    constructor
    · intro h
      split at h
      · rename_i hc
        simp only [Option.map_eq_some_iff] at h
        obtain ⟨l', h1, rfl⟩ := h
        obtain ⟨k1, k2, k3⟩ := readN_some.1 h1
        refine ⟨by simp [k1], by simp [hc.2, k2], ?_⟩
        rw [List.flatMap_cons, k3, wr_next hc.1 hc.2]
      · cases h
    · intro ⟨h1, h2, h3⟩
      cases l with
      | nil => cases h1
      | cons x l =>
        simp only [List.all_cons, Bool.and_eq_true] at h2
        rw [List.flatMap_cons] at h3
        subst h3
        rw [next_wr h2.1]
        have : 7 ≤ (wr1 x ++ l.flatMap wr1).length := by simp [wr1, hdX_length]
        rw [if_pos ⟨this, h2.1⟩]
        simp only
        rw [(readN_some (n := n)).2 ⟨by simpa using h1, h2.2, rfl⟩]
        rfl
theorem readX_some {b : List UInt8} {l : List Xt} : readX b = some l ↔ wrOk l = true ∧ wrB l = b := by
  cases b with
  | nil => simp [readX, wrB]
  | cons c b =>
    simp only [readX, wrOk, wrB, Bool.and_eq_true, decide_eq_true_eq, List.cons.injEq]
    constructor
    · intro h
      split at h
      · obtain ⟨h1, h2, h3⟩ := readN_some.1 h
        refine ⟨⟨by omega, h2⟩, ?_, h3⟩
        rw [h1]
        simp
      · cases h
    · intro ⟨⟨h1, h2⟩, h3, h4⟩
      subst h3
      have : (UInt8.ofNat l.length).toNat = l.length := by simp; omega
      rw [this, if_pos h1]
      exact readN_some.2 ⟨rfl, h2, h4⟩
/-- By the reference: extents of whatever kind. -/
def weak1 (b : List UInt8) : Option (Xt × List UInt8) := if b.length < 7 then none else
  if (hdR b).kind = 2 then if b.length - 7 < (hdR b).len.toNat * 32 then none else some ({ hdR b with data := (b.drop 7).take ((hdR b).len.toNat * 32) }, (b.drop 7).drop ((hdR b).len.toNat * 32)) else some (hdR b, b.drop 7)
def weakN : Nat → List UInt8 → Option (List Xt)
  | 0, _ => some []
  | n + 1, b => (weak1 b).bind fun p => (weakN n p.2).map (p.1 :: ·)
theorem weak1_next {b : List UInt8} (h7 : 7 ≤ b.length) (h : extOk (nextX b).1 = true) : weak1 b = some (nextX b) := by
  have hb := hdR_bounds b
  rw [nextX, if_neg (by omega)] at h ⊢
  rw [weak1, if_neg (by omega)]
  by_cases hk : (hdR b).kind = 2
  · have hn : datN (hdR b) = (hdR b).len.toNat * 32 := by simp only [datN, hk, if_true]; omega
    rw [if_pos hk]
    split at h
    · rename_i hc
      rw [if_neg (by simp only [List.length_drop] at hc; omega), if_pos hc, hn]
    · have := (extOk_iff.1 h)
      rw [if_pos hk] at this
      simp only [hdR, List.length_nil] at this hb
      omega
  · have hn : datN (hdR b) = 0 := by simp [datN, hk]
    rw [if_neg hk, hn, if_neg (by omega)]
theorem weakN_some : ∀ {n : Nat} {b : List UInt8} {l : List Xt}, readN n b = some l → weakN n b = some l
  | 0, b, l, h => by
    simp only [readN] at h
    split at h
    · cases h; rfl
    · cases h
  | n + 1, b, l, h => by
    simp only [readN] at h
    split at h
    · rename_i hc
      simp only [Option.map_eq_some_iff] at h
      obtain ⟨l', h1, rfl⟩ := h
      rw [weakN, weak1_next hc.1 hc.2]
      simp [weakN_some h1]
    · cases h
theorem weak_read (c : UInt8) (b : List UInt8) : readX (c :: b) = (weakN c.toNat b).bind fun l => if wrOk l = true ∧ wrB l = c :: b then some l else none := by
  cases h : readX (c :: b) with
  | some l =>
    have h2 := readX_some.1 h
    simp only [readX] at h
    split at h
    · rw [weakN_some h]; simp [h2]
    · cases h
  | none =>
    cases hw : weakN c.toNat b with
    | none => rfl
    | some l =>
      simp only [Option.bind_some]
      rw [if_neg]
      intro h2
      rw [readX_some.2 h2] at h
      cases h

@[simp] def sp_write (l : List Xt) : Option (V × List Tip) := some (.tuple [.row 0 1 ((writeB l).map cs), enc (writeE l)], [(5, 1, (writeB l).length)])
theorem sp_rwrite_ok : EOk Try.prog n_r07_Write (sp1 sp_write) := sp1_ok fun l r h => by cases h; exact c_r07_Write l
def D20 : Orc := (Orc.nil.add n_r07_Write (sp1 sp_write)).add n_r01_Unpack (sp2 sp_unpack)
theorem D20_ok : OOk Try.prog D20 := (OOk.nil.add sp_rwrite_ok).add sp_runpack_ok
def RXReadI (c : UInt8) (r : List UInt8) (k : Nat) (s : Nat → V) (m : Mem) : Prop :=
  ∃ (i t a : Nat) (bx : List (List V)) (tips : List Tip) (acc : List Xt), i + k = c.toNat ∧ acc.length = i ∧ 1 ≤ a ∧ a ≤ (c :: r).length ∧ weakN c.toNat r = (weakN k ((c :: r).drop a)).map (acc ++ ·) ∧ s 0 = .lit 1 ((c :: r).map cs) ∧ s 4 = .row t 5 (acc.map cs) ∧ s 5 = .val (.int .i64 a) ∧ s 6 = .val (.int .i64 i) ∧
    m = ⟨bx, tips⟩ ∧ tips[t]? = some (174, 5, acc.length)
set_option maxRecDepth 4000 in
theorem c_r07_Read (b : List UInt8) (hb : b.length ≤ 2 ^ 40) : Pure Try.prog n_r07_Read [enc b] (.tuple [.row 0 5 ((readL b).map cs), enc (readE b)]) [(174, 5, (readL b).length)] := by
  refine Pure.ofR D20_ok hm F_r07_Read_ok (by simp [F_r07_Read]) (by simp [V.res, V.res1]) ?_
  cases b with
  | nil => simp [F_r07_Read, readL, readE, readX]
  | cons c r =>
    have hcl := c.toNat_lt
    have hw := IntWalk.i64_in (c.toNat : Int) (by omega)
    have hne : ¬ ((r.length : Int) + 1 = 0) := by omega
    simp [F_r07_Read, hne]
    refine wp_loop (RXReadI c r) c.toNat (IW.of ⟨0, 1, 1, _, _, [], by omega, rfl, Nat.le_refl _, by simp, by simp, by simp, by simp, by simp, by simp, rfl, by simp⟩) fun k s m ⟨i, t, a, bx, tips, acc, hik, hi, ha1, ha2, hr, h0, h4, h5, h6, hm, ht⟩ => ?_
    subst hm
    have htl : t < tips.length := lt_of_some ht
    have hrd := weak_read c r
    by_cases hk : k = 0
    · subst hk
      have e1 : ¬ (i : Int) < c.toNat := by omega
      have e2 : weakN c.toNat r = some acc := by simp [hr, weakN]
      rw [e2, Option.bind_some] at hrd
      cases hwo : wrOk acc with
      | false =>
        simp [hwo] at hrd
        simp [F_r07_Read_L0, D20, h0, h4, h5, h6, hw, e1, readL, readE, hrd, writeE, hwo]
      | true =>
        by_cases he : wrB acc = c :: r
        · simp [hwo, he] at hrd
          simp [F_r07_Read_L0, D20, h0, h4, h5, h6, hw, e1, readL, readE, hrd, writeE, writeB, hwo, he]
          rw [List.getElem?_append_left htl, ht]
        · simp [hwo, he] at hrd
          simp [F_r07_Read_L0, D20, h0, h4, h5, h6, hw, e1, readL, readE, hrd, writeE, writeB, hwo, he]
    · have e1 : (i : Int) < c.toNat := by omega
      obtain ⟨k, rfl⟩ : ∃ k', k = k' + 1 := ⟨k - 1, by omega⟩
      have hbd := hdR_bounds ((c :: r).drop a)
      have hdt : ((c :: r).take (a + 7)).drop a = ((c :: r).drop a).take 7 := by rw [List.drop_take]; congr 1; omega
      generalize hB : c :: r = B at *
      have hgB : B[0]? = some c := by rw [← hB]; rfl
      have hcs : (B.map cs)[0]? = some (cs c) := by rw [← hB]; rfl
      have w1 := IntWalk.i64_in ((B.length : Int) - a) (by omega)
      have w2 := IntWalk.i64_in ((a : Int) + 7) (by omega)
      rw [weakN, weak1, List.length_drop] at hr
      by_cases hl : B.length - a < 7
      · have hl1 : ((B.length : Int) - a) < 7 := by omega
        rw [if_pos hl] at hr
        simp [hr] at hrd
        simp [F_r07_Read_L0, D20, h0, h4, h5, h6, hw, hgB, e1, w1, hl1, readL, readE, hrd]
      · have hl1 : ¬ ((B.length : Int) - a) < 7 := by omega
        have hl2 : ((a : Int) + 7) ≤ B.length := by omega
        have hl3 : ((a : Int) + 7).toNat = a + 7 := by omega
        rw [if_neg hl] at hr
        have hp1 := unpack_hd (b := B.drop a) (by simp; omega)
        have hu1 : unpackN [98, 98, 98, 119] ((B.drop a).take 7) = [leN ((B.drop a).take 1), leN (((B.drop a).drop 1).take 1), leN (((B.drop a).drop 2).take 1), leN (((B.drop a).drop 3).take 4)] := by simp only [unpackN, hp1]; rfl
        have hu2 : unpackE [98, 98, 98, 119] ((B.drop a).take 7) = 0 := by simp only [unpackE, hp1]; rfl
        have hh : hdR (B.drop a) = ⟨leN ((B.drop a).take 1), leN (((B.drop a).drop 1).take 1), leN (((B.drop a).drop 2).take 1), leN (((B.drop a).drop 3).take 4), []⟩ := rfl
        rw [hh] at hr
        simp only [hdR] at hbd
        clear hh hp1
        generalize leN ((B.drop a).take 1) = a1 at *
        generalize leN (((B.drop a).drop 1).take 1) = a2 at *
        generalize leN (((B.drop a).drop 2).take 1) = a3 at *
        generalize leN (((B.drop a).drop 3).take 4) = a4 at *
        simp only [List.drop_drop] at hr
        have v1 := IntWalk.i64_in (a1 : Int) (by omega)
        have v2 := IntWalk.i64_in (a2 : Int) (by omega)
        have v3 := IntWalk.i64_in (a3 : Int) (by omega)
        have v4 := IntWalk.i64_in (a4 : Int) (by omega)
        have v5 := IntWalk.i64_in ((B.length : Int) - (a + 7)) (by omega)
        have v6 := IntWalk.i64_in (32 * (a2 : Int)) (by omega)
        have v7 := IntWalk.i64_in ((a : Int) + 7 + 32 * (a2 : Int)) (by omega)
        have v9 : ((a : Int) + 7 + 32 * (a2 : Int)).toNat = a + 7 + a2 * 32 := by omega
        have v8 := IntWalk.i64_in ((i : Int) + 1) (by omega)
        by_cases hk2 : a3 = 2
        · subst hk2
          have v3' : IntKind.i64.wrap 2 = 2 := by decide
          by_cases hd : B.length - a - 7 < a2 * 32
          · have hd1 : (B.length : Int) - (a + 7) < 32 * (a2 : Int) := by omega
            simp [hd] at hr
            simp [hr] at hrd
            simp [F_r07_Read_L0, D20, h0, h4, h5, h6, hw, hgB, e1, w1, w2, hl1, hl2, hl3, readL, readE, hrd, hdt, hu1, hu2, v1, v2, v3', v4, v5, v6, v7, f_bbbw, hd1]
            exact ⟨by omega, by omega⟩
          · have hd1 : ¬ (B.length : Int) - (a + 7) < 32 * (a2 : Int) := by omega
            simp [hd] at hr
            simp [F_r07_Read_L0, D20, h0, h4, h5, h6, hw, hgB, e1, w1, w2, hl1, hl2, hl3, hdt, hu1, hu2, v1, v2, v3', v4, v5, v6, v7, v8, v9, f_bbbw, hd1, ht, -Int.natCast_mul]
            subst hB
            refine ⟨by omega, by omega, ⟨by omega, by omega, by omega⟩, by omega, ⟨by rw [List.getElem?_append_left htl]; exact ht, by omega⟩, k, by omega,
              IW.rowSlot (d := 4) (acc ++ [⟨a1, a2, 2, a4, ((c :: r).take (a + 7 + a2 * 32)).drop (a + 7)⟩]) (by simp; rfl) (by simp [decX_append, decX_map, v9]) rfl ⟨i + 1, t, a + 7 + a2 * 32, _, _, _, by omega, by simp [hi], by omega, by omega, ?_, by simpa using h0, rfl, by simp; omega, by simp, rfl, ?_⟩⟩
            · rw [hr, List.drop_take, show a + 7 + a2 * 32 - (a + 7) = a2 * 32 by omega]
              cases weakN k ((c :: r).drop (a + 7 + a2 * 32)) <;> simp
            · simp [tipset htl]
        · have hk3 : ¬ (a3 : Int) = 2 := by omega
          simp [hk3] at hr
          simp [F_r07_Read_L0, D20, h0, h4, h5, h6, hw, hgB, e1, w1, w2, hl1, hl2, hl3, hdt, hu1, hu2, v1, v2, v3, v4, v5, v6, v7, v8, f_bbbw, hk3, ht]
          subst hB
          refine ⟨by omega, by omega, ⟨by rw [List.getElem?_append_left htl]; exact ht, by omega⟩, k, by omega,
            IW.of (show RXReadI c r k _ _ from ⟨i + 1, t, a + 7, _, _, acc ++ [⟨a1, a2, a3, a4, []⟩], by omega, by simp [hi], by omega, by omega, ?_, by simpa using h0, by simp, by simp, by simp, rfl, ?_⟩)⟩
          · rw [hr]
            cases weakN k ((c :: r).drop (a + 7)) <;> simp
          · simp [tipset htl]
end Go.Av
