/-
  SnR: Numbers and compact codes of functions.
  SnV: Contracts: likeness of records.
  SnW: Contracts of package snap: what is written.
  SnX: A state's bytes: their parts, plainly; snap.Write.
  SnY: Contracts of package snap: Write.
  SnZ: Contracts of package snap: what is read: its closures.
  ToA: Contracts of package snap: what is read: numbers, and maps.
  ToB: Contracts of package snap: what is read: a map.
  ToC: Contracts of package snap: Read.
  ToD: Contracts: slices.Chunk, snap.parts, snap.Records.
-/
import Derived.Test.YthjmodhemglgbaaKF
import Derived.Test.YthjmodhemglgbaaRows
set_option linter.unusedSimpArgs false
set_option linter.unusedVariables false

namespace Go.Av
open Go.Proofs

@[simp] abbrev n_snap_Write : FuncId := 24
def F_snap_Write_L0 : C := (.seq (.ops [⟨(some 53), none, (.bin .lss (.t 52) (.t 51))⟩]) (.seq (.cond (.t 53) .skip (.exit 0)) (.seq (.block 1 (.seq (.ops [⟨(some 54), none, (.ixs (.t 50) (.t 52) 3)⟩, ⟨(some 55), none, (.lde (.t 54) (some 3))⟩, ⟨(some 10), none, (.alc [(.val (.int .i64 0)), (.val (.int .i64 0)), (.lit 5 [])])⟩, ⟨none, none, (.st (.t 10) 3 (.t 55))⟩]) (.seq (.dops false [] [⟨(some 56), none, (.ld (.t 7) none)⟩, ⟨(some 57), none, (.fad (.t 10) 0)⟩, ⟨(some 58), none, (.ld (.t 57) none)⟩, ⟨(some 59), none, (.conv .u64 (.t 58))⟩, ⟨(some 60), none, (.fad (.t 10) 1)⟩, ⟨(some 61), none, (.ld (.t 60) none)⟩, ⟨(some 62), none, (.conv .u64 (.t 61))⟩, ⟨(some 63), none, (.mkl 114 1 [(.t 59), (.t 62)] true)⟩, ⟨(some 64), none, (.callq 70 [(.c (.string ⟨#[119, 119]⟩)), (.t 63)])⟩, ⟨(some 65), none, (.ext (.t 64) 0)⟩, ⟨(some 66), none, (.ext (.t 64) 1)⟩, ⟨(some 67), none, (.callv (.t 56) [(.t 65), (.t 66)])⟩]) (.ops [⟨(some 68), none, (.mov (.t 8))⟩, ⟨(some 69), none, (.fad (.t 10) 2)⟩, ⟨(some 70), none, (.ld (.t 69) none)⟩, ⟨(some 71), none, (.callv (.t 68) [(.t 70)])⟩])))) (.ops [⟨(some 72), none, (.bin .add (.t 52) (.c (.int .i64 1)))⟩, ⟨(some 52), none, (.mov (.t 72))⟩]))))
def F_snap_Write : F := ⟨(.seq (.ops [⟨(some 1), none, (.box (.t 0))⟩, ⟨(some 2), none, (.nil 5 1 true)⟩, ⟨(some 3), none, (.mov (.c (.int .i64 0)))⟩]) (.seq (.seq (.ops [⟨(some 11), none, (.ld (.t 1) (some 6))⟩, ⟨(some 12), none, (.call 34 [(.t 11)])⟩, ⟨(some 4), none, (.mov (.t 12))⟩]) (.seq (.ops [⟨(some 13), none, (.mov (.t 4))⟩, ⟨(some 14), none, (.bin .neq (.t 13) (.c (.int .i64 0)))⟩]) (.cond (.t 14) (.seq (.ops [⟨(some 15), none, (.mov (.t 4))⟩, ⟨(some 2), none, (.nil 5 1 true)⟩, ⟨(some 3), none, (.mov (.t 15))⟩]) .ret) .skip))) (.seq (.ops [⟨(some 5), none, (.alr 5 1)⟩]) (.seq (.ops [⟨(some 6), none, (.alc [(.val (.int .i64 0))])⟩]) (.seq (.ops [⟨(some 16), none, (.mkf 66 [(.t 5), (.t 6)])⟩, ⟨(some 7), none, (.alc [(.val .nilFunc)])⟩, ⟨none, none, (.st (.t 7) 1 (.t 16))⟩]) (.seq (.ops [⟨(some 17), none, (.mkf 67 [(.t 7)])⟩, ⟨(some 8), none, (.mov (.t 17))⟩]) (.seq (.dops false [] [⟨(some 18), none, (.ld (.t 7) none)⟩, ⟨(some 19), none, (.fad (.t 1) 0)⟩, ⟨(some 20), none, (.ld (.t 19) none)⟩, ⟨(some 21), none, (.conv .u64 (.t 20))⟩, ⟨(some 22), none, (.fad (.t 1) 1)⟩, ⟨(some 23), none, (.ld (.t 22) none)⟩, ⟨(some 24), none, (.conv .u64 (.t 23))⟩, ⟨(some 25), none, (.fad (.t 1) 4)⟩, ⟨(some 26), none, (.ld (.t 25) none)⟩, ⟨(some 27), none, (.conv .u64 (.t 26))⟩, ⟨(some 28), none, (.fad (.t 1) 3)⟩, ⟨(some 29), none, (.ld (.t 28) none)⟩, ⟨(some 30), none, (.len (.t 29))⟩, ⟨(some 31), none, (.conv .u64 (.t 30))⟩, ⟨(some 32), none, (.fad (.t 1) 5)⟩, ⟨(some 33), none, (.ld (.t 32) none)⟩, ⟨(some 34), none, (.len (.t 33))⟩, ⟨(some 35), none, (.conv .u64 (.t 34))⟩, ⟨(some 36), none, (.mkl 114 1 [(.t 21), (.t 24), (.t 27), (.t 31), (.t 35)] true)⟩, ⟨(some 37), none, (.callq 70 [(.c (.string ⟨#[98, 119, 119, 98, 104]⟩)), (.t 36)])⟩, ⟨(some 38), none, (.ext (.t 37) 0)⟩, ⟨(some 39), none, (.ext (.t 37) 1)⟩, ⟨(some 40), none, (.callv (.t 18) [(.t 38), (.t 39)])⟩]) (.seq (.ops [⟨(some 41), none, (.ld (.t 7) none)⟩, ⟨(some 42), none, (.fad (.t 1) 5)⟩, ⟨(some 43), none, (.ld (.t 42) none)⟩, ⟨(some 44), none, (.callv (.t 41) [(.t 43), (.c (.int .i64 0))])⟩]) (.seq (.ops [⟨(some 45), none, (.mov (.t 8))⟩, ⟨(some 46), none, (.fad (.t 1) 2)⟩, ⟨(some 47), none, (.ld (.t 46) none)⟩, ⟨(some 48), none, (.callv (.t 45) [(.t 47)])⟩]) (.seq (.seq (.ops [⟨(some 49), none, (.fad (.t 1) 3)⟩, ⟨(some 50), none, (.ld (.t 49) none)⟩, ⟨(some 51), none, (.len (.t 50))⟩, ⟨(some 52), none, (.mov (.c (.int .i64 0)))⟩]) (.block 0 (.loop F_snap_Write_L0))) (.seq (.seq (.ops [⟨(some 73), none, (.ld (.t 6) none)⟩, ⟨(some 74), none, (.bin .neq (.t 73) (.c (.int .i64 0)))⟩]) (.cond (.t 74) (.seq (.ops [⟨(some 2), none, (.nil 5 1 true)⟩, ⟨(some 3), none, (.mov (.c (.int .i64 110)))⟩]) .ret) .skip)) (.seq (.ops [⟨(some 75), none, (.ld (.t 5) none)⟩, ⟨(some 76), none, (.call 71 [(.t 75)])⟩, ⟨(some 2), none, (.mov (.t 76))⟩, ⟨(some 3), none, (.mov (.c (.int .i64 0)))⟩]) .ret)))))))))))), 77, [(.tmp 2), (.tmp 3)]⟩
theorem F_snap_Write_ok : compF Try.prog (fun _ => true) 24 = some F_snap_Write := by kernel_rfl
@[simp] abbrev n_snap_Write_1 : FuncId := 66
def F_snap_Write_1 : F := ⟨(.dops false [(3, 2)] [⟨(some 6), none, (.ld (.t 2) none)⟩, ⟨(some 7), none, (.mov (.t 0))⟩, ⟨(some 9), none, (.ld (.t 3) none)⟩, ⟨(some 10), none, (.mov (.t 1))⟩, ⟨(some 11), none, (.mm true (.t 9) (.t 10))⟩, ⟨(some 8), none, (.app (.t 6) (.t 7) 5 1 1 true)⟩, ⟨none, none, (.st (.t 2) 1 (.t 8))⟩, ⟨none, none, (.st (.t 3) 1 (.t 11))⟩]), 12, []⟩
theorem F_snap_Write_1_ok : compF Try.prog (fun _ => true) 66 = some F_snap_Write_1 := by kernel_rfl
@[simp] abbrev n_snap_Write_2 : FuncId := 67
def F_snap_Write_2 : F := ⟨(.seq (.ops [⟨(some 6), none, (.mov (.t 0))⟩, ⟨(some 7), none, (.call 68 [(.t 6)])⟩, ⟨(some 5), none, (.mov (.t 7))⟩, ⟨(some 8), none, (.ext (.t 5) 0)⟩, ⟨(some 9), none, (.ext (.t 5) 1)⟩, ⟨(some 3), none, (.mov (.t 8))⟩, ⟨(some 4), none, (.mov (.t 9))⟩]) (.seq (.dops false [] [⟨(some 10), none, (.ld (.t 1) none)⟩, ⟨(some 11), none, (.mov (.t 3))⟩, ⟨(some 12), none, (.len (.t 11))⟩, ⟨(some 13), none, (.conv .u64 (.t 12))⟩, ⟨(some 14), none, (.callq 69 [(.c (.slice none 0 0)), (.t 13), (.c (.int .i64 2))])⟩, ⟨(some 15), none, (.ext (.t 14) 0)⟩, ⟨(some 16), none, (.ext (.t 14) 1)⟩, ⟨(some 17), none, (.callv (.t 10) [(.t 15), (.t 16)])⟩]) (.ops [⟨(some 18), none, (.ld (.t 1) none)⟩, ⟨(some 19), none, (.mov (.t 3))⟩, ⟨(some 20), none, (.mov (.t 4))⟩, ⟨(some 21), none, (.callv (.t 18) [(.t 19), (.t 20)])⟩]))), 22, []⟩
theorem F_snap_Write_2_ok : compF Try.prog (fun _ => true) 67 = some F_snap_Write_2 := by kernel_rfl
@[simp] abbrev n_snap_Read : FuncId := 28
def F_snap_Read_L0 : C := (.seq (.seq (.ops [⟨(some 47), none, (.mov (.t 10))⟩, ⟨(some 48), none, (.mov (.t 9))⟩, ⟨(some 49), none, (.ixs (.t 48) (.c (.int .i64 3)) 1)⟩, ⟨(some 50), none, (.lde (.t 49) none)⟩, ⟨(some 51), none, (.conv .i64 (.t 50))⟩, ⟨(some 52), none, (.bin .lss (.t 47) (.t 51))⟩, ⟨(some 53), none, (.mov (.t 52))⟩, ⟨(some 54), (some (53, true)), (.ld (.t 5) none)⟩, ⟨(some 55), (some (53, true)), (.un .not (.t 54))⟩, ⟨(some 56), none, (.pick (.t 53) (.t 55) (.c (.bool false)))⟩]) (.cond (.t 56) .skip (.exit 0))) (.seq (.block 1 (.seq (.ops [⟨(some 59), none, (.ld (.t 7) none)⟩, ⟨(some 60), none, (.callv (.t 59) [(.c (.string ⟨#[119, 119]⟩)), (.c (.int .i64 8))])⟩, ⟨(some 11), none, (.mov (.t 60))⟩]) (.dops false [] [⟨(some 61), none, (.fad (.t 2) 3)⟩, ⟨(some 62), none, (.ld (.t 61) none)⟩, ⟨(some 63), none, (.mov (.t 11))⟩, ⟨(some 64), none, (.ixs (.t 63) (.c (.int .i64 0)) 1)⟩, ⟨(some 65), none, (.lde (.t 64) none)⟩, ⟨(some 66), none, (.conv .i64 (.t 65))⟩, ⟨(some 67), none, (.mov (.t 11))⟩, ⟨(some 68), none, (.ixs (.t 67) (.c (.int .i64 1)) 1)⟩, ⟨(some 69), none, (.lde (.t 68) none)⟩, ⟨(some 70), none, (.conv .i64 (.t 69))⟩, ⟨(some 71), none, (.mov (.t 8))⟩, ⟨(some 72), none, (.callf (.t 71) [] [61])⟩, ⟨(some 73), none, (.bld [(.val (.int .i64 0)), (.val (.int .i64 0)), (.lit 5 [])] [(0, (1, (.t 66))), (1, (1, (.t 70))), (2, (1, (.t 72)))])⟩, ⟨(some 74), none, (.mkl 110 3 [(.t 73)] false)⟩, ⟨(some 75), none, (.app (.t 62) (.t 74) 110 3 40 true)⟩, ⟨(some 76), none, (.fad (.t 2) 3)⟩, ⟨none, none, (.st (.t 76) 1 (.t 75))⟩]))) (.ops [⟨(some 57), none, (.mov (.t 10))⟩, ⟨(some 58), none, (.bin .add (.t 57) (.c (.int .i64 1)))⟩, ⟨(some 10), none, (.mov (.t 58))⟩])))
def F_snap_Read : F := ⟨(.seq (.ops [⟨(some 2), none, (.alc [(.val (.int .i64 0)), (.val (.int .i64 0)), (.val (.slice none 0 0)), (.val (.slice none 0 0)), (.val (.int .i64 0)), (.val (.slice none 0 0))])⟩, ⟨(some 3), none, (.mov (.c (.int .i64 0)))⟩]) (.seq (.ops [⟨(some 13), none, (.mov (.t 0))⟩, ⟨(some 14), none, (.call 79 [(.t 13)])⟩, ⟨(some 12), none, (.mov (.t 14))⟩, ⟨(some 15), none, (.ext (.t 12) 0)⟩, ⟨(some 16), none, (.ext (.t 12) 1)⟩, ⟨(some 4), none, (.alr 5 1)⟩, ⟨none, none, (.st (.t 4) 1 (.t 15))⟩, ⟨(some 3), none, (.mov (.t 16))⟩]) (.seq (.ops [⟨(some 17), none, (.mov (.t 3))⟩, ⟨(some 18), none, (.bin .neq (.t 17) (.c (.int .i64 0)))⟩, ⟨(some 5), none, (.alc [(.val (.bool false))])⟩, ⟨none, none, (.st (.t 5) 1 (.t 18))⟩]) (.seq (.ops [⟨(some 19), none, (.mkf 80 [(.t 5), (.t 4)])⟩, ⟨(some 6), none, (.alc [(.val .nilFunc)])⟩, ⟨none, none, (.st (.t 6) 1 (.t 19))⟩]) (.seq (.ops [⟨(some 20), none, (.mkf 81 [(.t 6), (.t 5)])⟩, ⟨(some 7), none, (.alc [(.val .nilFunc)])⟩, ⟨none, none, (.st (.t 7) 1 (.t 20))⟩]) (.seq (.ops [⟨(some 21), none, (.mkf 83 [(.t 7), (.t 6), (.t 5)])⟩, ⟨(some 8), none, (.mov (.t 21))⟩]) (.seq (.ops [⟨(some 22), none, (.ld (.t 7) none)⟩, ⟨(some 23), none, (.callv (.t 22) [(.c (.string ⟨#[98, 119, 119, 98, 104]⟩)), (.c (.int .i64 12))])⟩, ⟨(some 9), none, (.mov (.t 23))⟩]) (.seq (.dops false [] [⟨(some 24), none, (.mov (.t 9))⟩, ⟨(some 25), none, (.ixs (.t 24) (.c (.int .i64 0)) 1)⟩, ⟨(some 26), none, (.lde (.t 25) none)⟩, ⟨(some 27), none, (.conv .i64 (.t 26))⟩, ⟨(some 28), none, (.mov (.t 9))⟩, ⟨(some 29), none, (.ixs (.t 28) (.c (.int .i64 1)) 1)⟩, ⟨(some 30), none, (.lde (.t 29) none)⟩, ⟨(some 31), none, (.conv .i64 (.t 30))⟩, ⟨(some 32), none, (.mov (.t 9))⟩, ⟨(some 33), none, (.ixs (.t 32) (.c (.int .i64 2)) 1)⟩, ⟨(some 34), none, (.lde (.t 33) none)⟩, ⟨(some 35), none, (.conv .i64 (.t 34))⟩, ⟨(some 36), none, (.ld (.t 6) none)⟩, ⟨(some 37), none, (.mov (.t 9))⟩, ⟨(some 38), none, (.ixs (.t 37) (.c (.int .i64 4)) 1)⟩, ⟨(some 39), none, (.lde (.t 38) none)⟩, ⟨(some 40), none, (.conv .i64 (.t 39))⟩, ⟨(some 41), none, (.callv (.t 36) [(.t 40)])⟩, ⟨(some 42), none, (.call 77 [(.t 41)])⟩, ⟨(some 43), none, (.bld [(.val (.int .i64 0)), (.val (.int .i64 0)), (.val (.slice none 0 0)), (.val (.slice none 0 0)), (.val (.int .i64 0)), (.val (.slice none 0 0))] [(0, (1, (.t 27))), (1, (1, (.t 31))), (4, (1, (.t 35))), (5, (1, (.t 42)))])⟩, ⟨none, none, (.st (.t 2) 6 (.t 43))⟩]) (.seq (.ops [⟨(some 44), none, (.mov (.t 8))⟩, ⟨(some 45), none, (.callv (.t 44) [])⟩, ⟨(some 46), none, (.fad (.t 2) 2)⟩, ⟨none, none, (.st (.t 46) 1 (.t 45))⟩]) (.seq (.seq (.ops [⟨(some 10), none, (.mov (.c (.int .i64 0)))⟩]) (.block 0 (.loop F_snap_Read_L0))) (.seq (.seq (.ops [⟨(some 77), none, (.ld (.t 5) none)⟩, ⟨(some 78), none, (.mov (.t 77))⟩, ⟨(some 79), (some (78, false)), (.ld (.t 4) none)⟩, ⟨(some 80), (some (78, false)), (.len (.t 79))⟩, ⟨(some 81), (some (78, false)), (.bin .gtr (.t 80) (.c (.int .i64 0)))⟩, ⟨(some 82), none, (.pick (.t 78) (.c (.bool true)) (.t 81))⟩, ⟨(some 83), none, (.mov (.t 82))⟩, ⟨(some 84), (some (83, false)), (.ld (.t 2) (some 6))⟩, ⟨(some 85), (some (83, false)), (.call 34 [(.t 84)])⟩, ⟨(some 86), (some (83, false)), (.bin .neq (.t 85) (.c (.int .i64 0)))⟩, ⟨(some 87), none, (.pick (.t 83) (.c (.bool true)) (.t 86))⟩]) (.cond (.t 87) (.seq (.ops [⟨(some 88), none, (.bld [(.val (.int .i64 0)), (.val (.int .i64 0)), (.lit 5 []), (.lit 3 []), (.val (.int .i64 0)), (.lit 1 [])] [])⟩, ⟨none, none, (.st (.t 2) 6 (.t 88))⟩, ⟨(some 3), none, (.mov (.c (.int .i64 120)))⟩]) .ret) .skip)) (.seq (.ops [⟨(some 89), none, (.ld (.t 2) (some 6))⟩, ⟨none, none, (.st (.t 2) 6 (.t 89))⟩, ⟨(some 3), none, (.mov (.c (.int .i64 0)))⟩]) .ret)))))))))))), 90, [(.cell 2 (some 6)), (.tmp 3)]⟩
theorem F_snap_Read_ok : compF Try.prog (fun d => !([74, 2097154, 2097195].contains d)) 28 = some F_snap_Read := by kernel_rfl
@[simp] abbrev n_snap_Read_1 : FuncId := 80
def F_snap_Read_1 : F := ⟨(.seq (.ops [⟨(some 4), none, (.nil 5 1 true)⟩]) (.seq (.seq (.ops [⟨(some 5), none, (.ld (.t 1) none)⟩, ⟨(some 6), none, (.mov (.t 5))⟩, ⟨(some 7), (some (6, false)), (.mov (.t 0))⟩, ⟨(some 8), (some (6, false)), (.ld (.t 2) none)⟩, ⟨(some 9), (some (6, false)), (.len (.t 8))⟩, ⟨(some 10), (some (6, false)), (.bin .gtr (.t 7) (.t 9))⟩, ⟨(some 11), none, (.pick (.t 6) (.c (.bool true)) (.t 10))⟩, ⟨none, none, (.st (.t 1) 1 (.t 11))⟩]) (.seq (.ops [⟨(some 12), none, (.ld (.t 1) none)⟩, ⟨(some 13), none, (.un .not (.t 12))⟩]) (.cond (.t 13) (.dops false [] [⟨(some 14), none, (.ld (.t 2) none)⟩, ⟨(some 15), none, (.mov (.t 0))⟩, ⟨(some 16), none, (.mov (.t 0))⟩, ⟨(some 17), none, (.slc (.t 14) none (some (.t 15)) (some (.t 16)) 1)⟩, ⟨(some 18), none, (.ld (.t 2) none)⟩, ⟨(some 19), none, (.mov (.t 0))⟩, ⟨(some 20), none, (.slc (.t 18) (some (.t 19)) none none 1)⟩, ⟨(some 4), none, (.mov (.t 17))⟩, ⟨none, none, (.st (.t 2) 1 (.t 20))⟩]) .skip))) (.seq (.ops [⟨(some 21), none, (.mov (.t 4))⟩, ⟨(some 4), none, (.mov (.t 21))⟩]) .ret))), 22, [(.tmp 4)]⟩
theorem F_snap_Read_1_ok : compF Try.prog (fun _ => true) 80 = some F_snap_Read_1 := by kernel_rfl
@[simp] abbrev n_snap_Read_2 : FuncId := 81
def F_snap_Read_2 : F := ⟨(.seq (.ops [⟨(some 6), none, (.nil 114 1 true)⟩]) (.seq (.ops [⟨(some 10), none, (.mov (.t 0))⟩, ⟨(some 11), none, (.ld (.t 2) none)⟩, ⟨(some 12), none, (.mov (.t 1))⟩, ⟨(some 13), none, (.callv (.t 11) [(.t 12)])⟩, ⟨(some 14), none, (.call 82 [(.t 10), (.t 13)])⟩, ⟨(some 9), none, (.mov (.t 14))⟩, ⟨(some 15), none, (.ext (.t 9) 0)⟩, ⟨(some 16), none, (.ext (.t 9) 1)⟩, ⟨(some 7), none, (.mov (.t 15))⟩, ⟨(some 8), none, (.mov (.t 16))⟩]) (.seq (.ops [⟨(some 17), none, (.ld (.t 3) none)⟩, ⟨(some 18), none, (.mov (.t 17))⟩, ⟨(some 19), (some (18, false)), (.mov (.t 8))⟩, ⟨(some 20), (some (18, false)), (.bin .neq (.t 19) (.c (.int .i64 0)))⟩, ⟨(some 21), none, (.pick (.t 18) (.c (.bool true)) (.t 20))⟩, ⟨none, none, (.st (.t 3) 1 (.t 21))⟩]) (.seq (.seq (.ops [⟨(some 22), none, (.ld (.t 3) none)⟩]) (.cond (.t 22) (.seq (.ops [⟨(some 23), none, (.mov (.t 0))⟩, ⟨(some 24), none, (.slen (.t 23))⟩, ⟨(some 25), none, (.mks (.t 24) (.t 24) 114 1 8 [(.val (.int .u64 0))] true)⟩, ⟨(some 6), none, (.mov (.t 25))⟩]) .ret) .skip)) (.seq (.ops [⟨(some 26), none, (.mov (.t 7))⟩, ⟨(some 6), none, (.mov (.t 26))⟩]) .ret))))), 27, [(.tmp 6)]⟩
theorem F_snap_Read_2_ok : compF Try.prog (fun _ => true) 81 = some F_snap_Read_2 := by kernel_rfl
@[simp] abbrev n_snap_Read_3 : FuncId := 83
def F_snap_Read_3 : F := ⟨(.seq (.ops [⟨(some 3), none, (.nil 174 5 true)⟩]) (.seq (.ops [⟨(some 7), none, (.ld (.t 0) none)⟩, ⟨(some 8), none, (.callv (.t 7) [(.c (.string ⟨#[104]⟩)), (.c (.int .i64 2))])⟩, ⟨(some 4), none, (.mov (.t 8))⟩]) (.seq (.dops false [] [⟨(some 10), none, (.ld (.t 1) none)⟩, ⟨(some 11), none, (.mov (.t 4))⟩, ⟨(some 12), none, (.ixs (.t 11) (.c (.int .i64 0)) 1)⟩, ⟨(some 13), none, (.lde (.t 12) none)⟩, ⟨(some 14), none, (.conv .i64 (.t 13))⟩, ⟨(some 15), none, (.callv (.t 10) [(.t 14)])⟩, ⟨(some 16), none, (.call 84 [(.t 15)])⟩, ⟨(some 9), none, (.mov (.t 16))⟩, ⟨(some 17), none, (.ext (.t 9) 0)⟩, ⟨(some 18), none, (.ext (.t 9) 1)⟩, ⟨(some 5), none, (.mov (.t 17))⟩, ⟨(some 6), none, (.mov (.t 18))⟩]) (.seq (.ops [⟨(some 19), none, (.ld (.t 2) none)⟩, ⟨(some 20), none, (.mov (.t 19))⟩, ⟨(some 21), (some (20, false)), (.mov (.t 6))⟩, ⟨(some 22), (some (20, false)), (.bin .neq (.t 21) (.c (.int .i64 0)))⟩, ⟨(some 23), none, (.pick (.t 20) (.c (.bool true)) (.t 22))⟩, ⟨none, none, (.st (.t 2) 1 (.t 23))⟩]) (.seq (.ops [⟨(some 24), none, (.mov (.t 5))⟩, ⟨(some 3), none, (.mov (.t 24))⟩]) .ret))))), 25, [(.tmp 3)]⟩
theorem F_snap_Read_3_ok : compF Try.prog (fun _ => true) 83 = some F_snap_Read_3 := by kernel_rfl
@[simp] abbrev n_snap_parts : FuncId := 76
def F_snap_parts : F := ⟨(.seq (.ops [⟨(some 2), none, (.mov (.c .nilFunc))⟩]) (.seq (.ops [⟨(some 3), none, (.mov (.t 0))⟩, ⟨(some 4), none, (.call 128 [(.t 3), (.c (.int .i64 4096))])⟩, ⟨(some 2), none, (.mov (.t 4))⟩]) .ret)), 5, [(.tmp 2)]⟩
theorem F_snap_parts_ok : compF Try.prog (fun _ => true) 76 = some F_snap_parts := by kernel_rfl
@[simp] abbrev n_slices_Chunk_byte : FuncId := 128
def F_slices_Chunk_byte : F := ⟨(.seq (.ops [⟨(some 2), none, (.box (.t 0))⟩, ⟨(some 3), none, (.box (.t 1))⟩, ⟨(some 4), none, (.mov (.c .nilFunc))⟩]) (.seq (.seq (.ops [⟨(some 5), none, (.ld (.t 3) none)⟩, ⟨(some 6), none, (.bin .lss (.t 5) (.c (.int .i64 1)))⟩]) (.cond (.t 6) (.ops [⟨(some 7), none, .dead⟩, ⟨none, none, .dead⟩]) .skip)) (.seq (.ops [⟨(some 8), none, (.mkf 176 [(.t 2), (.t 3)])⟩, ⟨(some 4), none, (.mov (.t 8))⟩]) .ret))), 9, [(.tmp 4)]⟩
theorem F_slices_Chunk_byte_ok : compF Try.prog (fun _ => true) 128 = some F_slices_Chunk_byte := by kernel_rfl
@[simp] abbrev n_slices_Chunk_byte_1 : FuncId := 176
def F_slices_Chunk_byte_1_L0 : C := (.seq (.seq (.ops [⟨(some 6), none, (.mov (.t 4))⟩, ⟨(some 7), none, (.ld (.t 1) none)⟩, ⟨(some 8), none, (.len (.t 7))⟩, ⟨(some 9), none, (.bin .lss (.t 6) (.t 8))⟩]) (.cond (.t 9) .skip (.exit 0))) (.seq (.block 1 (.seq (.dops false [] [⟨(some 13), none, (.ld (.t 2) none)⟩, ⟨(some 14), none, (.ld (.t 1) none)⟩, ⟨(some 15), none, (.mov (.t 4))⟩, ⟨(some 16), none, (.slc (.t 14) (some (.t 15)) none none 1)⟩, ⟨(some 17), none, (.len (.t 16))⟩, ⟨(some 18), none, (.mm false (.t 13) (.t 17))⟩, ⟨(some 5), none, (.mov (.t 18))⟩]) (.seq (.ops [⟨(some 19), none, (.mov (.t 0))⟩, ⟨(some 20), none, (.ld (.t 1) none)⟩, ⟨(some 21), none, (.mov (.t 4))⟩, ⟨(some 22), none, (.mov (.t 4))⟩, ⟨(some 23), none, (.mov (.t 5))⟩, ⟨(some 24), none, (.bin .add (.t 22) (.t 23))⟩, ⟨(some 25), none, (.mov (.t 4))⟩, ⟨(some 26), none, (.mov (.t 5))⟩, ⟨(some 27), none, (.bin .add (.t 25) (.t 26))⟩, ⟨(some 28), none, (.slc (.t 20) (some (.t 21)) (some (.t 24)) (some (.t 27)) 1)⟩, ⟨(some 29), none, (.callv (.t 19) [(.t 28)])⟩, ⟨(some 30), none, (.un .not (.t 29))⟩]) (.cond (.t 30) .ret .skip)))) (.ops [⟨(some 10), none, (.mov (.t 4))⟩, ⟨(some 11), none, (.ld (.t 2) none)⟩, ⟨(some 12), none, (.bin .add (.t 10) (.t 11))⟩, ⟨(some 4), none, (.mov (.t 12))⟩])))
def F_slices_Chunk_byte_1 : F := ⟨(.seq (.ops [⟨(some 4), none, (.mov (.c (.int .i64 0)))⟩]) (.block 0 (.loop F_slices_Chunk_byte_1_L0))), 31, []⟩
theorem F_slices_Chunk_byte_1_ok : compF Try.prog (fun _ => true) 176 = some F_slices_Chunk_byte_1 := by kernel_rfl
@[simp] abbrev n_snap_Records : FuncId := 26
def F_snap_Records : F := ⟨(.seq (.ops [⟨(some 2), none, (.box (.t 0))⟩, ⟨(some 3), none, (.box (.t 1))⟩, ⟨(some 4), none, (.alr 36 3)⟩, ⟨(some 5), none, (.mov (.c (.int .i64 0)))⟩]) (.seq (.ops [⟨(some 10), none, (.ld (.t 2) (some 6))⟩, ⟨(some 11), none, (.call 24 [(.t 10)])⟩, ⟨(some 9), none, (.mov (.t 11))⟩, ⟨(some 12), none, (.ext (.t 9) 0)⟩, ⟨(some 13), none, (.ext (.t 9) 1)⟩, ⟨(some 6), none, (.mov (.t 12))⟩, ⟨(some 5), none, (.mov (.t 13))⟩]) (.seq (.seq (.ops [⟨(some 14), none, (.mov (.t 5))⟩, ⟨(some 15), none, (.bin .neq (.t 14) (.c (.int .i64 0)))⟩]) (.cond (.t 15) (.seq (.ops [⟨(some 16), none, (.mov (.t 5))⟩, ⟨none, none, (.st (.t 4) 1 (.c (.slice none 0 0)))⟩, ⟨(some 5), none, (.mov (.t 16))⟩]) .ret) .skip)) (.seq (.seq (.ops [⟨(some 17), none, (.ld (.t 3) none)⟩, ⟨(some 18), none, (.bin .lss (.t 17) (.c (.int .i64 0)))⟩, ⟨(some 19), none, (.mov (.t 18))⟩, ⟨(some 20), (some (19, false)), (.ld (.t 3) none)⟩, ⟨(some 21), (some (19, false)), (.bin .gtr (.t 20) (.c (.int .i64 2305843009213693952)))⟩, ⟨(some 22), none, (.pick (.t 19) (.c (.bool true)) (.t 21))⟩]) (.cond (.t 22) (.seq (.ops [⟨none, none, (.st (.t 4) 1 (.c (.slice none 0 0)))⟩, ⟨(some 5), none, (.mov (.c (.int .i64 120)))⟩]) .ret) .skip)) (.seq (.seq (.ops [⟨(some 23), none, (.mov (.t 6))⟩, ⟨(some 24), none, (.call 76 [(.t 23)])⟩]) (.block 0 (.rangeF false (.t 24) [25] (.ops [⟨(some 7), none, (.mov (.t 25))⟩]) (.block 1 (.dops false [] [⟨(some 26), none, (.ld (.t 4) none)⟩, ⟨(some 27), none, (.ld (.t 3) none)⟩, ⟨(some 28), none, (.ld (.t 4) none)⟩, ⟨(some 29), none, (.len (.t 28))⟩, ⟨(some 30), none, (.bin .add (.t 27) (.t 29))⟩, ⟨(some 31), none, (.mov (.t 7))⟩, ⟨(some 32), none, (.callq 77 [(.t 31)])⟩, ⟨(some 33), none, (.bld [(.val (.int .i64 0)), (.val (.int .i64 0)), (.lit 1 [])] [(0, (1, (.c (.int .i64 2)))), (1, (1, (.t 30))), (2, (1, (.t 32)))])⟩, ⟨(some 34), none, (.mkl 36 3 [(.t 33)] false)⟩, ⟨(some 35), none, (.app (.t 26) (.t 34) 36 3 40 true)⟩, ⟨none, none, (.st (.t 4) 1 (.t 35))⟩]))))) (.seq (.ops [⟨(some 37), none, (.ld (.t 4) none)⟩, ⟨(some 38), none, (.len (.t 37))⟩, ⟨(some 39), none, (.conv .u64 (.t 38))⟩, ⟨(some 40), none, (.call 69 [(.c (.slice none 0 0)), (.t 39), (.c (.int .i64 2))])⟩, ⟨(some 36), none, (.mov (.t 40))⟩, ⟨(some 41), none, (.ext (.t 36) 0)⟩, ⟨(some 42), none, (.ext (.t 36) 1)⟩, ⟨(some 8), none, (.mov (.t 41))⟩, ⟨(some 5), none, (.mov (.t 42))⟩]) (.seq (.ops [⟨(some 43), none, (.ld (.t 4) none)⟩, ⟨(some 44), none, (.ld (.t 3) none)⟩, ⟨(some 45), none, (.ld (.t 4) none)⟩, ⟨(some 46), none, (.len (.t 45))⟩, ⟨(some 47), none, (.bin .add (.t 44) (.t 46))⟩, ⟨(some 48), none, (.mov (.t 8))⟩, ⟨(some 49), none, (.bld [(.val (.int .i64 0)), (.val (.int .i64 0)), (.lit 1 [])] [(0, (1, (.c (.int .i64 3)))), (1, (1, (.t 47))), (2, (1, (.t 48)))])⟩, ⟨(some 50), none, (.mkl 36 3 [(.t 49)] false)⟩, ⟨(some 51), none, (.app (.t 43) (.t 50) 36 3 40 true)⟩, ⟨(some 52), none, (.mov (.t 5))⟩, ⟨none, none, (.st (.t 4) 1 (.t 51))⟩, ⟨(some 5), none, (.mov (.t 52))⟩]) .ret))))))), 53, [(.cell 4 none), (.tmp 5)]⟩
theorem F_snap_Records_ok : compF Try.prog (fun d => !([34, 50].contains d)) 26 = some F_snap_Records := by kernel_rfl
@[simp] abbrev n_snap_Found : FuncId := 32
def F_snap_Found_L0 : C := (.seq (.seq (.ops [⟨(some 71), none, (.mov (.t 17))⟩, ⟨(some 72), none, (.fad (.t 11) 1)⟩, ⟨(some 73), none, (.ld (.t 72) none)⟩, ⟨(some 74), none, (.bin .lss (.t 71) (.t 73))⟩]) (.cond (.t 74) .skip (.exit 4))) (.seq (.block 5 (.seq (.ops [⟨(some 78), none, (.ld (.t 6) none)⟩, ⟨(some 79), none, (.mov (.t 17))⟩, ⟨(some 80), none, (.mlk (.t 78) (.t 79) (.agg [(.val (.int .i64 0)), (.val (.int .i64 0)), (.lit 1 [])]) true)⟩, ⟨(some 77), none, (.mov (.t 80))⟩, ⟨(some 81), none, (.ext (.t 77) 0)⟩, ⟨(some 82), none, (.ext (.t 77) 1)⟩, ⟨(some 18), none, (.alc [(.val (.int .i64 0)), (.val (.int .i64 0)), (.lit 1 [])])⟩, ⟨none, none, (.st (.t 18) 3 (.t 81))⟩, ⟨(some 19), none, (.mov (.t 82))⟩]) (.seq (.seq (.ops [⟨(some 83), none, (.mov (.t 19))⟩, ⟨(some 84), none, (.un .not (.t 83))⟩, ⟨(some 85), none, (.mov (.t 84))⟩, ⟨(some 86), (some (85, false)), (.fad (.t 18) 0)⟩, ⟨(some 87), (some (85, false)), (.ld (.t 86) none)⟩, ⟨(some 88), (some (85, false)), (.bin .neq (.t 87) (.c (.int .i64 2)))⟩, ⟨(some 89), none, (.pick (.t 85) (.c (.bool true)) (.t 88))⟩]) (.cond (.t 89) (.exit 3) .skip)) (.ops [⟨(some 90), none, (.mov (.t 15))⟩, ⟨(some 91), none, (.fad (.t 18) 2)⟩, ⟨(some 92), none, (.ld (.t 91) none)⟩, ⟨(some 93), none, (.app (.t 90) (.t 92) 5 1 1 true)⟩, ⟨(some 15), none, (.mov (.t 93))⟩])))) (.ops [⟨(some 75), none, (.mov (.t 17))⟩, ⟨(some 76), none, (.bin .add (.t 75) (.c (.int .i64 1)))⟩, ⟨(some 17), none, (.mov (.t 76))⟩])))
def F_snap_Found : F := ⟨(.seq (.ops [⟨(some 2), none, (.alc [(.val (.int .i64 0)), (.val (.int .i64 0)), (.lit 5 []), (.lit 3 []), (.val (.int .i64 0)), (.lit 1 [])])⟩, ⟨(some 3), none, (.alc [(.val (.int .i64 0))])⟩, ⟨(some 4), none, (.alc [(.val (.int .i64 0))])⟩, ⟨(some 5), none, (.alc [(.val (.int .i64 0))])⟩]) (.scope (.seq (.ops [⟨(some 22), none, .mkm⟩, ⟨(some 6), none, (.alc [(.val (.map none))])⟩, ⟨none, none, (.st (.t 6) 1 (.t 22))⟩]) (.seq (.seq (.ops [⟨(some 23), none, (.mov (.t 0))⟩, ⟨(some 24), none, (.call 89 [(.t 23)])⟩]) (.block 0 (.rangeF false (.t 24) [25, 26] (.ops [⟨(some 8), none, (.alc [(.val (.int .i64 0)), (.val (.int .i64 0)), (.lit 1 []), (.val (.int .i64 0)), (.val (.int .i64 0))])⟩, ⟨none, none, (.st (.t 8) 5 (.t 26))⟩]) (.block 1 (.ops [⟨(some 27), none, (.ld (.t 6) none)⟩, ⟨(some 28), none, (.fad (.t 8) 0)⟩, ⟨(some 29), none, (.fad (.t 28) 1)⟩, ⟨(some 30), none, (.ld (.t 29) none)⟩, ⟨(some 31), none, (.fad (.t 8) 0)⟩, ⟨(some 32), none, (.ld (.t 31) (some 3))⟩, ⟨none, none, (.mup (.t 27) (.t 30) (.t 32))⟩]))))) (.seq (.label 0) (.seq (.seq (.ops [⟨(some 33), none, (.mov (.t 0))⟩, ⟨(some 34), none, (.call 89 [(.t 33)])⟩]) (.block 2 (.rangeF false (.t 34) [35, 36] (.ops [⟨(some 10), none, (.alc [(.val (.int .i64 0)), (.val (.int .i64 0)), (.lit 1 []), (.val (.int .i64 0)), (.val (.int .i64 0))])⟩, ⟨none, none, (.st (.t 10) 5 (.t 36))⟩]) (.block 3 (.seq (.ops [⟨(some 37), none, (.fad (.t 10) 0)⟩, ⟨(some 38), none, (.ld (.t 37) (some 3))⟩, ⟨(some 11), none, (.alc [(.val (.int .i64 0)), (.val (.int .i64 0)), (.lit 1 [])])⟩, ⟨none, none, (.st (.t 11) 3 (.t 38))⟩]) (.seq (.ops [⟨(some 40), none, (.fad (.t 11) 2)⟩, ⟨(some 41), none, (.ld (.t 40) none)⟩, ⟨(some 42), none, (.call 90 [(.t 41), (.c (.int .i64 2))])⟩, ⟨(some 39), none, (.mov (.t 42))⟩, ⟨(some 43), none, (.ext (.t 39) 0)⟩, ⟨(some 44), none, (.ext (.t 39) 1)⟩, ⟨(some 45), none, (.ext (.t 39) 2)⟩, ⟨(some 12), none, (.mov (.t 43))⟩, ⟨(some 13), none, (.mov (.t 44))⟩, ⟨(some 14), none, (.mov (.t 45))⟩]) (.seq (.seq (.ops [⟨(some 46), none, (.fad (.t 11) 0)⟩, ⟨(some 47), none, (.ld (.t 46) none)⟩, ⟨(some 48), none, (.bin .neq (.t 47) (.c (.int .i64 3)))⟩, ⟨(some 49), none, (.mov (.t 48))⟩, ⟨(some 50), (some (49, false)), (.mov (.t 14))⟩, ⟨(some 51), (some (49, false)), (.bin .neq (.t 50) (.c (.int .i64 0)))⟩, ⟨(some 52), none, (.pick (.t 49) (.c (.bool true)) (.t 51))⟩, ⟨(some 53), none, (.mov (.t 52))⟩, ⟨(some 54), (some (53, false)), (.mov (.t 13))⟩, ⟨(some 55), (some (53, false)), (.len (.t 54))⟩, ⟨(some 56), (some (53, false)), (.bin .gtr (.t 55) (.c (.int .i64 0)))⟩, ⟨(some 57), none, (.pick (.t 53) (.c (.bool true)) (.t 56))⟩, ⟨(some 58), none, (.mov (.t 57))⟩, ⟨(some 59), (some (58, false)), (.mov (.t 12))⟩, ⟨(some 60), (some (58, false)), (.conv .i64 (.t 59))⟩, ⟨(some 61), (some (58, false)), (.fad (.t 11) 1)⟩, ⟨(some 62), (some (58, false)), (.ld (.t 61) none)⟩, ⟨(some 63), (some (58, false)), (.bin .gtr (.t 60) (.t 62))⟩, ⟨(some 64), none, (.pick (.t 58) (.c (.bool true)) (.t 63))⟩]) (.cond (.t 64) (.exit 3) .skip)) (.seq (.ops [⟨(some 15), none, (.nil 5 1 true)⟩]) (.seq (.ops [⟨(some 65), none, (.fad (.t 11) 1)⟩, ⟨(some 66), none, (.ld (.t 65) none)⟩, ⟨(some 67), none, (.mov (.t 12))⟩, ⟨(some 68), none, (.conv .i64 (.t 67))⟩, ⟨(some 69), none, (.bin .sub (.t 66) (.t 68))⟩, ⟨(some 16), none, (.mov (.t 69))⟩]) (.seq (.seq (.ops [⟨(some 70), none, (.mov (.t 16))⟩, ⟨(some 17), none, (.mov (.t 70))⟩]) (.block 4 (.loop F_snap_Found_L0))) (.seq (.ops [⟨(some 95), none, (.mov (.t 15))⟩, ⟨(some 96), none, (.call 28 [(.t 95)])⟩, ⟨(some 94), none, (.mov (.t 96))⟩, ⟨(some 97), none, (.ext (.t 94) 0)⟩, ⟨(some 98), none, (.ext (.t 94) 1)⟩, ⟨(some 20), none, (.alc [(.val (.int .i64 0)), (.val (.int .i64 0)), (.lit 5 []), (.lit 3 []), (.val (.int .i64 0)), (.lit 1 [])])⟩, ⟨none, none, (.st (.t 20) 6 (.t 97))⟩, ⟨(some 21), none, (.mov (.t 98))⟩]) (.seq (.ops [⟨(some 99), none, (.mov (.t 21))⟩, ⟨(some 100), none, (.bin .eql (.t 99) (.c (.int .i64 0)))⟩]) (.cond (.t 100) (.seq (.dops false [(103, 2), (103, 3)] [⟨(some 101), none, (.ld (.t 20) (some 6))⟩, ⟨(some 102), none, (.mov (.t 16))⟩, ⟨(some 103), none, (.fad (.t 11) 1)⟩, ⟨(some 104), none, (.ld (.t 103) none)⟩, ⟨none, none, (.st (.t 2) 6 (.t 101))⟩, ⟨none, none, (.st (.t 3) 1 (.t 102))⟩, ⟨none, none, (.st (.t 4) 1 (.t 104))⟩, ⟨none, none, (.st (.t 5) 1 (.c (.int .i64 0)))⟩]) .ret) .skip))))))))))))) (.seq (.ops [⟨(some 105), none, (.bld [(.val (.int .i64 0)), (.val (.int .i64 0)), (.lit 5 []), (.lit 3 []), (.val (.int .i64 0)), (.lit 1 [])] [])⟩, ⟨none, none, (.st (.t 2) 6 (.t 105))⟩, ⟨none, none, (.st (.t 3) 1 (.c (.int .i64 0)))⟩, ⟨none, none, (.st (.t 4) 1 (.c (.int .i64 0)))⟩, ⟨none, none, (.st (.t 5) 1 (.c (.int .i64 120)))⟩]) .ret))))))), 106, [(.cell 2 (some 6)), (.cell 3 none), (.cell 4 none), (.cell 5 none)]⟩
theorem F_snap_Found_ok : compF Try.prog (fun _ => true) 32 = some F_snap_Found := by kernel_rfl
@[simp] abbrev n_slices_Backward_Found : FuncId := 89
def F_slices_Backward_Found : F := ⟨(.seq (.ops [⟨(some 1), none, (.box (.t 0))⟩, ⟨(some 2), none, (.mov (.c .nilFunc))⟩]) (.seq (.ops [⟨(some 3), none, (.mkf 136 [(.t 1)])⟩, ⟨(some 2), none, (.mov (.t 3))⟩]) .ret)), 4, [(.tmp 2)]⟩
theorem F_slices_Backward_Found_ok : compF Try.prog (fun _ => true) 89 = some F_slices_Backward_Found := by kernel_rfl
@[simp] abbrev n_slices_Backward_Found_1 : FuncId := 136
def F_slices_Backward_Found_1_L0 : C := (.seq (.seq (.ops [⟨(some 7), none, (.mov (.t 3))⟩, ⟨(some 8), none, (.bin .geq (.t 7) (.c (.int .i64 0)))⟩]) (.cond (.t 8) .skip (.exit 0))) (.seq (.block 1 (.seq (.ops [⟨(some 11), none, (.mov (.t 0))⟩, ⟨(some 12), none, (.mov (.t 3))⟩, ⟨(some 13), none, (.ld (.t 1) none)⟩, ⟨(some 14), none, (.mov (.t 3))⟩, ⟨(some 15), none, (.ixs (.t 13) (.t 14) 5)⟩, ⟨(some 16), none, (.lde (.t 15) (some 5))⟩, ⟨(some 17), none, (.callv (.t 11) [(.t 12), (.t 16)])⟩, ⟨(some 18), none, (.un .not (.t 17))⟩]) (.cond (.t 18) .ret .skip))) (.ops [⟨(some 9), none, (.mov (.t 3))⟩, ⟨(some 10), none, (.bin .sub (.t 9) (.c (.int .i64 1)))⟩, ⟨(some 3), none, (.mov (.t 10))⟩])))
def F_slices_Backward_Found_1 : F := ⟨(.seq (.ops [⟨(some 4), none, (.ld (.t 1) none)⟩, ⟨(some 5), none, (.len (.t 4))⟩, ⟨(some 6), none, (.bin .sub (.t 5) (.c (.int .i64 1)))⟩, ⟨(some 3), none, (.mov (.t 6))⟩]) (.block 0 (.loop F_slices_Backward_Found_1_L0))), 19, []⟩
theorem F_slices_Backward_Found_1_ok : compF Try.prog (fun _ => true) 136 = some F_slices_Backward_Found_1 := by kernel_rfl
@[simp] abbrev n_r12_counted : FuncId := 74
def F_r12_counted : F := ⟨(.seq (.ops [⟨(some 2), none, (.nil 5 1 true)⟩]) (.seq (.ops [⟨(some 8), none, (.mov (.t 0))⟩, ⟨(some 9), none, (.call 126 [(.t 8)])⟩, ⟨(some 7), none, (.mov (.t 9))⟩, ⟨(some 10), none, (.ext (.t 7) 0)⟩, ⟨(some 11), none, (.ext (.t 7) 1)⟩, ⟨(some 3), none, (.mov (.t 10))⟩, ⟨(some 4), none, (.mov (.t 11))⟩]) (.seq (.ops [⟨(some 13), none, (.mov (.t 3))⟩, ⟨(some 14), none, (.len (.t 13))⟩, ⟨(some 15), none, (.conv .u64 (.t 14))⟩, ⟨(some 16), none, (.call 78 [(.c (.slice none 0 0)), (.t 15), (.c (.int .i64 2))])⟩, ⟨(some 12), none, (.mov (.t 16))⟩, ⟨(some 17), none, (.ext (.t 12) 0)⟩, ⟨(some 18), none, (.ext (.t 12) 1)⟩, ⟨(some 5), none, (.mov (.t 17))⟩, ⟨(some 6), none, (.mov (.t 18))⟩]) (.seq (.ops [⟨(some 19), none, (.mov (.t 5))⟩, ⟨(some 20), none, (.mov (.t 3))⟩, ⟨(some 21), none, (.app (.t 19) (.t 20) 5 1 1 true)⟩, ⟨(some 2), none, (.mov (.t 21))⟩]) .ret)))), 22, [(.tmp 2)]⟩
theorem F_r12_counted_ok : compF Try.prog (fun _ => true) 74 = some F_r12_counted := by kernel_rfl
@[simp] abbrev n_r12_Write : FuncId := 25
def F_r12_Write_L0 : C := (.seq (.seq (.ops [⟨(some 42), none, (.mov (.t 6))⟩, ⟨(some 43), none, (.fad (.t 1) 3)⟩, ⟨(some 44), none, (.ld (.t 43) none)⟩, ⟨(some 45), none, (.len (.t 44))⟩, ⟨(some 46), none, (.bin .lss (.t 42) (.t 45))⟩]) (.cond (.t 46) .skip (.exit 0))) (.seq (.block 1 (.seq (.dops false [] [⟨(some 50), none, (.fad (.t 1) 3)⟩, ⟨(some 51), none, (.ld (.t 50) none)⟩, ⟨(some 52), none, (.mov (.t 6))⟩, ⟨(some 53), none, (.ixs (.t 51) (.t 52) 3)⟩, ⟨(some 54), none, (.fad (.t 53) 0)⟩, ⟨(some 55), none, (.lde (.t 54) none)⟩, ⟨(some 56), none, (.conv .u64 (.t 55))⟩, ⟨(some 57), none, (.fad (.t 1) 3)⟩, ⟨(some 58), none, (.ld (.t 57) none)⟩, ⟨(some 59), none, (.mov (.t 6))⟩, ⟨(some 60), none, (.ixs (.t 58) (.t 59) 3)⟩, ⟨(some 61), none, (.fad (.t 60) 1)⟩, ⟨(some 62), none, (.lde (.t 61) none)⟩, ⟨(some 63), none, (.conv .u64 (.t 62))⟩, ⟨(some 64), none, (.mkl 114 1 [(.t 56), (.t 63)] true)⟩, ⟨(some 65), none, (.call 73 [(.c (.string ⟨#[119, 119]⟩)), (.t 64)])⟩, ⟨(some 49), none, (.mov (.t 65))⟩, ⟨(some 66), none, (.ext (.t 49) 0)⟩, ⟨(some 67), none, (.ext (.t 49) 1)⟩, ⟨(some 7), none, (.mov (.t 66))⟩, ⟨(some 8), none, (.mov (.t 67))⟩]) (.dops false [] [⟨(some 68), none, (.mov (.t 4))⟩, ⟨(some 69), none, (.mov (.t 7))⟩, ⟨(some 71), none, (.fad (.t 1) 3)⟩, ⟨(some 72), none, (.ld (.t 71) none)⟩, ⟨(some 73), none, (.mov (.t 6))⟩, ⟨(some 74), none, (.ixs (.t 72) (.t 73) 3)⟩, ⟨(some 75), none, (.fad (.t 74) 2)⟩, ⟨(some 76), none, (.lde (.t 75) none)⟩, ⟨(some 70), none, (.app (.t 68) (.t 69) 5 1 1 true)⟩, ⟨(some 77), none, (.call 74 [(.t 76)])⟩, ⟨(some 78), none, (.app (.t 70) (.t 77) 5 1 1 true)⟩, ⟨(some 4), none, (.mov (.t 78))⟩]))) (.ops [⟨(some 47), none, (.mov (.t 6))⟩, ⟨(some 48), none, (.bin .add (.t 47) (.c (.int .i64 1)))⟩, ⟨(some 6), none, (.mov (.t 48))⟩])))
def F_r12_Write : F := ⟨(.seq (.ops [⟨(some 1), none, (.box (.t 0))⟩, ⟨(some 2), none, (.nil 5 1 true)⟩, ⟨(some 3), none, (.mov (.c (.int .i64 0)))⟩]) (.seq (.seq (.ops [⟨(some 9), none, (.ld (.t 1) (some 6))⟩, ⟨(some 10), none, (.call 72 [(.t 9)])⟩, ⟨(some 11), none, (.bin .neq (.t 10) (.c (.int .i64 0)))⟩]) (.cond (.t 11) (.seq (.ops [⟨(some 2), none, (.nil 5 1 true)⟩, ⟨(some 3), none, (.mov (.c (.int .i64 110)))⟩]) .ret) .skip)) (.seq (.ops [⟨(some 13), none, (.fad (.t 1) 0)⟩, ⟨(some 14), none, (.ld (.t 13) none)⟩, ⟨(some 15), none, (.conv .u64 (.t 14))⟩, ⟨(some 16), none, (.fad (.t 1) 1)⟩, ⟨(some 17), none, (.ld (.t 16) none)⟩, ⟨(some 18), none, (.conv .u64 (.t 17))⟩, ⟨(some 19), none, (.fad (.t 1) 4)⟩, ⟨(some 20), none, (.ld (.t 19) none)⟩, ⟨(some 21), none, (.conv .u64 (.t 20))⟩, ⟨(some 22), none, (.fad (.t 1) 3)⟩, ⟨(some 23), none, (.ld (.t 22) none)⟩, ⟨(some 24), none, (.len (.t 23))⟩, ⟨(some 25), none, (.conv .u64 (.t 24))⟩, ⟨(some 26), none, (.fad (.t 1) 5)⟩, ⟨(some 27), none, (.ld (.t 26) none)⟩, ⟨(some 28), none, (.len (.t 27))⟩, ⟨(some 29), none, (.conv .u64 (.t 28))⟩, ⟨(some 30), none, (.mkl 114 1 [(.t 15), (.t 18), (.t 21), (.t 25), (.t 29)] true)⟩, ⟨(some 31), none, (.call 73 [(.c (.string ⟨#[98, 119, 119, 98, 104]⟩)), (.t 30)])⟩, ⟨(some 12), none, (.mov (.t 31))⟩, ⟨(some 32), none, (.ext (.t 12) 0)⟩, ⟨(some 33), none, (.ext (.t 12) 1)⟩, ⟨(some 4), none, (.mov (.t 32))⟩, ⟨(some 5), none, (.mov (.t 33))⟩]) (.seq (.dops false [] [⟨(some 34), none, (.mov (.t 4))⟩, ⟨(some 35), none, (.fad (.t 1) 5)⟩, ⟨(some 36), none, (.ld (.t 35) none)⟩, ⟨(some 38), none, (.fad (.t 1) 2)⟩, ⟨(some 39), none, (.ld (.t 38) none)⟩, ⟨(some 37), none, (.app (.t 34) (.t 36) 5 1 1 true)⟩, ⟨(some 40), none, (.call 74 [(.t 39)])⟩, ⟨(some 41), none, (.app (.t 37) (.t 40) 5 1 1 true)⟩, ⟨(some 4), none, (.mov (.t 41))⟩]) (.seq (.seq (.ops [⟨(some 6), none, (.mov (.c (.int .i64 0)))⟩]) (.block 0 (.loop F_r12_Write_L0))) (.seq (.ops [⟨(some 79), none, (.mov (.t 4))⟩, ⟨(some 80), none, (.call 75 [(.t 79)])⟩, ⟨(some 2), none, (.mov (.t 80))⟩, ⟨(some 3), none, (.mov (.c (.int .i64 0)))⟩]) .ret)))))), 81, [(.tmp 2), (.tmp 3)]⟩
theorem F_r12_Write_ok : compF Try.prog (fun _ => true) 25 = some F_r12_Write := by kernel_rfl
@[simp] abbrev n_r12_take : FuncId := 86
def F_r12_take : F := ⟨(.seq (.ops [⟨(some 2), none, (.nil 174 5 true)⟩, ⟨(some 3), none, (.nil 5 1 true)⟩, ⟨(some 4), none, (.mov (.c (.bool false)))⟩]) (.seq (.ops [⟨(some 11), none, (.mov (.t 0))⟩, ⟨(some 12), none, (.call 133 [(.t 11), (.c (.int .i64 2))])⟩, ⟨(some 10), none, (.mov (.t 12))⟩, ⟨(some 13), none, (.ext (.t 10) 0)⟩, ⟨(some 14), none, (.ext (.t 10) 1)⟩, ⟨(some 15), none, (.ext (.t 10) 2)⟩, ⟨(some 5), none, (.mov (.t 13))⟩, ⟨(some 6), none, (.mov (.t 14))⟩, ⟨(some 7), none, (.mov (.t 15))⟩]) (.seq (.seq (.ops [⟨(some 16), none, (.mov (.t 7))⟩, ⟨(some 17), none, (.bin .neq (.t 16) (.c (.int .i64 0)))⟩, ⟨(some 18), none, (.mov (.t 17))⟩, ⟨(some 19), (some (18, false)), (.mov (.t 6))⟩, ⟨(some 20), (some (18, false)), (.len (.t 19))⟩, ⟨(some 21), (some (18, false)), (.mov (.t 5))⟩, ⟨(some 22), (some (18, false)), (.conv .i64 (.t 21))⟩, ⟨(some 23), (some (18, false)), (.bin .lss (.t 20) (.t 22))⟩, ⟨(some 24), none, (.pick (.t 18) (.c (.bool true)) (.t 23))⟩]) (.cond (.t 24) (.seq (.ops [⟨(some 2), none, (.nil 174 5 true)⟩, ⟨(some 3), none, (.nil 5 1 true)⟩, ⟨(some 4), none, (.mov (.c (.bool false)))⟩]) .ret) .skip)) (.seq (.ops [⟨(some 26), none, (.mov (.t 6))⟩, ⟨(some 27), none, (.mov (.t 5))⟩, ⟨(some 28), none, (.slc (.t 26) none (some (.t 27)) none 1)⟩, ⟨(some 29), none, (.call 134 [(.t 28)])⟩, ⟨(some 25), none, (.mov (.t 29))⟩, ⟨(some 30), none, (.ext (.t 25) 0)⟩, ⟨(some 31), none, (.ext (.t 25) 1)⟩, ⟨(some 8), none, (.mov (.t 30))⟩, ⟨(some 9), none, (.mov (.t 31))⟩]) (.seq (.dops false [] [⟨(some 32), none, (.mov (.t 8))⟩, ⟨(some 33), none, (.mov (.t 6))⟩, ⟨(some 34), none, (.mov (.t 5))⟩, ⟨(some 35), none, (.slc (.t 33) (some (.t 34)) none none 1)⟩, ⟨(some 36), none, (.mov (.t 9))⟩, ⟨(some 37), none, (.bin .eql (.t 36) (.c (.int .i64 0)))⟩, ⟨(some 2), none, (.mov (.t 32))⟩, ⟨(some 3), none, (.mov (.t 35))⟩, ⟨(some 4), none, (.mov (.t 37))⟩]) .ret))))), 38, [(.tmp 2), (.tmp 3), (.tmp 4)]⟩
theorem F_r12_take_ok : compF Try.prog (fun _ => true) 86 = some F_r12_take := by kernel_rfl
@[simp] abbrev n_r12_Read : FuncId := 29
def F_r12_Read_L0 : C := (.seq (.seq (.ops [⟨(some 76), none, (.mov (.t 10))⟩, ⟨(some 77), none, (.mov (.t 76))⟩, ⟨(some 78), (some (77, true)), (.mov (.t 11))⟩, ⟨(some 79), (some (77, true)), (.mov (.t 4))⟩, ⟨(some 80), (some (77, true)), (.ixs (.t 79) (.c (.int .i64 3)) 1)⟩, ⟨(some 81), (some (77, true)), (.lde (.t 80) none)⟩, ⟨(some 82), (some (77, true)), (.conv .i64 (.t 81))⟩, ⟨(some 83), (some (77, true)), (.bin .lss (.t 78) (.t 82))⟩, ⟨(some 84), none, (.pick (.t 77) (.t 83) (.c (.bool false)))⟩]) (.cond (.t 84) .skip (.exit 0))) (.seq (.block 1 (.seq (.seq (.ops [⟨(some 87), none, (.mov (.t 9))⟩, ⟨(some 88), none, (.len (.t 87))⟩, ⟨(some 89), none, (.bin .lss (.t 88) (.c (.int .i64 8)))⟩]) (.cond (.t 89) (.seq (.ops [⟨(some 90), none, (.bld [(.val (.int .i64 0)), (.val (.int .i64 0)), (.lit 5 []), (.lit 3 []), (.val (.int .i64 0)), (.lit 1 [])] [])⟩, ⟨none, none, (.st (.t 2) 6 (.t 90))⟩, ⟨(some 3), none, (.mov (.c (.int .i64 120)))⟩]) .ret) .skip)) (.seq (.ops [⟨(some 92), none, (.mov (.t 9))⟩, ⟨(some 93), none, (.slc (.t 92) none (some (.c (.int .i64 8))) none 1)⟩, ⟨(some 94), none, (.call 85 [(.c (.string ⟨#[119, 119]⟩)), (.t 93)])⟩, ⟨(some 91), none, (.mov (.t 94))⟩, ⟨(some 95), none, (.ext (.t 91) 0)⟩, ⟨(some 96), none, (.ext (.t 91) 1)⟩, ⟨(some 12), none, (.mov (.t 95))⟩, ⟨(some 13), none, (.mov (.t 96))⟩]) (.seq (.ops [⟨(some 98), none, (.mov (.t 9))⟩, ⟨(some 99), none, (.slc (.t 98) (some (.c (.int .i64 8))) none none 1)⟩, ⟨(some 100), none, (.call 86 [(.t 99)])⟩, ⟨(some 97), none, (.mov (.t 100))⟩, ⟨(some 101), none, (.ext (.t 97) 0)⟩, ⟨(some 102), none, (.ext (.t 97) 1)⟩, ⟨(some 103), none, (.ext (.t 97) 2)⟩, ⟨(some 14), none, (.mov (.t 101))⟩, ⟨(some 15), none, (.mov (.t 102))⟩, ⟨(some 16), none, (.mov (.t 103))⟩]) (.seq (.dops false [] [⟨(some 104), none, (.fad (.t 6) 3)⟩, ⟨(some 105), none, (.ld (.t 104) none)⟩, ⟨(some 106), none, (.mov (.t 12))⟩, ⟨(some 107), none, (.ixs (.t 106) (.c (.int .i64 0)) 1)⟩, ⟨(some 108), none, (.lde (.t 107) none)⟩, ⟨(some 109), none, (.conv .i64 (.t 108))⟩, ⟨(some 110), none, (.mov (.t 12))⟩, ⟨(some 111), none, (.ixs (.t 110) (.c (.int .i64 1)) 1)⟩, ⟨(some 112), none, (.lde (.t 111) none)⟩, ⟨(some 113), none, (.conv .i64 (.t 112))⟩, ⟨(some 114), none, (.mov (.t 14))⟩, ⟨(some 115), none, (.bld [(.val (.int .i64 0)), (.val (.int .i64 0)), (.lit 5 [])] [(0, (1, (.t 109))), (1, (1, (.t 113))), (2, (1, (.t 114)))])⟩, ⟨(some 116), none, (.mkl 110 3 [(.t 115)] false)⟩, ⟨(some 117), none, (.app (.t 105) (.t 116) 110 3 40 true)⟩, ⟨(some 118), none, (.fad (.t 6) 3)⟩, ⟨none, none, (.st (.t 118) 1 (.t 117))⟩]) (.seq (.ops [⟨(some 119), none, (.mov (.t 15))⟩, ⟨(some 9), none, (.mov (.t 119))⟩]) (.ops [⟨(some 120), none, (.mov (.t 16))⟩, ⟨(some 10), none, (.mov (.t 120))⟩]))))))) (.ops [⟨(some 85), none, (.mov (.t 11))⟩, ⟨(some 86), none, (.bin .add (.t 85) (.c (.int .i64 1)))⟩, ⟨(some 11), none, (.mov (.t 86))⟩])))
def F_r12_Read : F := ⟨(.seq (.ops [⟨(some 2), none, (.alc [(.val (.int .i64 0)), (.val (.int .i64 0)), (.lit 5 []), (.lit 3 []), (.val (.int .i64 0)), (.lit 1 [])])⟩, ⟨(some 3), none, (.mov (.c (.int .i64 0)))⟩]) (.seq (.seq (.ops [⟨(some 19), none, (.mov (.t 0))⟩, ⟨(some 20), none, (.len (.t 19))⟩, ⟨(some 21), none, (.bin .lss (.t 20) (.c (.int .i64 16)))⟩]) (.cond (.t 21) (.seq (.ops [⟨(some 22), none, (.bld [(.val (.int .i64 0)), (.val (.int .i64 0)), (.lit 5 []), (.lit 3 []), (.val (.int .i64 0)), (.lit 1 [])] [])⟩, ⟨none, none, (.st (.t 2) 6 (.t 22))⟩, ⟨(some 3), none, (.mov (.c (.int .i64 120)))⟩]) .ret) .skip)) (.seq (.ops [⟨(some 24), none, (.mov (.t 0))⟩, ⟨(some 25), none, (.slc (.t 24) none (some (.c (.int .i64 12))) none 1)⟩, ⟨(some 26), none, (.call 85 [(.c (.string ⟨#[98, 119, 119, 98, 104]⟩)), (.t 25)])⟩, ⟨(some 23), none, (.mov (.t 26))⟩, ⟨(some 27), none, (.ext (.t 23) 0)⟩, ⟨(some 28), none, (.ext (.t 23) 1)⟩, ⟨(some 4), none, (.mov (.t 27))⟩, ⟨(some 5), none, (.mov (.t 28))⟩]) (.seq (.dops false [] [⟨(some 29), none, (.mov (.t 4))⟩, ⟨(some 30), none, (.ixs (.t 29) (.c (.int .i64 0)) 1)⟩, ⟨(some 31), none, (.lde (.t 30) none)⟩, ⟨(some 32), none, (.conv .i64 (.t 31))⟩, ⟨(some 33), none, (.mov (.t 4))⟩, ⟨(some 34), none, (.ixs (.t 33) (.c (.int .i64 1)) 1)⟩, ⟨(some 35), none, (.lde (.t 34) none)⟩, ⟨(some 36), none, (.conv .i64 (.t 35))⟩, ⟨(some 37), none, (.mov (.t 4))⟩, ⟨(some 38), none, (.ixs (.t 37) (.c (.int .i64 2)) 1)⟩, ⟨(some 39), none, (.lde (.t 38) none)⟩, ⟨(some 40), none, (.conv .i64 (.t 39))⟩, ⟨(some 41), none, (.bld [(.val (.int .i64 0)), (.val (.int .i64 0)), (.lit 5 []), (.lit 3 []), (.val (.int .i64 0)), (.lit 1 [])] [(0, (1, (.t 32))), (1, (1, (.t 36))), (4, (1, (.t 40)))])⟩, ⟨(some 6), none, (.alc [(.val (.int .i64 0)), (.val (.int .i64 0)), (.lit 5 []), (.lit 3 []), (.val (.int .i64 0)), (.lit 1 [])])⟩, ⟨none, none, (.st (.t 6) 6 (.t 41))⟩]) (.seq (.ops [⟨(some 42), none, (.mov (.t 0))⟩, ⟨(some 43), none, (.mov (.t 0))⟩, ⟨(some 44), none, (.len (.t 43))⟩, ⟨(some 45), none, (.bin .sub (.t 44) (.c (.int .i64 4)))⟩, ⟨(some 46), none, (.slc (.t 42) (some (.c (.int .i64 12))) (some (.t 45)) none 1)⟩, ⟨(some 7), none, (.mov (.t 46))⟩]) (.seq (.seq (.ops [⟨(some 47), none, (.mov (.t 7))⟩, ⟨(some 48), none, (.len (.t 47))⟩, ⟨(some 49), none, (.mov (.t 4))⟩, ⟨(some 50), none, (.ixs (.t 49) (.c (.int .i64 4)) 1)⟩, ⟨(some 51), none, (.lde (.t 50) none)⟩, ⟨(some 52), none, (.conv .i64 (.t 51))⟩, ⟨(some 53), none, (.bin .lss (.t 48) (.t 52))⟩]) (.cond (.t 53) (.seq (.ops [⟨(some 54), none, (.bld [(.val (.int .i64 0)), (.val (.int .i64 0)), (.lit 5 []), (.lit 3 []), (.val (.int .i64 0)), (.lit 1 [])] [])⟩, ⟨none, none, (.st (.t 2) 6 (.t 54))⟩, ⟨(some 3), none, (.mov (.c (.int .i64 120)))⟩]) .ret) .skip)) (.seq (.dops false [] [⟨(some 55), none, (.fad (.t 6) 5)⟩, ⟨(some 56), none, (.ld (.t 55) none)⟩, ⟨(some 57), none, (.mov (.t 7))⟩, ⟨(some 58), none, (.mov (.t 4))⟩, ⟨(some 59), none, (.ixs (.t 58) (.c (.int .i64 4)) 1)⟩, ⟨(some 60), none, (.lde (.t 59) none)⟩, ⟨(some 61), none, (.slc (.t 57) none (some (.t 60)) none 1)⟩, ⟨(some 62), none, (.app (.t 56) (.t 61) 5 1 1 true)⟩, ⟨(some 63), none, (.fad (.t 6) 5)⟩, ⟨none, none, (.st (.t 63) 1 (.t 62))⟩]) (.seq (.ops [⟨(some 65), none, (.mov (.t 7))⟩, ⟨(some 66), none, (.mov (.t 4))⟩, ⟨(some 67), none, (.ixs (.t 66) (.c (.int .i64 4)) 1)⟩, ⟨(some 68), none, (.lde (.t 67) none)⟩, ⟨(some 69), none, (.slc (.t 65) (some (.t 68)) none none 1)⟩, ⟨(some 70), none, (.call 86 [(.t 69)])⟩, ⟨(some 64), none, (.mov (.t 70))⟩, ⟨(some 71), none, (.ext (.t 64) 0)⟩, ⟨(some 72), none, (.ext (.t 64) 1)⟩, ⟨(some 73), none, (.ext (.t 64) 2)⟩, ⟨(some 8), none, (.mov (.t 71))⟩, ⟨(some 9), none, (.mov (.t 72))⟩, ⟨(some 10), none, (.mov (.t 73))⟩]) (.seq (.ops [⟨(some 74), none, (.mov (.t 8))⟩, ⟨(some 75), none, (.fad (.t 6) 2)⟩, ⟨none, none, (.st (.t 75) 1 (.t 74))⟩]) (.seq (.seq (.ops [⟨(some 11), none, (.mov (.c (.int .i64 0)))⟩]) (.block 0 (.loop F_r12_Read_L0))) (.seq (.ops [⟨(some 122), none, (.ld (.t 6) (some 6))⟩, ⟨(some 123), none, (.call 25 [(.t 122)])⟩, ⟨(some 121), none, (.mov (.t 123))⟩, ⟨(some 124), none, (.ext (.t 121) 0)⟩, ⟨(some 125), none, (.ext (.t 121) 1)⟩, ⟨(some 17), none, (.mov (.t 124))⟩, ⟨(some 18), none, (.mov (.t 125))⟩]) (.seq (.seq (.ops [⟨(some 126), none, (.mov (.t 10))⟩, ⟨(some 127), none, (.un .not (.t 126))⟩, ⟨(some 128), none, (.mov (.t 127))⟩, ⟨(some 129), (some (128, false)), (.mov (.t 18))⟩, ⟨(some 130), (some (128, false)), (.bin .neq (.t 129) (.c (.int .i64 0)))⟩, ⟨(some 131), none, (.pick (.t 128) (.c (.bool true)) (.t 130))⟩, ⟨(some 132), none, (.mov (.t 131))⟩, ⟨(some 133), (some (132, false)), (.mov (.t 17))⟩, ⟨(some 134), (some (132, false)), (.b2s (.t 133))⟩, ⟨(some 135), (some (132, false)), (.mov (.t 0))⟩, ⟨(some 136), (some (132, false)), (.b2s (.t 135))⟩, ⟨(some 137), (some (132, false)), (.bin .neq (.t 134) (.t 136))⟩, ⟨(some 138), none, (.pick (.t 132) (.c (.bool true)) (.t 137))⟩]) (.cond (.t 138) (.seq (.ops [⟨(some 139), none, (.bld [(.val (.int .i64 0)), (.val (.int .i64 0)), (.lit 5 []), (.lit 3 []), (.val (.int .i64 0)), (.lit 1 [])] [])⟩, ⟨none, none, (.st (.t 2) 6 (.t 139))⟩, ⟨(some 3), none, (.mov (.c (.int .i64 120)))⟩]) .ret) .skip)) (.seq (.ops [⟨(some 140), none, (.ld (.t 6) (some 6))⟩, ⟨none, none, (.st (.t 2) 6 (.t 140))⟩, ⟨(some 3), none, (.mov (.c (.int .i64 0)))⟩]) .ret))))))))))))), 141, [(.cell 2 (some 6)), (.tmp 3)]⟩
theorem F_r12_Read_ok : compF Try.prog (fun d => !([116].contains d)) 29 = some F_r12_Read := by kernel_rfl
@[simp] abbrev n_r12_Records : FuncId := 27
def F_r12_Records_L0 : C := (.seq (.seq (.ops [⟨(some 26), none, (.mov (.t 9))⟩, ⟨(some 27), none, (.mov (.t 6))⟩, ⟨(some 28), none, (.len (.t 27))⟩, ⟨(some 29), none, (.bin .lss (.t 26) (.t 28))⟩]) (.cond (.t 29) .skip (.exit 0))) (.seq (.block 1 (.ops [⟨(some 32), none, (.mov (.t 8))⟩, ⟨(some 33), none, (.mov (.t 1))⟩, ⟨(some 34), none, (.mov (.t 8))⟩, ⟨(some 35), none, (.len (.t 34))⟩, ⟨(some 36), none, (.bin .add (.t 33) (.t 35))⟩, ⟨(some 37), none, (.mkl 5 1 [] true)⟩, ⟨(some 38), none, (.mov (.t 6))⟩, ⟨(some 39), none, (.mov (.t 9))⟩, ⟨(some 40), none, (.mov (.t 9))⟩, ⟨(some 41), none, (.bin .add (.t 40) (.c (.int .i64 4096)))⟩, ⟨(some 42), none, (.mov (.t 6))⟩, ⟨(some 43), none, (.len (.t 42))⟩, ⟨(some 44), none, (.mm false (.t 41) (.t 43))⟩, ⟨(some 45), none, (.slc (.t 38) (some (.t 39)) (some (.t 44)) none 1)⟩, ⟨(some 46), none, (.app (.t 37) (.t 45) 5 1 1 true)⟩, ⟨(some 47), none, (.bld [(.val (.int .i64 0)), (.val (.int .i64 0)), (.lit 1 [])] [(0, (1, (.c (.int .i64 2)))), (1, (1, (.t 36))), (2, (1, (.t 46)))])⟩, ⟨(some 48), none, (.mkl 36 3 [(.t 47)] false)⟩, ⟨(some 49), none, (.app (.t 32) (.t 48) 36 3 40 true)⟩, ⟨(some 8), none, (.mov (.t 49))⟩])) (.ops [⟨(some 30), none, (.mov (.t 9))⟩, ⟨(some 31), none, (.bin .add (.t 30) (.c (.int .i64 4096)))⟩, ⟨(some 9), none, (.mov (.t 31))⟩])))
def F_r12_Records : F := ⟨(.seq (.ops [⟨(some 2), none, (.box (.t 0))⟩, ⟨(some 4), none, (.nil 36 3 true)⟩, ⟨(some 5), none, (.mov (.c (.int .i64 0)))⟩]) (.seq (.ops [⟨(some 13), none, (.ld (.t 2) (some 6))⟩, ⟨(some 14), none, (.call 25 [(.t 13)])⟩, ⟨(some 12), none, (.mov (.t 14))⟩, ⟨(some 15), none, (.ext (.t 12) 0)⟩, ⟨(some 16), none, (.ext (.t 12) 1)⟩, ⟨(some 6), none, (.mov (.t 15))⟩, ⟨(some 7), none, (.mov (.t 16))⟩]) (.seq (.seq (.ops [⟨(some 17), none, (.mov (.t 7))⟩, ⟨(some 18), none, (.bin .neq (.t 17) (.c (.int .i64 0)))⟩]) (.cond (.t 18) (.seq (.ops [⟨(some 19), none, (.mov (.t 7))⟩, ⟨(some 4), none, (.nil 36 3 true)⟩, ⟨(some 5), none, (.mov (.t 19))⟩]) .ret) .skip)) (.seq (.seq (.ops [⟨(some 20), none, (.mov (.t 1))⟩, ⟨(some 21), none, (.bin .lss (.t 20) (.c (.int .i64 0)))⟩, ⟨(some 22), none, (.mov (.t 21))⟩, ⟨(some 23), (some (22, false)), (.mov (.t 1))⟩, ⟨(some 24), (some (22, false)), (.bin .gtr (.t 23) (.c (.int .i64 2305843009213693952)))⟩, ⟨(some 25), none, (.pick (.t 22) (.c (.bool true)) (.t 24))⟩]) (.cond (.t 25) (.seq (.ops [⟨(some 4), none, (.nil 36 3 true)⟩, ⟨(some 5), none, (.mov (.c (.int .i64 120)))⟩]) .ret) .skip)) (.seq (.ops [⟨(some 8), none, (.nil 36 3 true)⟩]) (.seq (.seq (.ops [⟨(some 9), none, (.mov (.c (.int .i64 0)))⟩]) (.block 0 (.loop F_r12_Records_L0))) (.seq (.ops [⟨(some 51), none, (.mov (.t 8))⟩, ⟨(some 52), none, (.len (.t 51))⟩, ⟨(some 53), none, (.conv .u64 (.t 52))⟩, ⟨(some 54), none, (.call 78 [(.c (.slice none 0 0)), (.t 53), (.c (.int .i64 2))])⟩, ⟨(some 50), none, (.mov (.t 54))⟩, ⟨(some 55), none, (.ext (.t 50) 0)⟩, ⟨(some 56), none, (.ext (.t 50) 1)⟩, ⟨(some 10), none, (.mov (.t 55))⟩, ⟨(some 11), none, (.mov (.t 56))⟩]) (.seq (.ops [⟨(some 57), none, (.mov (.t 8))⟩, ⟨(some 58), none, (.mov (.t 1))⟩, ⟨(some 59), none, (.mov (.t 8))⟩, ⟨(some 60), none, (.len (.t 59))⟩, ⟨(some 61), none, (.bin .add (.t 58) (.t 60))⟩, ⟨(some 62), none, (.mov (.t 10))⟩, ⟨(some 63), none, (.bld [(.val (.int .i64 0)), (.val (.int .i64 0)), (.lit 1 [])] [(0, (1, (.c (.int .i64 3)))), (1, (1, (.t 61))), (2, (1, (.t 62)))])⟩, ⟨(some 64), none, (.mkl 36 3 [(.t 63)] false)⟩, ⟨(some 65), none, (.app (.t 57) (.t 64) 36 3 40 true)⟩, ⟨(some 4), none, (.mov (.t 65))⟩, ⟨(some 5), none, (.mov (.c (.int .i64 0)))⟩]) .ret)))))))), 66, [(.tmp 4), (.tmp 5)]⟩
theorem F_r12_Records_ok : compF Try.prog (fun d => !([48, 64].contains d)) 27 = some F_r12_Records := by kernel_rfl
@[simp] abbrev n_r12_at : FuncId := 137
def F_r12_at_L0 : C := (.seq (.seq (.ops [⟨(some 6), none, (.mov (.t 5))⟩, ⟨(some 7), none, (.mov (.t 0))⟩, ⟨(some 8), none, (.len (.t 7))⟩, ⟨(some 9), none, (.bin .lss (.t 6) (.t 8))⟩]) (.cond (.t 9) .skip (.exit 0))) (.seq (.block 1 (.seq (.ops [⟨(some 12), none, (.mov (.t 0))⟩, ⟨(some 13), none, (.mov (.t 5))⟩, ⟨(some 14), none, (.ixs (.t 12) (.t 13) 5)⟩, ⟨(some 15), none, (.fad (.t 14) 0)⟩, ⟨(some 16), none, (.fad (.t 15) 1)⟩, ⟨(some 17), none, (.lde (.t 16) none)⟩, ⟨(some 18), none, (.mov (.t 1))⟩, ⟨(some 19), none, (.bin .eql (.t 17) (.t 18))⟩]) (.cond (.t 19) (.seq (.ops [⟨(some 20), none, (.mov (.t 5))⟩, ⟨(some 4), none, (.mov (.t 20))⟩]) .ret) .skip))) (.ops [⟨(some 10), none, (.mov (.t 5))⟩, ⟨(some 11), none, (.bin .add (.t 10) (.c (.int .i64 1)))⟩, ⟨(some 5), none, (.mov (.t 11))⟩])))
def F_r12_at : F := ⟨(.seq (.ops [⟨(some 4), none, (.mov (.c (.int .i64 0)))⟩]) (.seq (.seq (.ops [⟨(some 5), none, (.mov (.c (.int .i64 0)))⟩]) (.block 0 (.loop F_r12_at_L0))) (.seq (.ops [⟨(some 4), none, (.mov (.c (.int .i64 (-1))))⟩]) .ret))), 21, [(.tmp 4)]⟩
theorem F_r12_at_ok : compF Try.prog (fun _ => true) 137 = some F_r12_at := by kernel_rfl
@[simp] abbrev n_r12_whole : FuncId := 91
def F_r12_whole_L0 : C := (.seq (.seq (.ops [⟨(some 44), none, (.mov (.t 12))⟩, ⟨(some 45), none, (.fad (.t 3) 1)⟩, ⟨(some 46), none, (.ld (.t 45) none)⟩, ⟨(some 47), none, (.bin .lss (.t 44) (.t 46))⟩]) (.cond (.t 47) .skip (.exit 0))) (.seq (.block 1 (.seq (.ops [⟨(some 50), none, (.mov (.t 0))⟩, ⟨(some 51), none, (.mov (.t 12))⟩, ⟨(some 52), none, (.call 137 [(.t 50), (.t 51)])⟩, ⟨(some 13), none, (.mov (.t 52))⟩]) (.seq (.seq (.ops [⟨(some 53), none, (.mov (.t 13))⟩, ⟨(some 54), none, (.bin .lss (.t 53) (.c (.int .i64 0)))⟩, ⟨(some 55), none, (.mov (.t 54))⟩, ⟨(some 56), (some (55, false)), (.mov (.t 0))⟩, ⟨(some 57), (some (55, false)), (.mov (.t 13))⟩, ⟨(some 58), (some (55, false)), (.ixs (.t 56) (.t 57) 5)⟩, ⟨(some 59), (some (55, false)), (.fad (.t 58) 0)⟩, ⟨(some 60), (some (55, false)), (.fad (.t 59) 0)⟩, ⟨(some 61), (some (55, false)), (.lde (.t 60) none)⟩, ⟨(some 62), (some (55, false)), (.bin .neq (.t 61) (.c (.int .i64 2)))⟩, ⟨(some 63), none, (.pick (.t 55) (.c (.bool true)) (.t 62))⟩]) (.cond (.t 63) (.seq (.ops [⟨(some 64), none, (.bld [(.val (.int .i64 0)), (.val (.int .i64 0)), (.lit 5 []), (.lit 3 []), (.val (.int .i64 0)), (.lit 1 [])] [])⟩, ⟨none, none, (.st (.t 4) 6 (.t 64))⟩, ⟨(some 5), none, (.mov (.c (.int .i64 0)))⟩, ⟨(some 6), none, (.mov (.c (.bool false)))⟩]) .ret) .skip)) (.ops [⟨(some 65), none, (.mov (.t 11))⟩, ⟨(some 66), none, (.mov (.t 0))⟩, ⟨(some 67), none, (.mov (.t 13))⟩, ⟨(some 68), none, (.ixs (.t 66) (.t 67) 5)⟩, ⟨(some 69), none, (.fad (.t 68) 0)⟩, ⟨(some 70), none, (.fad (.t 69) 2)⟩, ⟨(some 71), none, (.lde (.t 70) none)⟩, ⟨(some 72), none, (.app (.t 65) (.t 71) 5 1 1 true)⟩, ⟨(some 11), none, (.mov (.t 72))⟩])))) (.ops [⟨(some 48), none, (.mov (.t 12))⟩, ⟨(some 49), none, (.bin .add (.t 48) (.c (.int .i64 1)))⟩, ⟨(some 12), none, (.mov (.t 49))⟩])))
def F_r12_whole : F := ⟨(.seq (.ops [⟨(some 3), none, (.box (.t 1))⟩, ⟨(some 4), none, (.alc [(.val (.int .i64 0)), (.val (.int .i64 0)), (.lit 5 []), (.lit 3 []), (.val (.int .i64 0)), (.lit 1 [])])⟩, ⟨(some 5), none, (.mov (.c (.int .i64 0)))⟩, ⟨(some 6), none, (.mov (.c (.bool false)))⟩]) (.seq (.ops [⟨(some 17), none, (.fad (.t 3) 2)⟩, ⟨(some 18), none, (.ld (.t 17) none)⟩, ⟨(some 19), none, (.call 133 [(.t 18), (.c (.int .i64 2))])⟩, ⟨(some 16), none, (.mov (.t 19))⟩, ⟨(some 20), none, (.ext (.t 16) 0)⟩, ⟨(some 21), none, (.ext (.t 16) 1)⟩, ⟨(some 22), none, (.ext (.t 16) 2)⟩, ⟨(some 7), none, (.mov (.t 20))⟩, ⟨(some 8), none, (.mov (.t 21))⟩, ⟨(some 9), none, (.mov (.t 22))⟩]) (.seq (.seq (.ops [⟨(some 23), none, (.mov (.t 9))⟩, ⟨(some 24), none, (.bin .neq (.t 23) (.c (.int .i64 0)))⟩, ⟨(some 25), none, (.mov (.t 24))⟩, ⟨(some 26), (some (25, false)), (.mov (.t 8))⟩, ⟨(some 27), (some (25, false)), (.len (.t 26))⟩, ⟨(some 28), (some (25, false)), (.bin .gtr (.t 27) (.c (.int .i64 0)))⟩, ⟨(some 29), none, (.pick (.t 25) (.c (.bool true)) (.t 28))⟩, ⟨(some 30), none, (.mov (.t 29))⟩, ⟨(some 31), (some (30, false)), (.mov (.t 7))⟩, ⟨(some 32), (some (30, false)), (.conv .i64 (.t 31))⟩, ⟨(some 33), (some (30, false)), (.fad (.t 3) 1)⟩, ⟨(some 34), (some (30, false)), (.ld (.t 33) none)⟩, ⟨(some 35), (some (30, false)), (.bin .gtr (.t 32) (.t 34))⟩, ⟨(some 36), none, (.pick (.t 30) (.c (.bool true)) (.t 35))⟩]) (.cond (.t 36) (.seq (.ops [⟨(some 37), none, (.bld [(.val (.int .i64 0)), (.val (.int .i64 0)), (.lit 5 []), (.lit 3 []), (.val (.int .i64 0)), (.lit 1 [])] [])⟩, ⟨none, none, (.st (.t 4) 6 (.t 37))⟩, ⟨(some 5), none, (.mov (.c (.int .i64 0)))⟩, ⟨(some 6), none, (.mov (.c (.bool false)))⟩]) .ret) .skip)) (.seq (.ops [⟨(some 38), none, (.fad (.t 3) 1)⟩, ⟨(some 39), none, (.ld (.t 38) none)⟩, ⟨(some 40), none, (.mov (.t 7))⟩, ⟨(some 41), none, (.conv .i64 (.t 40))⟩, ⟨(some 42), none, (.bin .sub (.t 39) (.t 41))⟩, ⟨(some 10), none, (.mov (.t 42))⟩]) (.seq (.ops [⟨(some 11), none, (.nil 5 1 true)⟩]) (.seq (.seq (.ops [⟨(some 43), none, (.mov (.t 10))⟩, ⟨(some 12), none, (.mov (.t 43))⟩]) (.block 0 (.loop F_r12_whole_L0))) (.seq (.ops [⟨(some 74), none, (.mov (.t 11))⟩, ⟨(some 75), none, (.call 29 [(.t 74)])⟩, ⟨(some 73), none, (.mov (.t 75))⟩, ⟨(some 76), none, (.ext (.t 73) 0)⟩, ⟨(some 77), none, (.ext (.t 73) 1)⟩, ⟨(some 14), none, (.alc [(.val (.int .i64 0)), (.val (.int .i64 0)), (.lit 5 []), (.lit 3 []), (.val (.int .i64 0)), (.lit 1 [])])⟩, ⟨none, none, (.st (.t 14) 6 (.t 76))⟩, ⟨(some 15), none, (.mov (.t 77))⟩]) (.seq (.ops [⟨(some 78), none, (.ld (.t 14) (some 6))⟩, ⟨(some 79), none, (.mov (.t 10))⟩, ⟨(some 80), none, (.mov (.t 15))⟩, ⟨(some 81), none, (.bin .eql (.t 80) (.c (.int .i64 0)))⟩, ⟨none, none, (.st (.t 4) 6 (.t 78))⟩, ⟨(some 5), none, (.mov (.t 79))⟩, ⟨(some 6), none, (.mov (.t 81))⟩]) .ret)))))))), 82, [(.cell 4 (some 6)), (.tmp 5), (.tmp 6)]⟩
theorem F_r12_whole_ok : compF Try.prog (fun _ => true) 91 = some F_r12_whole := by kernel_rfl
@[simp] abbrev n_r12_Found : FuncId := 33
def F_r12_Found_L0 : C := (.seq (.seq (.ops [⟨(some 13), none, (.mov (.t 6))⟩, ⟨(some 14), none, (.bin .geq (.t 13) (.c (.int .i64 0)))⟩]) (.cond (.t 14) .skip (.exit 0))) (.seq (.block 1 (.seq (.seq (.ops [⟨(some 17), none, (.mov (.t 0))⟩, ⟨(some 18), none, (.mov (.t 6))⟩, ⟨(some 19), none, (.ixs (.t 17) (.t 18) 5)⟩, ⟨(some 20), none, (.fad (.t 19) 0)⟩, ⟨(some 21), none, (.fad (.t 20) 0)⟩, ⟨(some 22), none, (.lde (.t 21) none)⟩, ⟨(some 23), none, (.bin .neq (.t 22) (.c (.int .i64 3)))⟩]) (.cond (.t 23) (.exit 1) .skip)) (.seq (.ops [⟨(some 25), none, (.mov (.t 0))⟩, ⟨(some 26), none, (.mov (.t 0))⟩, ⟨(some 27), none, (.mov (.t 6))⟩, ⟨(some 28), none, (.ixs (.t 26) (.t 27) 5)⟩, ⟨(some 29), none, (.fad (.t 28) 0)⟩, ⟨(some 30), none, (.lde (.t 29) (some 3))⟩, ⟨(some 31), none, (.call 91 [(.t 25), (.t 30)])⟩, ⟨(some 24), none, (.mov (.t 31))⟩, ⟨(some 32), none, (.ext (.t 24) 0)⟩, ⟨(some 33), none, (.ext (.t 24) 1)⟩, ⟨(some 34), none, (.ext (.t 24) 2)⟩, ⟨(some 7), none, (.alc [(.val (.int .i64 0)), (.val (.int .i64 0)), (.lit 5 []), (.lit 3 []), (.val (.int .i64 0)), (.lit 1 [])])⟩, ⟨none, none, (.st (.t 7) 6 (.t 32))⟩, ⟨(some 8), none, (.mov (.t 33))⟩, ⟨(some 9), none, (.mov (.t 34))⟩]) (.seq (.ops [⟨(some 35), none, (.mov (.t 9))⟩]) (.cond (.t 35) (.seq (.dops false [] [⟨(some 36), none, (.ld (.t 7) (some 6))⟩, ⟨(some 37), none, (.mov (.t 8))⟩, ⟨(some 38), none, (.mov (.t 0))⟩, ⟨(some 39), none, (.mov (.t 6))⟩, ⟨(some 40), none, (.ixs (.t 38) (.t 39) 5)⟩, ⟨(some 41), none, (.fad (.t 40) 0)⟩, ⟨(some 42), none, (.fad (.t 41) 1)⟩, ⟨(some 43), none, (.lde (.t 42) none)⟩, ⟨none, none, (.st (.t 2) 6 (.t 36))⟩, ⟨(some 3), none, (.mov (.t 37))⟩, ⟨(some 4), none, (.mov (.t 43))⟩, ⟨(some 5), none, (.mov (.c (.int .i64 0)))⟩]) .ret) .skip))))) (.ops [⟨(some 15), none, (.mov (.t 6))⟩, ⟨(some 16), none, (.bin .sub (.t 15) (.c (.int .i64 1)))⟩, ⟨(some 6), none, (.mov (.t 16))⟩])))
def F_r12_Found : F := ⟨(.seq (.ops [⟨(some 2), none, (.alc [(.val (.int .i64 0)), (.val (.int .i64 0)), (.lit 5 []), (.lit 3 []), (.val (.int .i64 0)), (.lit 1 [])])⟩, ⟨(some 3), none, (.mov (.c (.int .i64 0)))⟩, ⟨(some 4), none, (.mov (.c (.int .i64 0)))⟩, ⟨(some 5), none, (.mov (.c (.int .i64 0)))⟩]) (.seq (.seq (.ops [⟨(some 10), none, (.mov (.t 0))⟩, ⟨(some 11), none, (.len (.t 10))⟩, ⟨(some 12), none, (.bin .sub (.t 11) (.c (.int .i64 1)))⟩, ⟨(some 6), none, (.mov (.t 12))⟩]) (.block 0 (.loop F_r12_Found_L0))) (.seq (.ops [⟨(some 44), none, (.bld [(.val (.int .i64 0)), (.val (.int .i64 0)), (.lit 5 []), (.lit 3 []), (.val (.int .i64 0)), (.lit 1 [])] [])⟩, ⟨none, none, (.st (.t 2) 6 (.t 44))⟩, ⟨(some 3), none, (.mov (.c (.int .i64 0)))⟩, ⟨(some 4), none, (.mov (.c (.int .i64 0)))⟩, ⟨(some 5), none, (.mov (.c (.int .i64 120)))⟩]) .ret))), 45, [(.cell 2 (some 6)), (.tmp 3), (.tmp 4), (.tmp 5)]⟩
theorem F_r12_Found_ok : compF Try.prog (fun _ => true) 33 = some F_r12_Found := by kernel_rfl
@[simp] abbrev n_w12_awake : FuncId := 22
def F_w12_awake : F := ⟨(.seq (.ops [⟨(some 0), none, (.mov (.c (.bool false)))⟩]) (.seq (.ops [⟨(some 23), none, (.call 64 [(.c (.int .i64 8))])⟩, ⟨(some 22), none, (.mov (.t 23))⟩, ⟨(some 24), none, (.ext (.t 22) 0)⟩, ⟨(some 25), none, (.ext (.t 22) 1)⟩, ⟨(some 1), none, (.alc [(.val (.int .i64 0)), (.val (.int .i64 0)), (.lit 5 []), (.lit 3 []), (.val (.int .i64 0)), (.lit 1 [])])⟩, ⟨none, none, (.st (.t 1) 6 (.t 24))⟩, ⟨(some 2), none, (.mov (.t 25))⟩]) (.seq (.ops [⟨(some 27), none, (.ld (.t 1) (some 6))⟩, ⟨(some 28), none, (.call 24 [(.t 27)])⟩, ⟨(some 26), none, (.mov (.t 28))⟩, ⟨(some 29), none, (.ext (.t 26) 0)⟩, ⟨(some 30), none, (.ext (.t 26) 1)⟩, ⟨(some 3), none, (.mov (.t 29))⟩, ⟨(some 4), none, (.mov (.t 30))⟩]) (.seq (.ops [⟨(some 32), none, (.mov (.t 3))⟩, ⟨(some 33), none, (.call 28 [(.t 32)])⟩, ⟨(some 31), none, (.mov (.t 33))⟩, ⟨(some 34), none, (.ext (.t 31) 0)⟩, ⟨(some 35), none, (.ext (.t 31) 1)⟩, ⟨(some 5), none, (.alc [(.val (.int .i64 0)), (.val (.int .i64 0)), (.lit 5 []), (.lit 3 []), (.val (.int .i64 0)), (.lit 1 [])])⟩, ⟨none, none, (.st (.t 5) 6 (.t 34))⟩, ⟨(some 6), none, (.mov (.t 35))⟩]) (.seq (.ops [⟨(some 37), none, (.ld (.t 1) (some 6))⟩, ⟨(some 38), none, (.call 26 [(.t 37), (.c (.int .i64 5))])⟩, ⟨(some 36), none, (.mov (.t 38))⟩, ⟨(some 39), none, (.ext (.t 36) 0)⟩, ⟨(some 40), none, (.ext (.t 36) 1)⟩, ⟨(some 7), none, (.mov (.t 39))⟩, ⟨(some 8), none, (.mov (.t 40))⟩]) (.seq (.ops [⟨(some 42), none, (.mov (.t 7))⟩, ⟨(some 43), none, (.call 35 [(.t 42)])⟩, ⟨(some 44), none, (.call 32 [(.t 43)])⟩, ⟨(some 41), none, (.mov (.t 44))⟩, ⟨(some 45), none, (.ext (.t 41) 0)⟩, ⟨(some 46), none, (.ext (.t 41) 1)⟩, ⟨(some 47), none, (.ext (.t 41) 2)⟩, ⟨(some 48), none, (.ext (.t 41) 3)⟩, ⟨(some 9), none, (.alc [(.val (.int .i64 0)), (.val (.int .i64 0)), (.lit 5 []), (.lit 3 []), (.val (.int .i64 0)), (.lit 1 [])])⟩, ⟨none, none, (.st (.t 9) 6 (.t 45))⟩, ⟨(some 10), none, (.mov (.t 46))⟩, ⟨(some 11), none, (.mov (.t 47))⟩, ⟨(some 12), none, (.mov (.t 48))⟩]) (.seq (.ops [⟨(some 50), none, (.call 32 [(.c (.slice none 0 0))])⟩, ⟨(some 49), none, (.mov (.t 50))⟩, ⟨(some 51), none, (.ext (.t 49) 0)⟩, ⟨(some 52), none, (.ext (.t 49) 1)⟩, ⟨(some 53), none, (.ext (.t 49) 2)⟩, ⟨(some 54), none, (.ext (.t 49) 3)⟩, ⟨(some 13), none, (.alc [(.val (.int .i64 0)), (.val (.int .i64 0)), (.lit 5 []), (.lit 3 []), (.val (.int .i64 0)), (.lit 1 [])])⟩, ⟨none, none, (.st (.t 13) 6 (.t 51))⟩, ⟨(some 14), none, (.mov (.t 52))⟩, ⟨(some 15), none, (.mov (.t 53))⟩, ⟨(some 16), none, (.mov (.t 54))⟩]) (.seq (.ops [⟨(some 56), none, (.bld [(.val (.int .i64 0)), (.val (.int .i64 0)), (.lit 5 []), (.lit 3 []), (.val (.int .i64 0)), (.lit 1 [])] [])⟩, ⟨(some 57), none, (.call 24 [(.t 56)])⟩, ⟨(some 55), none, (.mov (.t 57))⟩, ⟨(some 58), none, (.ext (.t 55) 0)⟩, ⟨(some 59), none, (.ext (.t 55) 1)⟩, ⟨(some 17), none, (.mov (.t 58))⟩, ⟨(some 18), none, (.mov (.t 59))⟩]) (.seq (.ops [⟨(some 61), none, (.call 28 [(.c (.slice none 0 0))])⟩, ⟨(some 60), none, (.mov (.t 61))⟩, ⟨(some 62), none, (.ext (.t 60) 0)⟩, ⟨(some 63), none, (.ext (.t 60) 1)⟩, ⟨(some 19), none, (.alc [(.val (.int .i64 0)), (.val (.int .i64 0)), (.lit 5 []), (.lit 3 []), (.val (.int .i64 0)), (.lit 1 [])])⟩, ⟨none, none, (.st (.t 19) 6 (.t 62))⟩, ⟨(some 20), none, (.mov (.t 63))⟩]) (.seq (.seq (.ops [⟨(some 64), none, (.mov (.t 7))⟩, ⟨(some 65), none, (.len (.t 64))⟩, ⟨(some 66), none, (.bin .neq (.t 65) (.c (.int .i64 2)))⟩]) (.cond (.t 66) (.seq (.ops [⟨(some 0), none, (.mov (.c (.bool false)))⟩]) .ret) .skip)) (.seq (.ops [⟨(some 67), none, (.ld (.t 1) (some 6))⟩, ⟨(some 68), none, (.ld (.t 5) (some 6))⟩, ⟨(some 69), none, (.call 31 [(.t 67), (.t 68)])⟩, ⟨(some 70), none, (.mov (.t 69))⟩, ⟨(some 71), (some (70, true)), (.ld (.t 1) (some 6))⟩, ⟨(some 72), (some (70, true)), (.ld (.t 9) (some 6))⟩, ⟨(some 73), (some (70, true)), (.call 31 [(.t 71), (.t 72)])⟩, ⟨(some 74), none, (.pick (.t 70) (.t 73) (.c (.bool false)))⟩, ⟨(some 21), none, (.mov (.t 74))⟩]) (.seq (.ops [⟨(some 75), none, (.mov (.t 4))⟩, ⟨(some 76), none, (.bin .eql (.t 75) (.c (.int .i64 0)))⟩, ⟨(some 77), none, (.mov (.t 76))⟩, ⟨(some 78), (some (77, true)), (.mov (.t 6))⟩, ⟨(some 79), (some (77, true)), (.bin .eql (.t 78) (.c (.int .i64 0)))⟩, ⟨(some 80), none, (.pick (.t 77) (.t 79) (.c (.bool false)))⟩, ⟨(some 81), none, (.mov (.t 80))⟩, ⟨(some 82), (some (81, true)), (.mov (.t 21))⟩, ⟨(some 83), none, (.pick (.t 81) (.t 82) (.c (.bool false)))⟩, ⟨(some 84), none, (.mov (.t 83))⟩, ⟨(some 85), (some (84, true)), (.mov (.t 8))⟩, ⟨(some 86), (some (84, true)), (.bin .eql (.t 85) (.c (.int .i64 0)))⟩, ⟨(some 87), none, (.pick (.t 84) (.t 86) (.c (.bool false)))⟩, ⟨(some 88), none, (.mov (.t 87))⟩, ⟨(some 89), (some (88, true)), (.mov (.t 7))⟩, ⟨(some 90), (some (88, true)), (.ixs (.t 89) (.c (.int .i64 0)) 3)⟩, ⟨(some 91), (some (88, true)), (.fad (.t 90) 0)⟩, ⟨(some 92), (some (88, true)), (.lde (.t 91) none)⟩, ⟨(some 93), (some (88, true)), (.bin .eql (.t 92) (.c (.int .i64 2)))⟩, ⟨(some 94), none, (.pick (.t 88) (.t 93) (.c (.bool false)))⟩, ⟨(some 95), none, (.mov (.t 94))⟩, ⟨(some 96), (some (95, true)), (.mov (.t 7))⟩, ⟨(some 97), (some (95, true)), (.ixs (.t 96) (.c (.int .i64 1)) 3)⟩, ⟨(some 98), (some (95, true)), (.fad (.t 97) 0)⟩, ⟨(some 99), (some (95, true)), (.lde (.t 98) none)⟩, ⟨(some 100), (some (95, true)), (.bin .eql (.t 99) (.c (.int .i64 3)))⟩, ⟨(some 101), none, (.pick (.t 95) (.t 100) (.c (.bool false)))⟩, ⟨(some 102), none, (.mov (.t 101))⟩, ⟨(some 103), (some (102, true)), (.mov (.t 7))⟩, ⟨(some 104), (some (102, true)), (.ixs (.t 103) (.c (.int .i64 1)) 3)⟩, ⟨(some 105), (some (102, true)), (.fad (.t 104) 1)⟩, ⟨(some 106), (some (102, true)), (.lde (.t 105) none)⟩, ⟨(some 107), (some (102, true)), (.bin .eql (.t 106) (.c (.int .i64 6)))⟩, ⟨(some 108), none, (.pick (.t 102) (.t 107) (.c (.bool false)))⟩, ⟨(some 109), none, (.mov (.t 108))⟩, ⟨(some 110), (some (109, true)), (.mov (.t 10))⟩, ⟨(some 111), (some (109, true)), (.bin .eql (.t 110) (.c (.int .i64 5)))⟩, ⟨(some 112), none, (.pick (.t 109) (.t 111) (.c (.bool false)))⟩, ⟨(some 113), none, (.mov (.t 112))⟩, ⟨(some 114), (some (113, true)), (.mov (.t 11))⟩, ⟨(some 115), (some (113, true)), (.bin .eql (.t 114) (.c (.int .i64 6)))⟩, ⟨(some 116), none, (.pick (.t 113) (.t 115) (.c (.bool false)))⟩, ⟨(some 117), none, (.mov (.t 116))⟩, ⟨(some 118), (some (117, true)), (.mov (.t 12))⟩, ⟨(some 119), (some (117, true)), (.bin .eql (.t 118) (.c (.int .i64 0)))⟩, ⟨(some 120), none, (.pick (.t 117) (.t 119) (.c (.bool false)))⟩, ⟨(some 121), none, (.mov (.t 120))⟩, ⟨(some 122), (some (121, true)), (.mov (.t 16))⟩, ⟨(some 123), (some (121, true)), (.bin .eql (.t 122) (.c (.int .i64 120)))⟩, ⟨(some 124), none, (.pick (.t 121) (.t 123) (.c (.bool false)))⟩, ⟨(some 125), none, (.mov (.t 124))⟩, ⟨(some 126), (some (125, true)), (.mov (.t 18))⟩, ⟨(some 127), (some (125, true)), (.bin .eql (.t 126) (.c (.int .i64 110)))⟩, ⟨(some 128), none, (.pick (.t 125) (.t 127) (.c (.bool false)))⟩, ⟨(some 129), none, (.mov (.t 128))⟩, ⟨(some 130), (some (129, true)), (.mov (.t 20))⟩, ⟨(some 131), (some (129, true)), (.bin .eql (.t 130) (.c (.int .i64 120)))⟩, ⟨(some 132), none, (.pick (.t 129) (.t 131) (.c (.bool false)))⟩, ⟨(some 133), none, (.mov (.t 132))⟩, ⟨(some 134), none, (.pick (.t 133) (.c (.bool true)) (.c (.bool false)))⟩, ⟨(some 0), none, (.mov (.t 134))⟩]) .ret)))))))))))), 135, [(.tmp 0)]⟩
theorem F_w12_awake_ok : compF Try.prog (fun _ => true) 22 = some F_w12_awake := by kernel_rfl
@[simp] abbrev n_w12_found : FuncId := 35
def F_w12_found_L0 : C := (.seq (.seq (.ops [⟨(some 5), none, (.mov (.t 4))⟩, ⟨(some 6), none, (.mov (.t 0))⟩, ⟨(some 7), none, (.len (.t 6))⟩, ⟨(some 8), none, (.bin .lss (.t 5) (.t 7))⟩]) (.cond (.t 8) .skip (.exit 0))) (.seq (.block 1 (.ops [⟨(some 11), none, (.mov (.t 3))⟩, ⟨(some 12), none, (.mov (.t 0))⟩, ⟨(some 13), none, (.mov (.t 4))⟩, ⟨(some 14), none, (.ixs (.t 12) (.t 13) 3)⟩, ⟨(some 15), none, (.lde (.t 14) (some 3))⟩, ⟨(some 16), none, (.bld [(.val (.int .i64 0)), (.val (.int .i64 0)), (.lit 1 []), (.val (.int .i64 0)), (.val (.int .i64 0))] [(0, (3, (.t 15)))])⟩, ⟨(some 17), none, (.mkl 57 5 [(.t 16)] false)⟩, ⟨(some 18), none, (.app (.t 11) (.t 17) 57 5 56 true)⟩, ⟨(some 3), none, (.mov (.t 18))⟩])) (.ops [⟨(some 9), none, (.mov (.t 4))⟩, ⟨(some 10), none, (.bin .add (.t 9) (.c (.int .i64 1)))⟩, ⟨(some 4), none, (.mov (.t 10))⟩])))
def F_w12_found : F := ⟨(.seq (.ops [⟨(some 2), none, (.nil 57 5 true)⟩]) (.seq (.ops [⟨(some 3), none, (.nil 57 5 true)⟩]) (.seq (.seq (.ops [⟨(some 4), none, (.mov (.c (.int .i64 0)))⟩]) (.block 0 (.loop F_w12_found_L0))) (.seq (.ops [⟨(some 19), none, (.mov (.t 3))⟩, ⟨(some 2), none, (.mov (.t 19))⟩]) .ret)))), 20, [(.tmp 2)]⟩
theorem F_w12_found_ok : compF Try.prog (fun d => !([17].contains d)) 35 = some F_w12_found := by kernel_rfl
@[simp] abbrev n_w11_Few : FuncId := 23
def F_w11_Few_L0 : C := (.seq (.seq (.ops [⟨(some 20), none, (.mov (.t 3))⟩, ⟨(some 21), none, (.fad (.t 1) 3)⟩, ⟨(some 22), none, (.ld (.t 21) none)⟩, ⟨(some 23), none, (.len (.t 22))⟩, ⟨(some 24), none, (.bin .lss (.t 20) (.t 23))⟩]) (.cond (.t 24) .skip (.exit 0))) (.seq (.block 1 (.seq (.ops [⟨(some 27), none, (.fad (.t 1) 3)⟩, ⟨(some 28), none, (.ld (.t 27) none)⟩, ⟨(some 29), none, (.mov (.t 3))⟩, ⟨(some 30), none, (.ixs (.t 28) (.t 29) 3)⟩, ⟨(some 31), none, (.fad (.t 30) 2)⟩, ⟨(some 32), none, (.lde (.t 31) none)⟩, ⟨(some 33), none, (.call 65 [(.t 32)])⟩, ⟨(some 34), none, (.un .not (.t 33))⟩]) (.cond (.t 34) (.seq (.ops [⟨(some 2), none, (.mov (.c (.bool false)))⟩]) .ret) .skip))) (.ops [⟨(some 25), none, (.mov (.t 3))⟩, ⟨(some 26), none, (.bin .add (.t 25) (.c (.int .i64 1)))⟩, ⟨(some 3), none, (.mov (.t 26))⟩])))
def F_w11_Few : F := ⟨(.seq (.ops [⟨(some 1), none, (.box (.t 0))⟩, ⟨(some 2), none, (.mov (.c (.bool false)))⟩]) (.seq (.seq (.ops [⟨(some 4), none, (.fad (.t 1) 3)⟩, ⟨(some 5), none, (.ld (.t 4) none)⟩, ⟨(some 6), none, (.len (.t 5))⟩, ⟨(some 7), none, (.bin .gtr (.t 6) (.c (.int .i64 10)))⟩, ⟨(some 8), none, (.mov (.t 7))⟩, ⟨(some 9), (some (8, false)), (.fad (.t 1) 5)⟩, ⟨(some 10), (some (8, false)), (.ld (.t 9) none)⟩, ⟨(some 11), (some (8, false)), (.len (.t 10))⟩, ⟨(some 12), (some (8, false)), (.bin .gtr (.t 11) (.c (.int .i64 6000)))⟩, ⟨(some 13), none, (.pick (.t 8) (.c (.bool true)) (.t 12))⟩, ⟨(some 14), none, (.mov (.t 13))⟩, ⟨(some 15), (some (14, false)), (.fad (.t 1) 2)⟩, ⟨(some 16), (some (14, false)), (.ld (.t 15) none)⟩, ⟨(some 17), (some (14, false)), (.call 65 [(.t 16)])⟩, ⟨(some 18), (some (14, false)), (.un .not (.t 17))⟩, ⟨(some 19), none, (.pick (.t 14) (.c (.bool true)) (.t 18))⟩]) (.cond (.t 19) (.seq (.ops [⟨(some 2), none, (.mov (.c (.bool false)))⟩]) .ret) .skip)) (.seq (.seq (.ops [⟨(some 3), none, (.mov (.c (.int .i64 0)))⟩]) (.block 0 (.loop F_w11_Few_L0))) (.seq (.ops [⟨(some 2), none, (.mov (.c (.bool true)))⟩]) .ret)))), 35, [(.tmp 2)]⟩
theorem F_w11_Few_ok : compF Try.prog (fun _ => true) 23 = some F_w11_Few := by kernel_rfl
@[simp] abbrev n_w10_Few : FuncId := 36
def F_w10_Few : F := ⟨(.seq (.ops [⟨(some 1), none, (.box (.t 0))⟩, ⟨(some 2), none, (.mov (.c (.bool false)))⟩]) (.seq (.ops [⟨(some 3), none, (.fad (.t 1) 4)⟩, ⟨(some 4), none, (.ld (.t 3) none)⟩, ⟨(some 5), none, (.len (.t 4))⟩, ⟨(some 6), none, (.bin .leq (.t 5) (.c (.int .i64 5000)))⟩, ⟨(some 7), none, (.mov (.t 6))⟩, ⟨(some 8), (some (7, true)), (.fad (.t 1) 5)⟩, ⟨(some 9), (some (7, true)), (.ld (.t 8) none)⟩, ⟨(some 10), (some (7, true)), (.call 65 [(.t 9)])⟩, ⟨(some 11), none, (.pick (.t 7) (.t 10) (.c (.bool false)))⟩, ⟨(some 2), none, (.mov (.t 11))⟩]) .ret)), 12, [(.tmp 2)]⟩
theorem F_w10_Few_ok : compF Try.prog (fun _ => true) 36 = some F_w10_Few := by kernel_rfl
@[simp] abbrev n_w07_Few : FuncId := 65
def F_w07_Few_L0 : C := (.seq (.seq (.ops [⟨(some 7), none, (.mov (.t 3))⟩, ⟨(some 8), none, (.mov (.t 0))⟩, ⟨(some 9), none, (.len (.t 8))⟩, ⟨(some 10), none, (.bin .lss (.t 7) (.t 9))⟩]) (.cond (.t 10) .skip (.exit 0))) (.seq (.block 1 (.seq (.ops [⟨(some 13), none, (.mov (.t 0))⟩, ⟨(some 14), none, (.mov (.t 3))⟩, ⟨(some 15), none, (.ixs (.t 13) (.t 14) 5)⟩, ⟨(some 16), none, (.fad (.t 15) 4)⟩, ⟨(some 17), none, (.lde (.t 16) none)⟩, ⟨(some 18), none, (.len (.t 17))⟩, ⟨(some 19), none, (.bin .gtr (.t 18) (.c (.int .i64 3000)))⟩]) (.cond (.t 19) (.seq (.ops [⟨(some 2), none, (.mov (.c (.bool false)))⟩]) .ret) .skip))) (.ops [⟨(some 11), none, (.mov (.t 3))⟩, ⟨(some 12), none, (.bin .add (.t 11) (.c (.int .i64 1)))⟩, ⟨(some 3), none, (.mov (.t 12))⟩])))
def F_w07_Few : F := ⟨(.seq (.ops [⟨(some 2), none, (.mov (.c (.bool false)))⟩]) (.seq (.seq (.ops [⟨(some 4), none, (.mov (.t 0))⟩, ⟨(some 5), none, (.len (.t 4))⟩, ⟨(some 6), none, (.bin .gtr (.t 5) (.c (.int .i64 70)))⟩]) (.cond (.t 6) (.seq (.ops [⟨(some 2), none, (.mov (.c (.bool false)))⟩]) .ret) .skip)) (.seq (.seq (.ops [⟨(some 3), none, (.mov (.c (.int .i64 0)))⟩]) (.block 0 (.loop F_w07_Few_L0))) (.seq (.ops [⟨(some 2), none, (.mov (.c (.bool true)))⟩]) .ret)))), 20, [(.tmp 2)]⟩
theorem F_w07_Few_ok : compF Try.prog (fun _ => true) 65 = some F_w07_Few := by kernel_rfl
@[simp] abbrev n_w12_SnapTells : FuncId := 4
def F_w12_SnapTells : F := ⟨(.seq (.ops [⟨(some 3), none, (.box (.t 0))⟩, ⟨(some 6), none, (.mov (.c (.bool false)))⟩]) (.seq (.ops [⟨(some 21), none, (.call 22 [])⟩, ⟨(some 7), none, (.mov (.t 21))⟩]) (.seq (.seq (.ops [⟨(some 22), none, (.ld (.t 3) (some 6))⟩, ⟨(some 23), none, (.call 23 [(.t 22)])⟩, ⟨(some 24), none, (.un .not (.t 23))⟩, ⟨(some 25), none, (.mov (.t 24))⟩, ⟨(some 26), (some (25, false)), (.mov (.t 2))⟩, ⟨(some 27), (some (25, false)), (.len (.t 26))⟩, ⟨(some 28), (some (25, false)), (.bin .gtr (.t 27) (.c (.int .i64 20000)))⟩, ⟨(some 29), none, (.pick (.t 25) (.c (.bool true)) (.t 28))⟩]) (.cond (.t 29) (.seq (.ops [⟨(some 30), none, (.mov (.t 7))⟩, ⟨(some 6), none, (.mov (.t 30))⟩]) .ret) .skip)) (.seq (.ops [⟨(some 32), none, (.ld (.t 3) (some 6))⟩, ⟨(some 33), none, (.call 24 [(.t 32)])⟩, ⟨(some 31), none, (.mov (.t 33))⟩, ⟨(some 34), none, (.ext (.t 31) 0)⟩, ⟨(some 35), none, (.ext (.t 31) 1)⟩, ⟨(some 8), none, (.mov (.t 34))⟩, ⟨(some 9), none, (.mov (.t 35))⟩]) (.seq (.ops [⟨(some 37), none, (.ld (.t 3) (some 6))⟩, ⟨(some 38), none, (.call 25 [(.t 37)])⟩, ⟨(some 36), none, (.mov (.t 38))⟩, ⟨(some 39), none, (.ext (.t 36) 0)⟩, ⟨(some 40), none, (.ext (.t 36) 1)⟩, ⟨(some 10), none, (.mov (.t 39))⟩, ⟨(some 11), none, (.mov (.t 40))⟩]) (.seq (.ops [⟨(some 42), none, (.ld (.t 3) (some 6))⟩, ⟨(some 43), none, (.mov (.t 1))⟩, ⟨(some 44), none, (.call 26 [(.t 42), (.t 43)])⟩, ⟨(some 41), none, (.mov (.t 44))⟩, ⟨(some 45), none, (.ext (.t 41) 0)⟩, ⟨(some 46), none, (.ext (.t 41) 1)⟩, ⟨(some 12), none, (.mov (.t 45))⟩, ⟨(some 13), none, (.mov (.t 46))⟩]) (.seq (.ops [⟨(some 48), none, (.ld (.t 3) (some 6))⟩, ⟨(some 49), none, (.mov (.t 1))⟩, ⟨(some 50), none, (.call 27 [(.t 48), (.t 49)])⟩, ⟨(some 47), none, (.mov (.t 50))⟩, ⟨(some 51), none, (.ext (.t 47) 0)⟩, ⟨(some 52), none, (.ext (.t 47) 1)⟩, ⟨(some 14), none, (.mov (.t 51))⟩, ⟨(some 15), none, (.mov (.t 52))⟩]) (.seq (.ops [⟨(some 54), none, (.mov (.t 2))⟩, ⟨(some 55), none, (.call 28 [(.t 54)])⟩, ⟨(some 53), none, (.mov (.t 55))⟩, ⟨(some 56), none, (.ext (.t 53) 0)⟩, ⟨(some 57), none, (.ext (.t 53) 1)⟩, ⟨(some 16), none, (.alc [(.val (.int .i64 0)), (.val (.int .i64 0)), (.lit 5 []), (.lit 3 []), (.val (.int .i64 0)), (.lit 1 [])])⟩, ⟨none, none, (.st (.t 16) 6 (.t 56))⟩, ⟨(some 17), none, (.mov (.t 57))⟩]) (.seq (.ops [⟨(some 59), none, (.mov (.t 2))⟩, ⟨(some 60), none, (.call 29 [(.t 59)])⟩, ⟨(some 58), none, (.mov (.t 60))⟩, ⟨(some 61), none, (.ext (.t 58) 0)⟩, ⟨(some 62), none, (.ext (.t 58) 1)⟩, ⟨(some 18), none, (.alc [(.val (.int .i64 0)), (.val (.int .i64 0)), (.lit 5 []), (.lit 3 []), (.val (.int .i64 0)), (.lit 1 [])])⟩, ⟨none, none, (.st (.t 18) 6 (.t 61))⟩, ⟨(some 19), none, (.mov (.t 62))⟩]) (.seq (.ops [⟨(some 63), none, (.mov (.t 12))⟩, ⟨(some 64), none, (.mov (.t 14))⟩, ⟨(some 65), none, (.call 30 [(.t 63), (.t 64)])⟩, ⟨(some 66), none, (.mov (.t 65))⟩, ⟨(some 67), (some (66, true)), (.ld (.t 16) (some 6))⟩, ⟨(some 68), (some (66, true)), (.ld (.t 18) (some 6))⟩, ⟨(some 69), (some (66, true)), (.call 31 [(.t 67), (.t 68)])⟩, ⟨(some 70), none, (.pick (.t 66) (.t 69) (.c (.bool false)))⟩, ⟨(some 20), none, (.mov (.t 70))⟩]) (.seq (.ops [⟨(some 71), none, (.mov (.t 7))⟩, ⟨(some 72), none, (.mov (.t 71))⟩, ⟨(some 73), (some (72, true)), (.mov (.t 8))⟩, ⟨(some 74), (some (72, true)), (.b2s (.t 73))⟩, ⟨(some 75), (some (72, true)), (.mov (.t 10))⟩, ⟨(some 76), (some (72, true)), (.b2s (.t 75))⟩, ⟨(some 77), (some (72, true)), (.bin .eql (.t 74) (.t 76))⟩, ⟨(some 78), none, (.pick (.t 72) (.t 77) (.c (.bool false)))⟩, ⟨(some 79), none, (.mov (.t 78))⟩, ⟨(some 80), (some (79, true)), (.mov (.t 9))⟩, ⟨(some 81), (some (79, true)), (.mov (.t 11))⟩, ⟨(some 82), (some (79, true)), (.bin .eql (.t 80) (.t 81))⟩, ⟨(some 83), none, (.pick (.t 79) (.t 82) (.c (.bool false)))⟩, ⟨(some 84), none, (.mov (.t 83))⟩, ⟨(some 85), (some (84, true)), (.mov (.t 20))⟩, ⟨(some 86), none, (.pick (.t 84) (.t 85) (.c (.bool false)))⟩, ⟨(some 87), none, (.mov (.t 86))⟩, ⟨(some 88), (some (87, true)), (.mov (.t 13))⟩, ⟨(some 89), (some (87, true)), (.mov (.t 15))⟩, ⟨(some 90), (some (87, true)), (.bin .eql (.t 88) (.t 89))⟩, ⟨(some 91), none, (.pick (.t 87) (.t 90) (.c (.bool false)))⟩, ⟨(some 92), none, (.mov (.t 91))⟩, ⟨(some 93), (some (92, true)), (.mov (.t 17))⟩, ⟨(some 94), (some (92, true)), (.mov (.t 19))⟩, ⟨(some 95), (some (92, true)), (.bin .eql (.t 93) (.t 94))⟩, ⟨(some 96), none, (.pick (.t 92) (.t 95) (.c (.bool false)))⟩, ⟨(some 6), none, (.mov (.t 96))⟩]) .ret))))))))))), 97, [(.tmp 6)]⟩
theorem F_w12_SnapTells_ok : compF Try.prog (fun _ => true) 4 = some F_w12_SnapTells := by kernel_rfl
@[simp] abbrev n_w12_SnapFinds : FuncId := 5
def F_w12_SnapFinds_L0 : C := (.seq (.seq (.ops [⟨(some 19), none, (.mov (.t 4))⟩, ⟨(some 20), none, (.mov (.t 0))⟩, ⟨(some 21), none, (.len (.t 20))⟩, ⟨(some 22), none, (.bin .lss (.t 19) (.t 21))⟩]) (.cond (.t 22) .skip (.exit 0))) (.seq (.block 1 (.seq (.ops [⟨(some 25), none, (.mov (.t 0))⟩, ⟨(some 26), none, (.mov (.t 4))⟩, ⟨(some 27), none, (.ixs (.t 25) (.t 26) 5)⟩, ⟨(some 28), none, (.fad (.t 27) 0)⟩, ⟨(some 29), none, (.fad (.t 28) 2)⟩, ⟨(some 30), none, (.lde (.t 29) none)⟩, ⟨(some 31), none, (.len (.t 30))⟩, ⟨(some 32), none, (.bin .gtr (.t 31) (.c (.int .i64 5000)))⟩]) (.cond (.t 32) (.seq (.ops [⟨(some 33), none, (.mov (.t 3))⟩, ⟨(some 2), none, (.mov (.t 33))⟩]) .ret) .skip))) (.ops [⟨(some 23), none, (.mov (.t 4))⟩, ⟨(some 24), none, (.bin .add (.t 23) (.c (.int .i64 1)))⟩, ⟨(some 4), none, (.mov (.t 24))⟩])))
def F_w12_SnapFinds : F := ⟨(.seq (.ops [⟨(some 2), none, (.mov (.c (.bool false)))⟩]) (.seq (.ops [⟨(some 14), none, (.call 22 [])⟩, ⟨(some 3), none, (.mov (.t 14))⟩]) (.seq (.seq (.ops [⟨(some 15), none, (.mov (.t 0))⟩, ⟨(some 16), none, (.len (.t 15))⟩, ⟨(some 17), none, (.bin .gtr (.t 16) (.c (.int .i64 60)))⟩]) (.cond (.t 17) (.seq (.ops [⟨(some 18), none, (.mov (.t 3))⟩, ⟨(some 2), none, (.mov (.t 18))⟩]) .ret) .skip)) (.seq (.seq (.ops [⟨(some 4), none, (.mov (.c (.int .i64 0)))⟩]) (.block 0 (.loop F_w12_SnapFinds_L0))) (.seq (.ops [⟨(some 35), none, (.mov (.t 0))⟩, ⟨(some 36), none, (.call 32 [(.t 35)])⟩, ⟨(some 34), none, (.mov (.t 36))⟩, ⟨(some 37), none, (.ext (.t 34) 0)⟩, ⟨(some 38), none, (.ext (.t 34) 1)⟩, ⟨(some 39), none, (.ext (.t 34) 2)⟩, ⟨(some 40), none, (.ext (.t 34) 3)⟩, ⟨(some 5), none, (.alc [(.val (.int .i64 0)), (.val (.int .i64 0)), (.lit 5 []), (.lit 3 []), (.val (.int .i64 0)), (.lit 1 [])])⟩, ⟨none, none, (.st (.t 5) 6 (.t 37))⟩, ⟨(some 6), none, (.mov (.t 38))⟩, ⟨(some 7), none, (.mov (.t 39))⟩, ⟨(some 8), none, (.mov (.t 40))⟩]) (.seq (.ops [⟨(some 42), none, (.mov (.t 0))⟩, ⟨(some 43), none, (.call 33 [(.t 42)])⟩, ⟨(some 41), none, (.mov (.t 43))⟩, ⟨(some 44), none, (.ext (.t 41) 0)⟩, ⟨(some 45), none, (.ext (.t 41) 1)⟩, ⟨(some 46), none, (.ext (.t 41) 2)⟩, ⟨(some 47), none, (.ext (.t 41) 3)⟩, ⟨(some 9), none, (.alc [(.val (.int .i64 0)), (.val (.int .i64 0)), (.lit 5 []), (.lit 3 []), (.val (.int .i64 0)), (.lit 1 [])])⟩, ⟨none, none, (.st (.t 9) 6 (.t 44))⟩, ⟨(some 10), none, (.mov (.t 45))⟩, ⟨(some 11), none, (.mov (.t 46))⟩, ⟨(some 12), none, (.mov (.t 47))⟩]) (.seq (.ops [⟨(some 48), none, (.ld (.t 5) (some 6))⟩, ⟨(some 49), none, (.ld (.t 9) (some 6))⟩, ⟨(some 50), none, (.call 31 [(.t 48), (.t 49)])⟩, ⟨(some 13), none, (.mov (.t 50))⟩]) (.seq (.ops [⟨(some 51), none, (.mov (.t 3))⟩, ⟨(some 52), none, (.mov (.t 51))⟩, ⟨(some 53), (some (52, true)), (.mov (.t 13))⟩, ⟨(some 54), none, (.pick (.t 52) (.t 53) (.c (.bool false)))⟩, ⟨(some 55), none, (.mov (.t 54))⟩, ⟨(some 56), (some (55, true)), (.mov (.t 6))⟩, ⟨(some 57), (some (55, true)), (.mov (.t 10))⟩, ⟨(some 58), (some (55, true)), (.bin .eql (.t 56) (.t 57))⟩, ⟨(some 59), none, (.pick (.t 55) (.t 58) (.c (.bool false)))⟩, ⟨(some 60), none, (.mov (.t 59))⟩, ⟨(some 61), (some (60, true)), (.mov (.t 7))⟩, ⟨(some 62), (some (60, true)), (.mov (.t 11))⟩, ⟨(some 63), (some (60, true)), (.bin .eql (.t 61) (.t 62))⟩, ⟨(some 64), none, (.pick (.t 60) (.t 63) (.c (.bool false)))⟩, ⟨(some 65), none, (.mov (.t 64))⟩, ⟨(some 66), (some (65, true)), (.mov (.t 8))⟩, ⟨(some 67), (some (65, true)), (.mov (.t 12))⟩, ⟨(some 68), (some (65, true)), (.bin .eql (.t 66) (.t 67))⟩, ⟨(some 69), none, (.pick (.t 65) (.t 68) (.c (.bool false)))⟩, ⟨(some 2), none, (.mov (.t 69))⟩]) .ret)))))))), 70, [(.tmp 2)]⟩
theorem F_w12_SnapFinds_ok : compF Try.prog (fun _ => true) 5 = some F_w12_SnapFinds := by kernel_rfl
@[simp] abbrev n_w12_SnapBack : FuncId := 6
def F_w12_SnapBack : F := ⟨(.seq (.ops [⟨(some 3), none, (.box (.t 0))⟩, ⟨(some 6), none, (.mov (.c (.bool false)))⟩]) (.seq (.ops [⟨(some 19), none, (.call 22 [])⟩, ⟨(some 7), none, (.mov (.t 19))⟩]) (.seq (.seq (.ops [⟨(some 20), none, (.ld (.t 3) (some 6))⟩, ⟨(some 21), none, (.call 23 [(.t 20)])⟩, ⟨(some 22), none, (.un .not (.t 21))⟩, ⟨(some 23), none, (.mov (.t 22))⟩, ⟨(some 24), (some (23, false)), (.mov (.t 1))⟩, ⟨(some 25), (some (23, false)), (.len (.t 24))⟩, ⟨(some 26), (some (23, false)), (.bin .gtr (.t 25) (.c (.int .i64 20000)))⟩, ⟨(some 27), none, (.pick (.t 23) (.c (.bool true)) (.t 26))⟩]) (.cond (.t 27) (.seq (.ops [⟨(some 28), none, (.mov (.t 7))⟩, ⟨(some 6), none, (.mov (.t 28))⟩]) .ret) .skip)) (.seq (.ops [⟨(some 30), none, (.ld (.t 3) (some 6))⟩, ⟨(some 31), none, (.call 24 [(.t 30)])⟩, ⟨(some 29), none, (.mov (.t 31))⟩, ⟨(some 32), none, (.ext (.t 29) 0)⟩, ⟨(some 33), none, (.ext (.t 29) 1)⟩, ⟨(some 8), none, (.mov (.t 32))⟩, ⟨(some 9), none, (.mov (.t 33))⟩]) (.seq (.ops [⟨(some 35), none, (.mov (.t 8))⟩, ⟨(some 36), none, (.call 28 [(.t 35)])⟩, ⟨(some 34), none, (.mov (.t 36))⟩, ⟨(some 37), none, (.ext (.t 34) 0)⟩, ⟨(some 38), none, (.ext (.t 34) 1)⟩, ⟨(some 10), none, (.alc [(.val (.int .i64 0)), (.val (.int .i64 0)), (.lit 5 []), (.lit 3 []), (.val (.int .i64 0)), (.lit 1 [])])⟩, ⟨none, none, (.st (.t 10) 6 (.t 37))⟩, ⟨(some 11), none, (.mov (.t 38))⟩]) (.seq (.seq (.ops [⟨(some 39), none, (.mov (.t 9))⟩, ⟨(some 40), none, (.bin .eql (.t 39) (.c (.int .i64 0)))⟩]) (.cond (.t 40) (.seq (.seq (.ops [⟨(some 41), none, (.mov (.t 8))⟩, ⟨(some 42), none, (.len (.t 41))⟩, ⟨(some 43), none, (.bin .eql (.t 42) (.c (.int .i64 0)))⟩]) (.cond (.t 43) (.seq (.ops [⟨(some 6), none, (.mov (.c (.bool false)))⟩]) .ret) .skip)) (.seq (.ops [⟨(some 45), none, (.mov (.t 8))⟩, ⟨(some 46), none, (.mov (.t 2))⟩, ⟨(some 47), none, (.conv .i64 (.t 46))⟩, ⟨(some 48), none, (.mov (.t 8))⟩, ⟨(some 49), none, (.len (.t 48))⟩, ⟨(some 50), none, (.bin .rem (.t 47) (.t 49))⟩, ⟨(some 51), none, (.slc (.t 45) none (some (.t 50)) none 1)⟩, ⟨(some 52), none, (.call 28 [(.t 51)])⟩, ⟨(some 44), none, (.mov (.t 52))⟩, ⟨(some 53), none, (.ext (.t 44) 0)⟩, ⟨(some 54), none, (.ext (.t 44) 1)⟩, ⟨(some 12), none, (.alc [(.val (.int .i64 0)), (.val (.int .i64 0)), (.lit 5 []), (.lit 3 []), (.val (.int .i64 0)), (.lit 1 [])])⟩, ⟨none, none, (.st (.t 12) 6 (.t 53))⟩, ⟨(some 13), none, (.mov (.t 54))⟩]) (.seq (.ops [⟨(some 55), none, (.ld (.t 3) (some 6))⟩, ⟨(some 56), none, (.ld (.t 10) (some 6))⟩, ⟨(some 57), none, (.call 31 [(.t 55), (.t 56)])⟩, ⟨(some 14), none, (.mov (.t 57))⟩]) (.seq (.ops [⟨(some 58), none, (.mov (.t 11))⟩, ⟨(some 59), none, (.bin .neq (.t 58) (.c (.int .i64 0)))⟩, ⟨(some 60), none, (.mov (.t 59))⟩, ⟨(some 61), (some (60, false)), (.mov (.t 14))⟩, ⟨(some 62), (some (60, false)), (.un .not (.t 61))⟩, ⟨(some 63), none, (.pick (.t 60) (.c (.bool true)) (.t 62))⟩, ⟨(some 64), none, (.mov (.t 63))⟩, ⟨(some 65), (some (64, false)), (.mov (.t 13))⟩, ⟨(some 66), (some (64, false)), (.bin .neq (.t 65) (.c (.int .i64 120)))⟩, ⟨(some 67), none, (.pick (.t 64) (.c (.bool true)) (.t 66))⟩]) (.cond (.t 67) (.seq (.ops [⟨(some 6), none, (.mov (.c (.bool false)))⟩]) .ret) .skip))))) .skip)) (.seq (.ops [⟨(some 69), none, (.mov (.t 1))⟩, ⟨(some 70), none, (.call 28 [(.t 69)])⟩, ⟨(some 68), none, (.mov (.t 70))⟩, ⟨(some 71), none, (.ext (.t 68) 0)⟩, ⟨(some 72), none, (.ext (.t 68) 1)⟩, ⟨(some 15), none, (.alc [(.val (.int .i64 0)), (.val (.int .i64 0)), (.lit 5 []), (.lit 3 []), (.val (.int .i64 0)), (.lit 1 [])])⟩, ⟨none, none, (.st (.t 15) 6 (.t 71))⟩, ⟨(some 16), none, (.mov (.t 72))⟩]) (.seq (.ops [⟨(some 74), none, (.ld (.t 15) (some 6))⟩, ⟨(some 75), none, (.call 24 [(.t 74)])⟩, ⟨(some 73), none, (.mov (.t 75))⟩, ⟨(some 76), none, (.ext (.t 73) 0)⟩, ⟨(some 77), none, (.ext (.t 73) 1)⟩, ⟨(some 17), none, (.mov (.t 76))⟩, ⟨(some 18), none, (.mov (.t 77))⟩]) (.seq (.ops [⟨(some 78), none, (.mov (.t 7))⟩, ⟨(some 79), none, (.mov (.t 78))⟩, ⟨(some 80), (some (79, true)), (.mov (.t 9))⟩, ⟨(some 81), (some (79, true)), (.bin .eql (.t 80) (.c (.int .i64 0)))⟩, ⟨(some 82), (some (79, true)), (.mov (.t 81))⟩, ⟨(some 83), (some (82, false)), (.ld (.t 3) (some 6))⟩, ⟨(some 84), (some (82, false)), (.call 34 [(.t 83)])⟩, ⟨(some 85), (some (82, false)), (.bin .neq (.t 84) (.c (.int .i64 0)))⟩, ⟨(some 86), (some (82, false)), (.mov (.t 85))⟩, ⟨(some 87), (some (86, true)), (.mov (.t 8))⟩, ⟨(some 88), (some (86, true)), (.len (.t 87))⟩, ⟨(some 89), (some (86, true)), (.bin .eql (.t 88) (.c (.int .i64 0)))⟩, ⟨(some 90), (some (82, false)), (.pick (.t 86) (.t 89) (.c (.bool false)))⟩, ⟨(some 91), (some (79, true)), (.pick (.t 82) (.c (.bool true)) (.t 90))⟩, ⟨(some 92), none, (.pick (.t 79) (.t 91) (.c (.bool false)))⟩, ⟨(some 93), none, (.mov (.t 92))⟩, ⟨(some 94), (some (93, true)), (.mov (.t 16))⟩, ⟨(some 95), (some (93, true)), (.bin .neq (.t 94) (.c (.int .i64 0)))⟩, ⟨(some 96), (some (93, true)), (.mov (.t 95))⟩, ⟨(some 97), (some (96, true)), (.fad (.t 15) 0)⟩, ⟨(some 98), (some (96, true)), (.ld (.t 97) none)⟩, ⟨(some 99), (some (96, true)), (.bin .eql (.t 98) (.c (.int .i64 0)))⟩, ⟨(some 100), (some (93, true)), (.pick (.t 96) (.t 99) (.c (.bool false)))⟩, ⟨(some 101), (some (93, true)), (.mov (.t 100))⟩, ⟨(some 102), (some (101, false)), (.ld (.t 15) (some 6))⟩, ⟨(some 103), (some (101, false)), (.call 34 [(.t 102)])⟩, ⟨(some 104), (some (101, false)), (.bin .eql (.t 103) (.c (.int .i64 0)))⟩, ⟨(some 105), (some (101, false)), (.mov (.t 104))⟩, ⟨(some 106), (some (105, true)), (.mov (.t 18))⟩, ⟨(some 107), (some (105, true)), (.bin .eql (.t 106) (.c (.int .i64 0)))⟩, ⟨(some 108), (some (101, false)), (.pick (.t 105) (.t 107) (.c (.bool false)))⟩, ⟨(some 109), (some (101, false)), (.mov (.t 108))⟩, ⟨(some 110), (some (109, true)), (.mov (.t 17))⟩, ⟨(some 111), (some (109, true)), (.b2s (.t 110))⟩, ⟨(some 112), (some (109, true)), (.mov (.t 1))⟩, ⟨(some 113), (some (109, true)), (.b2s (.t 112))⟩, ⟨(some 114), (some (109, true)), (.bin .eql (.t 111) (.t 113))⟩, ⟨(some 115), (some (101, false)), (.pick (.t 109) (.t 114) (.c (.bool false)))⟩, ⟨(some 116), (some (93, true)), (.pick (.t 101) (.c (.bool true)) (.t 115))⟩, ⟨(some 117), none, (.pick (.t 93) (.t 116) (.c (.bool false)))⟩, ⟨(some 6), none, (.mov (.t 117))⟩]) .ret))))))))), 118, [(.tmp 6)]⟩
theorem F_w12_SnapBack_ok : compF Try.prog (fun _ => true) 6 = some F_w12_SnapBack := by kernel_rfl
@[simp] abbrev n_w12_SnapLast : FuncId := 7
def F_w12_SnapLast_L0 : C := (.seq (.seq (.ops [⟨(some 82), none, (.mov (.t 13))⟩, ⟨(some 83), none, (.mov (.t 6))⟩, ⟨(some 84), none, (.len (.t 83))⟩, ⟨(some 85), none, (.bin .lss (.t 82) (.t 84))⟩]) (.cond (.t 85) .skip (.exit 2))) (.seq (.block 3 (.seq (.ops [⟨(some 88), none, (.mov (.t 13))⟩, ⟨(some 89), none, (.mov (.t 11))⟩, ⟨(some 90), none, (.bin .neq (.t 88) (.t 89))⟩]) (.cond (.t 90) (.ops [⟨(some 91), none, (.mov (.t 12))⟩, ⟨(some 92), none, (.mov (.t 6))⟩, ⟨(some 93), none, (.mov (.t 13))⟩, ⟨(some 94), none, (.ixs (.t 92) (.t 93) 3)⟩, ⟨(some 95), none, (.lde (.t 94) (some 3))⟩, ⟨(some 96), none, (.mkl 36 3 [(.t 95)] false)⟩, ⟨(some 97), none, (.app (.t 91) (.t 96) 36 3 40 true)⟩, ⟨(some 12), none, (.mov (.t 97))⟩]) .skip))) (.ops [⟨(some 86), none, (.mov (.t 13))⟩, ⟨(some 87), none, (.bin .add (.t 86) (.c (.int .i64 1)))⟩, ⟨(some 13), none, (.mov (.t 87))⟩])))
def F_w12_SnapLast_L1 : C := (.seq (.seq (.ops [⟨(some 25), none, (.mov (.t 8))⟩, ⟨(some 26), none, (.mov (.t 0))⟩, ⟨(some 27), none, (.len (.t 26))⟩, ⟨(some 28), none, (.bin .lss (.t 25) (.t 27))⟩]) (.cond (.t 28) .skip (.exit 0))) (.seq (.block 1 (.seq (.seq (.ops [⟨(some 31), none, (.mov (.t 0))⟩, ⟨(some 32), none, (.mov (.t 8))⟩, ⟨(some 33), none, (.ixs (.t 31) (.t 32) 6)⟩, ⟨(some 34), none, (.lde (.t 33) (some 6))⟩, ⟨(some 35), none, (.call 23 [(.t 34)])⟩, ⟨(some 36), none, (.un .not (.t 35))⟩, ⟨(some 37), none, (.mov (.t 36))⟩, ⟨(some 38), (some (37, false)), (.mov (.t 0))⟩, ⟨(some 39), (some (37, false)), (.mov (.t 8))⟩, ⟨(some 40), (some (37, false)), (.ixs (.t 38) (.t 39) 6)⟩, ⟨(some 41), (some (37, false)), (.lde (.t 40) (some 6))⟩, ⟨(some 42), (some (37, false)), (.call 34 [(.t 41)])⟩, ⟨(some 43), (some (37, false)), (.bin .neq (.t 42) (.c (.int .i64 0)))⟩, ⟨(some 44), none, (.pick (.t 37) (.c (.bool true)) (.t 43))⟩]) (.cond (.t 44) (.seq (.ops [⟨(some 45), none, (.mov (.t 5))⟩, ⟨(some 4), none, (.mov (.t 45))⟩]) .ret) .skip)) (.seq (.ops [⟨(some 47), none, (.mov (.t 0))⟩, ⟨(some 48), none, (.mov (.t 8))⟩, ⟨(some 49), none, (.ixs (.t 47) (.t 48) 6)⟩, ⟨(some 50), none, (.lde (.t 49) (some 6))⟩, ⟨(some 51), none, (.mov (.t 6))⟩, ⟨(some 52), none, (.len (.t 51))⟩, ⟨(some 53), none, (.call 26 [(.t 50), (.t 52)])⟩, ⟨(some 46), none, (.mov (.t 53))⟩, ⟨(some 54), none, (.ext (.t 46) 0)⟩, ⟨(some 55), none, (.ext (.t 46) 1)⟩, ⟨(some 9), none, (.mov (.t 54))⟩, ⟨(some 10), none, (.mov (.t 55))⟩]) (.seq (.seq (.ops [⟨(some 56), none, (.mov (.t 10))⟩, ⟨(some 57), none, (.bin .neq (.t 56) (.c (.int .i64 0)))⟩, ⟨(some 58), none, (.mov (.t 57))⟩, ⟨(some 59), (some (58, false)), (.mov (.t 9))⟩, ⟨(some 60), (some (58, false)), (.len (.t 59))⟩, ⟨(some 61), (some (58, false)), (.bin .lss (.t 60) (.c (.int .i64 2)))⟩, ⟨(some 62), none, (.pick (.t 58) (.c (.bool true)) (.t 61))⟩]) (.cond (.t 62) (.seq (.ops [⟨(some 4), none, (.mov (.c (.bool false)))⟩]) .ret) .skip)) (.seq (.ops [⟨(some 63), none, (.mov (.t 6))⟩, ⟨(some 64), none, (.mov (.t 9))⟩, ⟨(some 65), none, (.app (.t 63) (.t 64) 36 3 40 true)⟩, ⟨(some 6), none, (.mov (.t 65))⟩]) (.ops [⟨(some 66), none, (.mov (.t 7))⟩, ⟨(some 67), none, (.mov (.t 6))⟩, ⟨(some 68), none, (.len (.t 67))⟩, ⟨(some 69), none, (.bin .sub (.t 68) (.c (.int .i64 1)))⟩, ⟨(some 70), none, (.mkl 3 1 [(.t 69)] false)⟩, ⟨(some 71), none, (.app (.t 66) (.t 70) 3 1 8 true)⟩, ⟨(some 7), none, (.mov (.t 71))⟩])))))) (.ops [⟨(some 29), none, (.mov (.t 8))⟩, ⟨(some 30), none, (.bin .add (.t 29) (.c (.int .i64 1)))⟩, ⟨(some 8), none, (.mov (.t 30))⟩])))
def F_w12_SnapLast : F := ⟨(.seq (.ops [⟨(some 4), none, (.mov (.c (.bool false)))⟩]) (.seq (.ops [⟨(some 20), none, (.call 22 [])⟩, ⟨(some 5), none, (.mov (.t 20))⟩]) (.seq (.seq (.ops [⟨(some 21), none, (.mov (.t 0))⟩, ⟨(some 22), none, (.len (.t 21))⟩, ⟨(some 23), none, (.bin .gtr (.t 22) (.c (.int .i64 3)))⟩]) (.cond (.t 23) (.seq (.ops [⟨(some 24), none, (.mov (.t 5))⟩, ⟨(some 4), none, (.mov (.t 24))⟩]) .ret) .skip)) (.seq (.ops [⟨(some 6), none, (.nil 36 3 true)⟩]) (.seq (.ops [⟨(some 7), none, (.nil 3 1 true)⟩]) (.seq (.seq (.ops [⟨(some 8), none, (.mov (.c (.int .i64 0)))⟩]) (.block 0 (.loop F_w12_SnapLast_L1))) (.seq (.seq (.ops [⟨(some 72), none, (.mov (.t 0))⟩, ⟨(some 73), none, (.len (.t 72))⟩, ⟨(some 74), none, (.bin .eql (.t 73) (.c (.int .i64 0)))⟩]) (.cond (.t 74) (.seq (.ops [⟨(some 75), none, (.mov (.t 5))⟩, ⟨(some 4), none, (.mov (.t 75))⟩]) .ret) .skip)) (.seq (.ops [⟨(some 76), none, (.mov (.t 1))⟩, ⟨(some 77), none, (.conv .i64 (.t 76))⟩, ⟨(some 78), none, (.mov (.t 6))⟩, ⟨(some 79), none, (.len (.t 78))⟩, ⟨(some 80), none, (.bin .add (.t 79) (.c (.int .i64 1)))⟩, ⟨(some 81), none, (.bin .rem (.t 77) (.t 80))⟩, ⟨(some 11), none, (.mov (.t 81))⟩]) (.seq (.ops [⟨(some 12), none, (.nil 36 3 true)⟩]) (.seq (.seq (.ops [⟨(some 13), none, (.mov (.c (.int .i64 0)))⟩]) (.block 2 (.loop F_w12_SnapLast_L0))) (.seq (.ops [⟨(some 98), none, (.mov (.t 0))⟩, ⟨(some 99), none, (.len (.t 98))⟩, ⟨(some 100), none, (.bin .sub (.t 99) (.c (.int .i64 1)))⟩, ⟨(some 14), none, (.mov (.t 100))⟩]) (.seq (.seq (.ops [⟨(some 101), none, (.mov (.t 11))⟩, ⟨(some 102), none, (.mov (.t 6))⟩, ⟨(some 103), none, (.len (.t 102))⟩, ⟨(some 104), none, (.bin .lss (.t 101) (.t 103))⟩, ⟨(some 105), none, (.mov (.t 104))⟩, ⟨(some 106), (some (105, true)), (.mov (.t 11))⟩, ⟨(some 107), (some (105, true)), (.bin .gtr (.t 106) (.c (.int .i64 0)))⟩, ⟨(some 108), none, (.pick (.t 105) (.t 107) (.c (.bool false)))⟩, ⟨(some 109), none, (.mov (.t 108))⟩, ⟨(some 110), (some (109, true)), (.mov (.t 14))⟩, ⟨(some 111), (some (109, true)), (.bin .eql (.t 110) (.c (.int .i64 0)))⟩, ⟨(some 112), (some (109, true)), (.mov (.t 111))⟩, ⟨(some 113), (some (112, false)), (.mov (.t 11))⟩, ⟨(some 114), (some (112, false)), (.mov (.t 7))⟩, ⟨(some 115), (some (112, false)), (.mov (.t 14))⟩, ⟨(some 116), (some (112, false)), (.bin .sub (.t 115) (.c (.int .i64 1)))⟩, ⟨(some 117), (some (112, false)), (.ixs (.t 114) (.t 116) 1)⟩, ⟨(some 118), (some (112, false)), (.lde (.t 117) none)⟩, ⟨(some 119), (some (112, false)), (.bin .gtr (.t 113) (.t 118))⟩, ⟨(some 120), (some (109, true)), (.pick (.t 112) (.c (.bool true)) (.t 119))⟩, ⟨(some 121), none, (.pick (.t 109) (.t 120) (.c (.bool false)))⟩, ⟨(some 122), none, (.mov (.t 121))⟩, ⟨(some 123), (some (122, false)), (.mov (.t 11))⟩, ⟨(some 124), (some (122, false)), (.bin .eql (.t 123) (.c (.int .i64 0)))⟩, ⟨(some 125), (some (122, false)), (.mov (.t 124))⟩, ⟨(some 126), (some (125, true)), (.mov (.t 14))⟩, ⟨(some 127), (some (125, true)), (.bin .eql (.t 126) (.c (.int .i64 0)))⟩, ⟨(some 128), (some (122, false)), (.pick (.t 125) (.t 127) (.c (.bool false)))⟩, ⟨(some 129), none, (.pick (.t 122) (.c (.bool true)) (.t 128))⟩]) (.cond (.t 129) (.ops [⟨(some 130), none, (.mov (.t 14))⟩, ⟨(some 131), none, (.bin .sub (.t 130) (.c (.int .i64 1)))⟩, ⟨(some 14), none, (.mov (.t 131))⟩]) .skip)) (.seq (.ops [⟨(some 133), none, (.mov (.t 12))⟩, ⟨(some 134), none, (.call 35 [(.t 133)])⟩, ⟨(some 135), none, (.call 32 [(.t 134)])⟩, ⟨(some 132), none, (.mov (.t 135))⟩, ⟨(some 136), none, (.ext (.t 132) 0)⟩, ⟨(some 137), none, (.ext (.t 132) 1)⟩, ⟨(some 138), none, (.ext (.t 132) 2)⟩, ⟨(some 139), none, (.ext (.t 132) 3)⟩, ⟨(some 15), none, (.alc [(.val (.int .i64 0)), (.val (.int .i64 0)), (.lit 5 []), (.lit 3 []), (.val (.int .i64 0)), (.lit 1 [])])⟩, ⟨none, none, (.st (.t 15) 6 (.t 136))⟩, ⟨(some 16), none, (.mov (.t 137))⟩, ⟨(some 17), none, (.mov (.t 138))⟩, ⟨(some 18), none, (.mov (.t 139))⟩]) (.seq (.seq (.ops [⟨(some 140), none, (.mov (.t 14))⟩, ⟨(some 141), none, (.bin .lss (.t 140) (.c (.int .i64 0)))⟩]) (.cond (.t 141) (.seq (.ops [⟨(some 142), none, (.mov (.t 5))⟩, ⟨(some 143), none, (.mov (.t 142))⟩, ⟨(some 144), (some (143, true)), (.mov (.t 18))⟩, ⟨(some 145), (some (143, true)), (.bin .eql (.t 144) (.c (.int .i64 120)))⟩, ⟨(some 146), none, (.pick (.t 143) (.t 145) (.c (.bool false)))⟩, ⟨(some 4), none, (.mov (.t 146))⟩]) .ret) .skip)) (.seq (.dops false [] [⟨(some 147), none, (.ld (.t 15) (some 6))⟩, ⟨(some 148), none, (.mov (.t 0))⟩, ⟨(some 149), none, (.mov (.t 14))⟩, ⟨(some 150), none, (.ixs (.t 148) (.t 149) 6)⟩, ⟨(some 151), none, (.lde (.t 150) (some 6))⟩, ⟨(some 152), none, (.call 31 [(.t 147), (.t 151)])⟩, ⟨(some 19), none, (.mov (.t 152))⟩]) (.seq (.ops [⟨(some 153), none, (.mov (.t 5))⟩, ⟨(some 154), none, (.mov (.t 153))⟩, ⟨(some 155), (some (154, true)), (.mov (.t 18))⟩, ⟨(some 156), (some (154, true)), (.bin .eql (.t 155) (.c (.int .i64 0)))⟩, ⟨(some 157), none, (.pick (.t 154) (.t 156) (.c (.bool false)))⟩, ⟨(some 158), none, (.mov (.t 157))⟩, ⟨(some 159), (some (158, true)), (.mov (.t 19))⟩, ⟨(some 160), none, (.pick (.t 158) (.t 159) (.c (.bool false)))⟩, ⟨(some 161), none, (.mov (.t 160))⟩, ⟨(some 162), (some (161, true)), (.mov (.t 17))⟩, ⟨(some 163), (some (161, true)), (.mov (.t 7))⟩, ⟨(some 164), (some (161, true)), (.mov (.t 14))⟩, ⟨(some 165), (some (161, true)), (.ixs (.t 163) (.t 164) 1)⟩, ⟨(some 166), (some (161, true)), (.lde (.t 165) none)⟩, ⟨(some 167), (some (161, true)), (.bin .eql (.t 162) (.t 166))⟩, ⟨(some 168), none, (.pick (.t 161) (.t 167) (.c (.bool false)))⟩, ⟨(some 169), none, (.mov (.t 168))⟩, ⟨(some 170), (some (169, true)), (.mov (.t 14))⟩, ⟨(some 171), (some (169, true)), (.bin .eql (.t 170) (.c (.int .i64 0)))⟩, ⟨(some 172), (some (169, true)), (.mov (.t 171))⟩, ⟨(some 173), (some (172, true)), (.mov (.t 16))⟩, ⟨(some 174), (some (172, true)), (.bin .eql (.t 173) (.c (.int .i64 0)))⟩, ⟨(some 175), (some (169, true)), (.pick (.t 172) (.t 174) (.c (.bool false)))⟩, ⟨(some 176), (some (169, true)), (.mov (.t 175))⟩, ⟨(some 177), (some (176, false)), (.mov (.t 14))⟩, ⟨(some 178), (some (176, false)), (.bin .gtr (.t 177) (.c (.int .i64 0)))⟩, ⟨(some 179), (some (176, false)), (.mov (.t 178))⟩, ⟨(some 180), (some (179, true)), (.mov (.t 16))⟩, ⟨(some 181), (some (179, true)), (.mov (.t 7))⟩, ⟨(some 182), (some (179, true)), (.mov (.t 14))⟩, ⟨(some 183), (some (179, true)), (.bin .sub (.t 182) (.c (.int .i64 1)))⟩, ⟨(some 184), (some (179, true)), (.ixs (.t 181) (.t 183) 1)⟩, ⟨(some 185), (some (179, true)), (.lde (.t 184) none)⟩, ⟨(some 186), (some (179, true)), (.bin .add (.t 185) (.c (.int .i64 1)))⟩, ⟨(some 187), (some (179, true)), (.bin .eql (.t 180) (.t 186))⟩, ⟨(some 188), (some (176, false)), (.pick (.t 179) (.t 187) (.c (.bool false)))⟩, ⟨(some 189), (some (169, true)), (.pick (.t 176) (.c (.bool true)) (.t 188))⟩, ⟨(some 190), none, (.pick (.t 169) (.t 189) (.c (.bool false)))⟩, ⟨(some 4), none, (.mov (.t 190))⟩]) .ret)))))))))))))))), 191, [(.tmp 4)]⟩
theorem F_w12_SnapLast_ok : compF Try.prog (fun d => !([70, 96].contains d)) 7 = some F_w12_SnapLast := by kernel_rfl
@[simp] abbrev n_w12_SnapSizes : FuncId := 9
def F_w12_SnapSizes_L0 : C := (.seq (.seq (.ops [⟨(some 98), none, (.mov (.t 12))⟩, ⟨(some 99), none, (.mov (.t 10))⟩, ⟨(some 100), none, (.bin .lss (.t 98) (.t 99))⟩]) (.cond (.t 100) .skip (.exit 0))) (.seq (.block 1 (.seq (.seq (.ops [⟨(some 103), none, (.mov (.t 8))⟩, ⟨(some 104), none, (.mov (.t 12))⟩, ⟨(some 105), none, (.ixs (.t 103) (.t 104) 3)⟩, ⟨(some 106), none, (.fad (.t 105) 1)⟩, ⟨(some 107), none, (.lde (.t 106) none)⟩, ⟨(some 108), none, (.mov (.t 1))⟩, ⟨(some 109), none, (.mov (.t 12))⟩, ⟨(some 110), none, (.bin .add (.t 108) (.t 109))⟩, ⟨(some 111), none, (.bin .neq (.t 107) (.t 110))⟩, ⟨(some 112), none, (.mov (.t 111))⟩, ⟨(some 113), (some (112, false)), (.mov (.t 12))⟩, ⟨(some 114), (some (112, false)), (.mov (.t 10))⟩, ⟨(some 115), (some (112, false)), (.bin .sub (.t 114) (.c (.int .i64 1)))⟩, ⟨(some 116), (some (112, false)), (.bin .lss (.t 113) (.t 115))⟩, ⟨(some 117), (some (112, false)), (.mov (.t 116))⟩, ⟨(some 118), (some (117, true)), (.mov (.t 8))⟩, ⟨(some 119), (some (117, true)), (.mov (.t 12))⟩, ⟨(some 120), (some (117, true)), (.ixs (.t 118) (.t 119) 3)⟩, ⟨(some 121), (some (117, true)), (.fad (.t 120) 0)⟩, ⟨(some 122), (some (117, true)), (.lde (.t 121) none)⟩, ⟨(some 123), (some (117, true)), (.bin .neq (.t 122) (.c (.int .i64 2)))⟩, ⟨(some 124), (some (117, true)), (.mov (.t 123))⟩, ⟨(some 125), (some (124, false)), (.mov (.t 8))⟩, ⟨(some 126), (some (124, false)), (.mov (.t 12))⟩, ⟨(some 127), (some (124, false)), (.ixs (.t 125) (.t 126) 3)⟩, ⟨(some 128), (some (124, false)), (.fad (.t 127) 2)⟩, ⟨(some 129), (some (124, false)), (.lde (.t 128) none)⟩, ⟨(some 130), (some (124, false)), (.len (.t 129))⟩, ⟨(some 131), (some (124, false)), (.bin .eql (.t 130) (.c (.int .i64 0)))⟩, ⟨(some 132), (some (117, true)), (.pick (.t 124) (.c (.bool true)) (.t 131))⟩, ⟨(some 133), (some (117, true)), (.mov (.t 132))⟩, ⟨(some 134), (some (133, false)), (.mov (.t 12))⟩, ⟨(some 135), (some (133, false)), (.mov (.t 10))⟩, ⟨(some 136), (some (133, false)), (.bin .sub (.t 135) (.c (.int .i64 2)))⟩, ⟨(some 137), (some (133, false)), (.bin .lss (.t 134) (.t 136))⟩, ⟨(some 138), (some (133, false)), (.mov (.t 137))⟩, ⟨(some 139), (some (138, true)), (.mov (.t 8))⟩, ⟨(some 140), (some (138, true)), (.mov (.t 12))⟩, ⟨(some 141), (some (138, true)), (.ixs (.t 139) (.t 140) 3)⟩, ⟨(some 142), (some (138, true)), (.fad (.t 141) 2)⟩, ⟨(some 143), (some (138, true)), (.lde (.t 142) none)⟩, ⟨(some 144), (some (138, true)), (.len (.t 143))⟩, ⟨(some 145), (some (138, true)), (.bin .neq (.t 144) (.c (.int .i64 4096)))⟩, ⟨(some 146), (some (133, false)), (.pick (.t 138) (.t 145) (.c (.bool false)))⟩, ⟨(some 147), (some (117, true)), (.pick (.t 133) (.c (.bool true)) (.t 146))⟩, ⟨(some 148), (some (112, false)), (.pick (.t 117) (.t 147) (.c (.bool false)))⟩, ⟨(some 149), none, (.pick (.t 112) (.c (.bool true)) (.t 148))⟩]) (.cond (.t 149) (.seq (.ops [⟨(some 4), none, (.mov (.c (.bool false)))⟩]) .ret) .skip)) (.seq (.ops [⟨(some 150), none, (.mov (.t 12))⟩, ⟨(some 151), none, (.mov (.t 10))⟩, ⟨(some 152), none, (.bin .sub (.t 151) (.c (.int .i64 1)))⟩, ⟨(some 153), none, (.bin .lss (.t 150) (.t 152))⟩]) (.cond (.t 153) (.ops [⟨(some 154), none, (.mov (.t 11))⟩, ⟨(some 155), none, (.mov (.t 8))⟩, ⟨(some 156), none, (.mov (.t 12))⟩, ⟨(some 157), none, (.ixs (.t 155) (.t 156) 3)⟩, ⟨(some 158), none, (.fad (.t 157) 2)⟩, ⟨(some 159), none, (.lde (.t 158) none)⟩, ⟨(some 160), none, (.app (.t 154) (.t 159) 5 1 1 true)⟩, ⟨(some 11), none, (.mov (.t 160))⟩]) .skip)))) (.ops [⟨(some 101), none, (.mov (.t 12))⟩, ⟨(some 102), none, (.bin .add (.t 101) (.c (.int .i64 1)))⟩, ⟨(some 12), none, (.mov (.t 102))⟩])))
def F_w12_SnapSizes : F := ⟨(.seq (.ops [⟨(some 2), none, (.box (.t 0))⟩, ⟨(some 4), none, (.mov (.c (.bool false)))⟩]) (.seq (.ops [⟨(some 13), none, (.call 22 [])⟩, ⟨(some 5), none, (.mov (.t 13))⟩]) (.seq (.seq (.ops [⟨(some 14), none, (.ld (.t 2) (some 6))⟩, ⟨(some 15), none, (.call 23 [(.t 14)])⟩, ⟨(some 16), none, (.un .not (.t 15))⟩, ⟨(some 17), none, (.mov (.t 16))⟩, ⟨(some 18), (some (17, false)), (.ld (.t 2) (some 6))⟩, ⟨(some 19), (some (17, false)), (.call 34 [(.t 18)])⟩, ⟨(some 20), (some (17, false)), (.bin .neq (.t 19) (.c (.int .i64 0)))⟩, ⟨(some 21), none, (.pick (.t 17) (.c (.bool true)) (.t 20))⟩, ⟨(some 22), none, (.mov (.t 21))⟩, ⟨(some 23), (some (22, false)), (.mov (.t 1))⟩, ⟨(some 24), (some (22, false)), (.bin .lss (.t 23) (.c (.int .i64 0)))⟩, ⟨(some 25), none, (.pick (.t 22) (.c (.bool true)) (.t 24))⟩, ⟨(some 26), none, (.mov (.t 25))⟩, ⟨(some 27), (some (26, false)), (.mov (.t 1))⟩, ⟨(some 28), (some (26, false)), (.bin .gtr (.t 27) (.c (.int .i64 1099511627776)))⟩, ⟨(some 29), none, (.pick (.t 26) (.c (.bool true)) (.t 28))⟩]) (.cond (.t 29) (.seq (.ops [⟨(some 30), none, (.mov (.t 5))⟩, ⟨(some 4), none, (.mov (.t 30))⟩]) .ret) .skip)) (.seq (.ops [⟨(some 32), none, (.ld (.t 2) (some 6))⟩, ⟨(some 33), none, (.call 24 [(.t 32)])⟩, ⟨(some 31), none, (.mov (.t 33))⟩, ⟨(some 34), none, (.ext (.t 31) 0)⟩, ⟨(some 35), none, (.ext (.t 31) 1)⟩, ⟨(some 6), none, (.mov (.t 34))⟩, ⟨(some 7), none, (.mov (.t 35))⟩]) (.seq (.ops [⟨(some 37), none, (.ld (.t 2) (some 6))⟩, ⟨(some 38), none, (.mov (.t 1))⟩, ⟨(some 39), none, (.call 26 [(.t 37), (.t 38)])⟩, ⟨(some 36), none, (.mov (.t 39))⟩, ⟨(some 40), none, (.ext (.t 36) 0)⟩, ⟨(some 41), none, (.ext (.t 36) 1)⟩, ⟨(some 8), none, (.mov (.t 40))⟩, ⟨(some 9), none, (.mov (.t 41))⟩]) (.seq (.ops [⟨(some 42), none, (.mov (.t 8))⟩, ⟨(some 43), none, (.len (.t 42))⟩, ⟨(some 10), none, (.mov (.t 43))⟩]) (.seq (.seq (.dops false [] [⟨(some 44), none, (.mov (.t 7))⟩, ⟨(some 45), none, (.bin .neq (.t 44) (.c (.int .i64 0)))⟩, ⟨(some 46), none, (.mov (.t 45))⟩, ⟨(some 47), (some (46, false)), (.mov (.t 9))⟩, ⟨(some 48), (some (46, false)), (.bin .neq (.t 47) (.c (.int .i64 0)))⟩, ⟨(some 49), none, (.pick (.t 46) (.c (.bool true)) (.t 48))⟩, ⟨(some 50), none, (.mov (.t 49))⟩, ⟨(some 51), (some (50, false)), (.mov (.t 10))⟩, ⟨(some 52), (some (50, false)), (.bin .lss (.t 51) (.c (.int .i64 2)))⟩, ⟨(some 53), none, (.pick (.t 50) (.c (.bool true)) (.t 52))⟩, ⟨(some 54), none, (.mov (.t 53))⟩, ⟨(some 55), (some (54, false)), (.mov (.t 8))⟩, ⟨(some 56), (some (54, false)), (.mov (.t 10))⟩, ⟨(some 57), (some (54, false)), (.bin .sub (.t 56) (.c (.int .i64 1)))⟩, ⟨(some 58), (some (54, false)), (.ixs (.t 55) (.t 57) 3)⟩, ⟨(some 59), (some (54, false)), (.fad (.t 58) 0)⟩, ⟨(some 60), (some (54, false)), (.lde (.t 59) none)⟩, ⟨(some 61), (some (54, false)), (.bin .neq (.t 60) (.c (.int .i64 3)))⟩, ⟨(some 62), none, (.pick (.t 54) (.c (.bool true)) (.t 61))⟩, ⟨(some 63), none, (.mov (.t 62))⟩, ⟨(some 64), (some (63, false)), (.mov (.t 8))⟩, ⟨(some 65), (some (63, false)), (.mov (.t 10))⟩, ⟨(some 66), (some (63, false)), (.bin .sub (.t 65) (.c (.int .i64 1)))⟩, ⟨(some 67), (some (63, false)), (.ixs (.t 64) (.t 66) 3)⟩, ⟨(some 68), (some (63, false)), (.fad (.t 67) 2)⟩, ⟨(some 69), (some (63, false)), (.lde (.t 68) none)⟩, ⟨(some 70), (some (63, false)), (.len (.t 69))⟩, ⟨(some 71), (some (63, false)), (.bin .neq (.t 70) (.c (.int .i64 2)))⟩, ⟨(some 72), none, (.pick (.t 63) (.c (.bool true)) (.t 71))⟩, ⟨(some 73), none, (.mov (.t 72))⟩, ⟨(some 74), (some (73, false)), (.mov (.t 8))⟩, ⟨(some 75), (some (73, false)), (.mov (.t 10))⟩, ⟨(some 76), (some (73, false)), (.bin .sub (.t 75) (.c (.int .i64 1)))⟩, ⟨(some 77), (some (73, false)), (.ixs (.t 74) (.t 76) 3)⟩, ⟨(some 78), (some (73, false)), (.fad (.t 77) 2)⟩, ⟨(some 79), (some (73, false)), (.lde (.t 78) none)⟩, ⟨(some 80), (some (73, false)), (.ixs (.t 79) (.c (.int .i64 0)) 1)⟩, ⟨(some 81), (some (73, false)), (.lde (.t 80) none)⟩, ⟨(some 82), (some (73, false)), (.conv .i64 (.t 81))⟩, ⟨(some 83), (some (73, false)), (.mov (.t 8))⟩, ⟨(some 84), (some (73, false)), (.mov (.t 10))⟩, ⟨(some 85), (some (73, false)), (.bin .sub (.t 84) (.c (.int .i64 1)))⟩, ⟨(some 86), (some (73, false)), (.ixs (.t 83) (.t 85) 3)⟩, ⟨(some 87), (some (73, false)), (.fad (.t 86) 2)⟩, ⟨(some 88), (some (73, false)), (.lde (.t 87) none)⟩, ⟨(some 89), (some (73, false)), (.ixs (.t 88) (.c (.int .i64 1)) 1)⟩, ⟨(some 90), (some (73, false)), (.lde (.t 89) none)⟩, ⟨(some 91), (some (73, false)), (.conv .i64 (.t 90))⟩, ⟨(some 92), (some (73, false)), (.bin .mul (.c (.int .i64 256)) (.t 91))⟩, ⟨(some 93), (some (73, false)), (.bin .add (.t 82) (.t 92))⟩, ⟨(some 94), (some (73, false)), (.mov (.t 10))⟩, ⟨(some 95), (some (73, false)), (.bin .sub (.t 94) (.c (.int .i64 1)))⟩, ⟨(some 96), (some (73, false)), (.bin .neq (.t 93) (.t 95))⟩, ⟨(some 97), none, (.pick (.t 73) (.c (.bool true)) (.t 96))⟩]) (.cond (.t 97) (.seq (.ops [⟨(some 4), none, (.mov (.c (.bool false)))⟩]) .ret) .skip)) (.seq (.ops [⟨(some 11), none, (.nil 5 1 true)⟩]) (.seq (.seq (.ops [⟨(some 12), none, (.mov (.c (.int .i64 0)))⟩]) (.block 0 (.loop F_w12_SnapSizes_L0))) (.seq (.ops [⟨(some 161), none, (.mov (.t 5))⟩, ⟨(some 162), none, (.mov (.t 161))⟩, ⟨(some 163), (some (162, true)), (.mov (.t 11))⟩, ⟨(some 164), (some (162, true)), (.b2s (.t 163))⟩, ⟨(some 165), (some (162, true)), (.mov (.t 6))⟩, ⟨(some 166), (some (162, true)), (.b2s (.t 165))⟩, ⟨(some 167), (some (162, true)), (.bin .eql (.t 164) (.t 166))⟩, ⟨(some 168), none, (.pick (.t 162) (.t 167) (.c (.bool false)))⟩, ⟨(some 4), none, (.mov (.t 168))⟩]) .ret)))))))))), 169, [(.tmp 4)]⟩
theorem F_w12_SnapSizes_ok : compF Try.prog (fun _ => true) 9 = some F_w12_SnapSizes := by kernel_rfl
end Go.Av

namespace Go.Av.Pl
structure Rec where
  kind : Int
  seq : Int
  body : List UInt8
deriving DecidableEq
def Rec.zero : Rec := ⟨0, 0, []⟩
end Go.Av.Pl
namespace Go.Av
open Enc (enc dec)
open Cel (cs dc)
open Go.Proofs Pl

instance : Cel Rec where
  sz := 3
  cs x := [enc x.kind, enc x.seq, enc x.body]
  dc l := match l with
    | [a, b, c] => (dec a).bind fun a => (dec b).bind fun b => (dec c).bind fun c => some ⟨a, b, c⟩
    | _ => none
  len _ := rfl
  ok l x h := by
    split at h
    · simp only [Option.bind_eq_some_iff] at h
      obtain ⟨a, ha, b, hb, c, hc, h⟩ := h
      cases h
      exact wk_dec (wk_dec (wk_dec wk_nil hc) hb) ha
    · cases h
  cl x := by simp [clean_cs]
  de x := by simp [decX_map]
instance : Enc Rec := encC
@[simp] theorem sz_rec : Cel.sz Rec = 3 := rfl
@[simp] theorem cs_rec (x : Rec) : cs x = [.val (.int .i64 x.kind), .val (.int .i64 x.seq), .lit 1 (x.body.map cs)] := rfl
@[simp] theorem enc_rec (x : Rec) : (enc x : V) = .agg [.val (.int .i64 x.kind), .val (.int .i64 x.seq), .lit 1 (x.body.map cs)] := rfl
@[simp] theorem dc_rec (a b c : V) : (dc [a, b, c] : Option Rec) = (dec a).bind fun a => (dec b).bind fun b => (dec c).bind fun c => some ⟨a, b, c⟩ := rfl
@[simp] theorem dec_rec (l : List V) : (dec (.agg l) : Option Rec) = dc l := rfl

theorem c_r05_Same (a b : Rec) : Pure Try.prog n_r05_Same [enc a, enc b] (enc (decide (a = b))) [] := by
  refine Pure.ofC OOk.nil hm F_r05_Same_ok (by simp [F_r05_Same]) rfl ?_
  obtain ⟨a1, a2, a3⟩ := a
  obtain ⟨b1, b2, b3⟩ := b
  by_cases h1 : a1 = b1 <;> by_cases h2 : a2 = b2 <;> by_cases h3 : a3 = b3 <;> simp [F_r05_Same, h1, h2, h3]
@[simp] def sp_rsame (a b : Rec) : Option (V × List Tip) := some (enc (decide (a = b)), [])
theorem sp_rsame_ok : EOk Try.prog n_r05_Same (sp2 sp_rsame) := sp2_ok fun a b r h => by cases h; exact c_r05_Same a b
def D31 : Orc := Orc.nil.add n_r05_Same (sp2 sp_rsame)
theorem D31_ok : OOk Try.prog D31 := OOk.nil.add sp_rsame_ok
def RecAllI (a b : List Rec) (k : Nat) (s : Nat → V) (m : Mem) : Prop :=
  ∃ (i : Nat), i + k = a.length ∧ a.take i = b.take i ∧ s 0 = .lit 3 (a.map cs) ∧ s 1 = .lit 3 (b.map cs) ∧ s 5 = .val (.int .i64 i)
theorem c_r05_All (a b : List Rec) (ha : a.length ≤ 2 ^ 40) : Pure Try.prog n_r05_All [enc a, enc b] (enc (decide (a = b))) [] := by
  refine Pure.ofC D31_ok hm F_r05_All_ok (by simp [F_r05_All]) rfl ?_
  by_cases h4 : a.length = b.length
  · simp [F_r05_All, h4]
    refine wp_loop (RecAllI a b) a.length (IW.of ⟨0, by simp, by simp, by simp, by simp, by simp⟩) fun k s m ⟨i, hik, heq, s0, s1, s5⟩ => ?_
    by_cases hi : i < a.length
    · have hg : a[i]? = some a[i] := List.getElem?_eq_getElem hi
      have hic : i < b.length := by omega
      have hg' : b[i]? = some b[i] := List.getElem?_eq_getElem hic
      have w1 := IntWalk.i64_in ((i : Int) + 1) (by omega)
      have t1 : a.take (i + 1) = a.take i ++ [a[i]] := by rw [List.take_add_one, hg]; rfl
      have t2 : b.take (i + 1) = b.take i ++ [b[i]] := by rw [List.take_add_one, hg']; rfl
      by_cases hx : a[i] = b[i]
      · simp [F_r05_All_L0, D31, s0, s1, s5, hi, hic, hg, hg', w1, ← hx, ← h4]
        refine ⟨k - 1, by omega, IW.of (show RecAllI _ _ _ _ _ from ⟨i + 1, by omega, by rw [t1, t2, heq, hx], by simpa using s0, by simpa using s1, by simp⟩)⟩
      · have e : ¬ a = b := by
          rintro rfl
          exact hx rfl
        simp [F_r05_All_L0, D31, s0, s1, s5, hi, hic, hg, hg', w1, hx, ← h4, e]
    · have e : a = b := by
        rw [List.take_of_length_le (by omega), List.take_of_length_le (by omega)] at heq
        exact heq
      subst e
      simp [F_r05_All_L0, D31, s0, s1, s5, hi]
  · have e : ¬ a = b := fun e => h4 (by rw [e])
    have h4' : ¬ (a.length : Int) = b.length := by omega
    simp [F_r05_All, h4', e]
end Go.Av

namespace Go.Av
open Enc (enc dec)
open Cel (cs dc)
open Go.Proofs Pl

theorem underX_app {k j : Nat} : ∀ {a b : List (List V)}, underX k j (a ++ b) = (underX k j a && underX k j b)
  | [], b => rfl
  | x :: a, b => by simp only [List.cons_append, underX, underX_app (a := a), Bool.and_assoc]
/-- More bytes, and an error: in the boxes of a state's bytes. -/
def putM (m : Mem) (b : List UInt8) (e : Int) : Option Mem := match m.boxes with
  | b0 :: [.row t 1 xs] :: [.val (.int .i64 w)] :: bx => if m.tips[t]? = some (5, 1, xs.length) ∧ xs.length + b.length ≤ 2 ^ 40 then
      some ⟨b0 :: [.row t 1 (xs ++ b.map cs)] :: [.val (.int .i64 (max w e))] :: bx, m.tips.set t (5, 1, xs.length + b.length)⟩ else none
  | _ => none
theorem c_put (b0 : List V) (bx xs : List (List V)) (t : Nat) (w e : Int) (tips : List Tip) (b : List UInt8) (ht : tips[t]? = some (5, 1, xs.length)) (hb : xs.length + b.length ≤ 2 ^ 40) :
    Loc Try.prog n_snap_Write_1 [enc b, enc e, .ptr 1 0, .ptr 2 0] ⟨b0 :: [.row t 1 xs] :: [.val (.int .i64 w)] :: bx, tips⟩ (.tuple []) ⟨b0 :: [.row t 1 (xs ++ b.map cs)] :: [.val (.int .i64 (max w e))] :: bx, tips.set t (5, 1, xs.length + b.length)⟩ := by
  refine Loc.ofC OOk.nil hm F_snap_Write_1_ok (by simp [F_snap_Write_1]) (.inr ⟨[], rfl, rfl⟩) (bx.length + 3) tips.length (by simp) (by simp) fun hu => ?_
  simp only [List.length_cons, underX, Bool.and_eq_true, underL, V.under, decide_eq_true_eq, Bool.and_true] at hu
  obtain ⟨u1, ⟨u2, u3⟩, _, u4⟩ := hu
  simp [F_snap_Write_1, ht]
  refine ⟨by omega, ⟨u1, ⟨u2, ?_⟩, u4⟩, ?_⟩
  · rw [underX_app, u3, under_cs]; rfl
  · rw [List.take_of_length_le (by simp)]
theorem putM_of {b0 : List V} {bx xs : List (List V)} {t : Nat} {w e : Int} {tips : List Tip} {b : List UInt8} (ht : tips[t]? = some (5, 1, xs.length)) (hb : xs.length + b.length ≤ 2 ^ 40) :
    putM ⟨b0 :: [.row t 1 xs] :: [.val (.int .i64 w)] :: bx, tips⟩ b e = some ⟨b0 :: [.row t 1 (xs ++ b.map cs)] :: [.val (.int .i64 (max w e))] :: bx, tips.set t (5, 1, xs.length + b.length)⟩ := by
  simp only [putM]
  rw [if_pos ⟨ht, hb⟩]
theorem putM_some {m m' : Mem} {b : List UInt8} {e : Int} (h : putM m b e = some m') : ∃ b0 t xs w bx tips, m = ⟨b0 :: [.row t 1 xs] :: [.val (.int .i64 w)] :: bx, tips⟩ ∧ tips[t]? = some (5, 1, xs.length) ∧ xs.length + b.length ≤ 2 ^ 40 ∧ m' = ⟨b0 :: [.row t 1 (xs ++ b.map cs)] :: [.val (.int .i64 (max w e))] :: bx, tips.set t (5, 1, xs.length + b.length)⟩ := by
  obtain ⟨bo, tips⟩ := m
  unfold putM at h
  simp only at h
  split at h
  · split at h <;> cases h
    rename_i hc
    exact ⟨_, _, _, _, _, _, rfl, hc.1, hc.2, rfl⟩
  · cases h
def sp_put : List V → Mem → Option (V × Mem)
  | [a, e, .ptr 1 0, .ptr 2 0], m => (dec a : Option (List UInt8)).bind fun b => (dec e : Option Int).bind fun e => (putM m b e).map fun m' => (.tuple [], m')
  | _, _ => none
theorem sp_put_ok : EOkL Try.prog n_snap_Write_1 sp_put := by
  intro args m v m' h
  unfold sp_put at h
  split at h
  · simp only [Option.bind_eq_some_iff, Option.map_eq_some_iff] at h
    obtain ⟨b, hb, e, he, m1, h1, h⟩ := h
    cases h
    obtain ⟨b0, t, xs, w, bx, tips, rfl, ht, hl, rfl⟩ := putM_some h1
    exact (c_put b0 bx xs t w e tips b ht hl).wk (wk_dec (wk_dec (WkL.refl _) he) hb)
  · cases h
theorem sp_put_eq (b : List UInt8) (e : Int) (m : Mem) (a : V) (ha : dec a = some b) : sp_put [a, .val (.int .i64 e), .ptr 1 0, .ptr 2 0] m = (putM m b e).map fun m' => (.tuple [], m') := by
  simp [sp_put, ha]

@[simp] def sp_xwrite (l : List Xt) : Option (V × List Tip) := if l.length ≤ 2 ^ 20 then some (.tuple [.row 0 1 ((writeB l).map cs), enc (writeE l)], [(5, 1, (writeB l).length)]) else none
theorem sp_xwrite_ok : EOk Try.prog n_extent_Write (sp1 sp_xwrite) := sp1_ok fun l r h => by
  simp only [sp_xwrite] at h
  split at h <;> cases h
  exact c_ext_Write l (by assumption)
theorem sp_Put_ok : EOk Try.prog n_le_Put (sp3 sp_Put) := sp3_ok fun b v w r h => by
  simp only [sp_Put] at h
  split at h <;> cases h
  exact c_le_Put b v w (by assumption)
/-- A map's bytes, behind how many; and the error. -/
def cntB (l : List Xt) : List UInt8 := bytesPut [] (writeB l).length 2 ++ writeB l
def cntE (w : Int) (l : List Xt) : Int := max (max w (errPut (writeB l).length 2)) (writeE l)
theorem writeB_length (l : List Xt) : (writeB l).length ≤ 1 + 64 * 2055 := by
  unfold writeB
  split
  · rename_i h
    simp only [wrOk, Bool.and_eq_true, decide_eq_true_eq, List.all_eq_true] at h
    have : ∀ l : List Xt, (∀ x ∈ l, extOk x = true) → (l.flatMap wr1).length ≤ l.length * 2055 := by
      intro l
      induction l with
      | nil => intro _; simp
      | cons x l ih =>
        intro hx
        have h1 := wr1_length (hx x List.mem_cons_self)
        have h2 := ih fun y hy => hx y (List.mem_cons_of_mem _ hy)
        rw [List.flatMap_cons, List.length_append, List.length_cons]
        omega
    have := this l h.2
    rw [wrB, List.length_cons]
    omega
  · simp
def D32 : Orc := ((Orc.nil.add n_extent_Write (sp1 sp_xwrite)).add n_le_Put (sp3 sp_Put)).addL n_snap_Write_1 sp_put
theorem D32_ok : OOk Try.prog D32 := ((OOk.nil.add sp_xwrite_ok).add sp_Put_ok).addL sp_put_ok
theorem c_counted (b0 : List V) (bx xs : List (List V)) (t : Nat) (w : Int) (tips : List Tip) (l : List Xt) (ht : tips[t]? = some (5, 1, xs.length)) (hl : l.length ≤ 2 ^ 20) (hb : xs.length ≤ 2 ^ 39) :
    Loc Try.prog n_snap_Write_2 [enc l, .ptr 3 0] ⟨b0 :: [.row t 1 xs] :: [.val (.int .i64 w)] :: [.func 66 [.ptr 1 0, .ptr 2 0]] :: bx, tips⟩ (.tuple [])
      ⟨b0 :: [.row t 1 (xs ++ (cntB l).map cs)] :: [.val (.int .i64 (cntE w l))] :: [.func 66 [.ptr 1 0, .ptr 2 0]] :: bx, tips.set t (5, 1, xs.length + (cntB l).length)⟩ := by
  refine Loc.ofC D32_ok hm F_snap_Write_2_ok (by simp [F_snap_Write_2]) (.inr ⟨[], rfl, rfl⟩) (bx.length + 4) tips.length (by simp) (by simp) fun hu => ?_
  simp only [List.length_cons, underX, Bool.and_eq_true, underL, V.under, decide_eq_true_eq, Bool.and_true] at hu
  obtain ⟨u1, ⟨u2, u3⟩, _, _, u4⟩ := hu
  have hwl := writeB_length l
  have htl : t < tips.length := lt_of_some ht
  have w1 : IntKind.u64.wrap ((writeB l).length : Int) = (writeB l).length := IntWalk.u64_in _ (by omega)
  have hbp : (bytesPut [] (writeB l).length 2).length ≤ 2 := by
    unfold bytesPut
    split <;> simp [leB_length]
  have ht1 : (tips ++ [(5, 1, (writeB l).length)])[t]? = some (5, 1, xs.length) := by rw [List.getElem?_append_left htl]; exact ht
  have p1 := putM_of (b0 := b0) (bx := [.func 66 [.ptr 1 0, .ptr 2 0]] :: bx) (w := w) (e := errPut (writeB l).length 2) (b := bytesPut [] (writeB l).length 2) ht1 (by omega)
  have ht2 : ((tips ++ [(5, 1, (writeB l).length)]).set t (5, 1, xs.length + (bytesPut [] (writeB l).length 2).length))[t]? = some (5, 1, (xs ++ (bytesPut [] (writeB l).length 2).map cs).length) := by
    rw [List.getElem?_set_self (by simp; omega)]; simp
  have p2 := putM_of (b0 := b0) (bx := [.func 66 [.ptr 1 0, .ptr 2 0]] :: bx) (w := max w (errPut (writeB l).length 2)) (e := writeE l) (b := writeB l) ht2 (by simp; omega)
  simp [F_snap_Write_2, D32, hl, w1, sp_put, p1, p2, decX_map]
  refine ⟨⟨u1, ⟨htl, by rw [underX_app, underX_app, u3, under_cs, under_cs]; rfl⟩, u4⟩, ⟨by simp [cntB], by simp only [cntE]; omega⟩, ?_⟩
  rw [List.set_append_left _ _ htl, List.take_left' (by simp)]
  simp [cntB, Nat.add_assoc]
def cntM (m : Mem) (l : List Xt) : Option Mem := match m.boxes with
  | b0 :: [.row t 1 xs] :: [.val (.int .i64 w)] :: [.func 66 [.ptr 1 0, .ptr 2 0]] :: bx => if m.tips[t]? = some (5, 1, xs.length) ∧ xs.length ≤ 2 ^ 39 ∧ l.length ≤ 2 ^ 20 then
      some ⟨b0 :: [.row t 1 (xs ++ (cntB l).map cs)] :: [.val (.int .i64 (cntE w l))] :: [.func 66 [.ptr 1 0, .ptr 2 0]] :: bx, m.tips.set t (5, 1, xs.length + (cntB l).length)⟩ else none
  | _ => none
theorem cntM_of {b0 : List V} {bx xs : List (List V)} {t : Nat} {w : Int} {tips : List Tip} {l : List Xt} (ht : tips[t]? = some (5, 1, xs.length)) (hb : xs.length ≤ 2 ^ 39) (hl : l.length ≤ 2 ^ 20) :
    cntM ⟨b0 :: [.row t 1 xs] :: [.val (.int .i64 w)] :: [.func 66 [.ptr 1 0, .ptr 2 0]] :: bx, tips⟩ l = some ⟨b0 :: [.row t 1 (xs ++ (cntB l).map cs)] :: [.val (.int .i64 (cntE w l))] :: [.func 66 [.ptr 1 0, .ptr 2 0]] :: bx, tips.set t (5, 1, xs.length + (cntB l).length)⟩ := by
  simp only [cntM]
  rw [if_pos ⟨ht, hb, hl⟩]
def sp_counted : List V → Mem → Option (V × Mem)
  | [a, .ptr 3 0], m => (dec a : Option (List Xt)).bind fun l => (cntM m l).map fun m' => (.tuple [], m')
  | _, _ => none
theorem sp_counted_ok : EOkL Try.prog n_snap_Write_2 sp_counted := by
  intro args m v m' h
  unfold sp_counted at h
  split at h
  · simp only [Option.bind_eq_some_iff, Option.map_eq_some_iff] at h
    obtain ⟨l, hl, m1, h1, h⟩ := h
    cases h
    obtain ⟨bo, tips⟩ := m
    unfold cntM at h1
    simp only at h1
    split at h1
    · split at h1 <;> cases h1
      rename_i hc
      exact (c_counted _ _ _ _ _ tips l hc.1 hc.2.2 hc.2.1).wk (wk_dec (WkL.refl _) hl)
    · cases h1
  · cases h
end Go.Av

namespace Go.Av
open Enc (enc dec)
open Cel (cs dc)
open Go.Proofs Pl

theorem mapFrom_len : ∀ {l : List Xt} {a b : Int} {p : Option Xt}, mapFrom a p l = some b → (l.length : Int) ≤ b - a ∧ ((l.flatMap wr1).length : Int) ≤ 39 * (b - a) ∧ l.all extOk = true
  | [], a, b, p, h => by simp only [mapFrom, Option.some.injEq] at h; simp; omega
  | x :: l, a, b, p, h => by
    simp only [mapFrom] at h
    split at h
    · rename_i hc
      obtain ⟨h1, h2, h3⟩ := mapFrom_len h
      have hx := extOk_iff.1 hc.1
      have h4 : (wr1 x).length = 7 + x.data.length := by simp [wr1, hdX_length]
      have h5 := hx.2.2.2.2.2.2.2.2
      rw [List.flatMap_cons, List.length_append, List.length_cons]
      refine ⟨by omega, ?_, by simp [hc.1, h3]⟩
      split at h5 <;> omega
    · cases h
theorem mapOk_wr {n : Int} {l : List Xt} (h : mapOk n l = true) : wrOk l = true ∧ (writeB l).length ≤ 2500 ∧ writeB l = wrB l ∧ writeE l = 0 := by
  have hn := mapOk_le h
  simp only [mapOk, Bool.and_eq_true, decide_eq_true_eq] at h
  obtain ⟨h1, h2, h3⟩ := mapFrom_len h.2
  have hw : wrOk l = true := by simp only [wrOk, h3, Bool.and_true, decide_eq_true_eq]; omega
  have e : writeB l = wrB l := by simp [writeB, hw]
  refine ⟨hw, ?_, e, by simp [writeE, hw]⟩
  rw [e, wrB, List.length_cons]
  omega
/-- A map's bytes, behind how many. -/
def mapB (l : List Xt) : List UInt8 := leB (wrB l).length 2 ++ wrB l
theorem cnt_ok {n : Int} {l : List Xt} (h : mapOk n l = true) : cntB l = mapB l ∧ cntE 0 l = 0 := by
  obtain ⟨h1, h2, h3, h4⟩ := mapOk_wr h
  have hm : mayB (wrB l).length 2 = true := by rw [← h3]; simp [mayB]; omega
  rw [cntB, cntE, h3, h4]
  simp [bytesPut, errPut, hm, mapB]
theorem mapB_length {n : Int} {l : List Xt} (h : mapOk n l = true) : (mapB l).length ≤ 2502 := by
  obtain ⟨h1, h2, h3, h4⟩ := mapOk_wr h
  rw [h3] at h2
  simp [mapB, leB_length]
  omega
def headB (s : Sta) : List UInt8 := leB s.blocks.toNat 1 ++ (leB s.gen.toNat 4 ++ (leB s.last.toNat 4 ++ (leB s.pts.length 1 ++ leB s.staged.length 2)))
def ptB (p : Pt) : List UInt8 := (leB p.id.toNat 4 ++ leB p.gen.toNat 4) ++ mapB p.map
def bodyS (s : Sta) : List UInt8 := ((headB s ++ s.staged) ++ mapB s.map) ++ s.pts.flatMap ptB
def snapB (s : Sta) : List UInt8 := if staOk s = true then sealS (bodyS s) else []
/-- What is known of a checkpoint of a state that may be. -/
def ptFine (q : Sta) (p : Pt) : Prop := mapOk q.blocks p.map = true ∧ 0 < p.id ∧ p.id ≤ q.last ∧ 0 < p.gen ∧ p.gen < q.gen
theorem ptsOk_fine {q : Sta} : ∀ {l : List Pt} {w : Pt}, ptsOk q w l = true → 0 ≤ w.id → 0 ≤ w.gen → ∀ p ∈ l, ptFine q p
  | [], _, _, _, _, p, hp => by cases hp
  | x :: l, w, h, h1, h2, p, hp => by
    simp only [ptsOk, ptOk, Bool.and_eq_true, decide_eq_true_eq, uptoOk] at h
    obtain ⟨⟨⟨⟨⟨⟨⟨a1, _⟩, a2⟩, a3⟩, a4⟩, a5⟩, _⟩, hr⟩ := h
    rcases List.mem_cons.1 hp with rfl | hp
    · exact ⟨a1, by omega, a3, by omega, a5⟩
    · exact ptsOk_fine hr (by omega) (by omega) p hp
theorem staOk_fine {q : Sta} (h : staOk q = true) : mapOk q.blocks q.map = true ∧ 1 ≤ q.gen ∧ q.gen ≤ 2147483647 ∧ q.pts.length ≤ 4 ∧ 0 ≤ q.last ∧ q.last ≤ 2147483647 ∧ q.staged.length ≤ 4000 ∧ ∀ p ∈ q.pts, ptFine q p := by
  simp only [staOk, staMay, uptoOk, Bool.and_eq_true, decide_eq_true_eq] at h
  obtain ⟨⟨⟨⟨⟨⟨h1, h2⟩, h3⟩, h4⟩, h5⟩, h6⟩, _⟩ := h
  exact ⟨h1.1, h2.1, h2.2, h3, h4.1, h4.2, h5, ptsOk_fine h6 (Int.le_refl _) (Int.le_refl _)⟩
end Go.Av

namespace Go.Av
open Enc (enc dec)
open Cel (cs dc)
open Go.Proofs Pl

@[simp] def sp_stCheck (q : Sta) : Option (V × List Tip) := if q.map.length ≤ 2 ^ 30 ∧ q.pts.length ≤ 2 ^ 30 ∧ (∀ p ∈ q.pts, p.map.length ≤ 2 ^ 30) ∧ q.staged.length ≤ 2 ^ 30 then some (enc (staE q), []) else none
theorem sp_stCheck_ok : EOk Try.prog n_state_Check (sp1 sp_stCheck) := sp1_ok fun q r h => by
  simp only [sp_stCheck] at h
  split at h <;> cases h
  exact c_st_Check q (by assumption)
theorem sp_Seal_ok : EOk Try.prog n_crc_Seal (sp1 sp_Seal) := sp1_ok fun l r h => by
  simp only [sp_Seal] at h
  split at h <;> cases h
  exact c_crc_Seal l (by assumption)
def D33 : Orc := ((((Orc.nil.add n_state_Check (sp1 sp_stCheck)).add n_le_Pack (sp2 sp_pack)).add n_crc_Seal (sp1 sp_Seal)).addL n_snap_Write_1 sp_put).addL n_snap_Write_2 sp_counted
theorem D33_ok : OOk Try.prog D33 := ((((OOk.nil.add sp_stCheck_ok).add sp_pack_ok).add sp_Seal_ok).addL sp_put_ok).addL sp_counted_ok
theorem f_bwwbh : formOk ⟨#[98, 119, 119, 98, 104]⟩ = true := by decide
theorem f_ww : formOk ⟨#[119, 119]⟩ = true := by decide
def SWriteI (q : Sta) (k : Nat) (s : Nat → V) (m : Mem) : Prop :=
  ∃ (i t : Nat) (bx : List (List V)) (tips : List Tip) (acc : List UInt8), i + k = q.pts.length ∧ s 1 = .ptr 0 0 ∧ s 5 = .ptr 1 0 ∧ s 6 = .ptr 2 0 ∧ s 7 = .ptr 3 0 ∧ s 8 = .func n_snap_Write_2 [.ptr 3 0] ∧ s 50 = .lit 3 (q.pts.map cs) ∧ s 51 = .val (.int .i64 q.pts.length) ∧ s 52 = .val (.int .i64 i) ∧
    acc = ((headB q ++ q.staged) ++ mapB q.map) ++ (q.pts.take i).flatMap ptB ∧ acc.length ≤ 10000 + 2520 * i ∧ m = ⟨cs q :: [.row t 1 (acc.map cs)] :: [.val (.int .i64 0)] :: [.func n_snap_Write_1 [.ptr 1 0, .ptr 2 0]] :: bx, tips⟩ ∧ tips[t]? = some (5, 1, acc.length)
set_option maxRecDepth 4000 in
theorem c_snap_Write (q : Sta) (hq : staLen q) : Pure Try.prog n_snap_Write [enc q] (.tuple [.row 0 1 ((snapB q).map cs), enc (staE q)]) [(5, 1, (snapB q).length)] := by
  have hq' := hq
  unfold staLen at hq'
  refine Pure.ofR D33_ok hm F_snap_Write_ok (by simp [F_snap_Write]) (by simp [V.res, V.res1]) ?_
  cases hok : staOk q with
  | false =>
    have e : staE q = 110 := by simp [staE, hok]
    simp [F_snap_Write, D33, hq', e, snapB, hok]
    exact hq'.2.2.1
  | true =>
    have e : staE q = 0 := by simp [staE, hok]
    obtain ⟨f1, f2, f3, f4, f5, f6, f7, f8⟩ := staOk_fine hok
    have fb := mapOk_le f1
    have v1 : IntKind.u64.wrap q.blocks = q.blocks := IntWalk.u64_in _ (by omega)
    have v2 : IntKind.u64.wrap q.gen = q.gen := IntWalk.u64_in _ (by omega)
    have v3 : IntKind.u64.wrap q.last = q.last := IntWalk.u64_in _ (by omega)
    have v4 : IntKind.u64.wrap (q.pts.length : Int) = q.pts.length := IntWalk.u64_in _ (by omega)
    have v5 : IntKind.u64.wrap (q.staged.length : Int) = q.staged.length := IntWalk.u64_in _ (by omega)
    have hp : packS [98, 119, 119, 98, 104] [q.blocks.toNat, q.gen.toNat, q.last.toNat, q.pts.length, q.staged.length] = some (headB q) := by
      have m1 : mayB q.blocks.toNat 1 = true := by simp [mayB]; omega
      have m2 : mayB q.gen.toNat 4 = true := by simp [mayB]; omega
      have m3 : mayB q.last.toNat 4 = true := by simp [mayB]; omega
      have m4 : mayB q.pts.length 1 = true := by simp [mayB]; omega
      have m5 : mayB q.staged.length 2 = true := by simp [mayB]; omega
      simp [packS, sizeL, m1, m2, m3, m4, m5, headB]
    have hp1 : packB [98, 119, 119, 98, 104] [q.blocks.toNat, q.gen.toNat, q.last.toNat, q.pts.length, q.staged.length] = headB q := by simp [packB, hp]
    have hp2 : packE [98, 119, 119, 98, 104] [q.blocks.toNat, q.gen.toNat, q.last.toNat, q.pts.length, q.staged.length] = 0 := by simp [packE, hp]
    have hhl : (headB q).length = 12 := by simp [headB, leB_length]
    obtain ⟨c1, c2⟩ := cnt_ok f1
    have c3 := mapB_length f1
    have f2' : (0 : Int) ≤ q.gen := by omega
    have fb' : (0 : Int) ≤ q.blocks := by omega
    simp [F_snap_Write, D33, hq', e, v1, v2, v3, v4, v5, f_bwwbh, hp1, hp2, hhl, sp_put, sp_counted, putM, cntM, decX_map, c1, c2, f2', fb', f5]
    have hml : (q.map.length : Int) ≤ 64 := by
      have h := f1
      simp only [mapOk, Bool.and_eq_true, decide_eq_true_eq] at h
      have := (mapFrom_len h.2).1
      omega
    refine ⟨hq'.2.2.1, by omega, ⟨by omega, by omega⟩, ?_⟩
    refine wp_loop (SWriteI q) q.pts.length (IW.of ⟨0, 1, [], [(5, 1, 0), (5, 1, 12 + q.staged.length + (mapB q.map).length), (114, 1, 5)], ((headB q ++ q.staged) ++ mapB q.map) ++ (q.pts.take 0).flatMap ptB, by omega, by simp, by simp, by simp, by simp, by simp, by simp, by simp, by simp, rfl, by simp [hhl]; omega, by simp, by simp [hhl]; omega⟩) fun k s m ⟨i, t, bx, tips, acc, hik, s1, s5, s6, s7, s8, s50, s51, s52, hacc, hal, hm, ht⟩ => ?_
    subst hm
    by_cases hi : i < q.pts.length
    · have hg : q.pts[i]? = some q.pts[i] := List.getElem?_eq_getElem hi
      have w1 := IntWalk.i64_in ((i : Int) + 1) (by omega)
      have ht1 : q.pts.take (i + 1) = q.pts.take i ++ [q.pts[i]] := by rw [List.take_add_one, hg]; rfl
      obtain ⟨p, hpe⟩ : ∃ p, p = q.pts[i] := ⟨_, rfl⟩
      obtain ⟨g1, g2, g3, g4, g5⟩ := f8 q.pts[i] (List.getElem_mem hi)
      rw [← hpe] at ht1 g1 g2 g3 g4 g5
      have htl : t < tips.length := lt_of_some ht
      have u1 : IntKind.u64.wrap p.id = p.id := IntWalk.u64_in _ (by omega)
      have u2 : IntKind.u64.wrap p.gen = p.gen := IntWalk.u64_in _ (by omega)
      have hpp : packS [119, 119] [p.id.toNat, p.gen.toNat] = some (leB p.id.toNat 4 ++ leB p.gen.toNat 4) := by
        have m1 : mayB p.id.toNat 4 = true := by simp [mayB]; omega
        have m2 : mayB p.gen.toNat 4 = true := by simp [mayB]; omega
        simp [packS, sizeL, m1, m2]
      have hpp1 : packB [119, 119] [p.id.toNat, p.gen.toNat] = leB p.id.toNat 4 ++ leB p.gen.toNat 4 := by simp [packB, hpp]
      have hpp2 : packE [119, 119] [p.id.toNat, p.gen.toNat] = 0 := by simp [packE, hpp]
      obtain ⟨d1, d2⟩ := cnt_ok g1
      have d3 := mapB_length g1
      have hml2 : (p.map.length : Int) ≤ 64 := by
        have h := g1
        simp only [mapOk, Bool.and_eq_true, decide_eq_true_eq] at h
        have := (mapFrom_len h.2).1
        omega
      have g2' : (0 : Int) ≤ p.id := by omega
      have g4' : (0 : Int) ≤ p.gen := by omega
      simp [F_snap_Write_L0, D33, s1, s5, s6, s7, s8, s50, s51, s52, hi, hg, ← hpe, w1, u1, u2, f_ww, hpp1, hpp2, sp_put, sp_counted, putM, cntM, decX_map, d1, d2, g2', g4', leB_length, List.getElem?_append_left htl, ht, tipset htl]
      refine ⟨by omega, ⟨by omega, by omega⟩, k - 1, by omega, IW.of (show SWriteI q _ _ _ from ⟨i + 1, t, _, _, acc ++ ptB p, by omega, by simpa using s1, by simpa using s5, by simpa using s6, by simpa using s7, by simpa using s8, by simpa using s50, by simpa using s51, by simp, ?_, ?_, by simp [ptB]; exact ⟨rfl, rfl⟩, ?_⟩)⟩
      · rw [hacc, ht1, List.flatMap_append]; simp
      · simp [ptB, leB_length]; omega
      · rw [List.getElem?_set_self (by simp; omega)]
        simp [ptB, leB_length, Nat.add_assoc]
        omega
    · have hil : i = q.pts.length := by omega
      rw [hil, List.take_length] at hacc
      have e2 : snapB q = sealS acc := by simp [snapB, hok, bodyS, hacc]
      simp [F_snap_Write_L0, D33, s1, s5, s6, s7, s8, s50, s51, s52, hi, F_snap_Write, decX_map, e2]
      omega
end Go.Av

namespace Go.Av
open Enc (enc dec)
open Cel (cs dc)
open Go.Proofs Pl

/-- The text that is still to be read. -/
def txtV : V → Option (List UInt8)
  | .lit 1 xs => decX xs
  | .row _ 1 xs => decX xs
  | _ => none
theorem txtV_cases {v : V} {l : List UInt8} (h : txtV v = some l) : v = .lit 1 (l.map cs) ∨ ∃ t, v = .row t 1 (l.map cs) := by
  unfold txtV at h
  split at h
  · exact .inl (by rw [decX_u8 h])
  · exact .inr ⟨_, by rw [decX_u8 h]⟩
  · cases h
@[simp] theorem txtV_lit (l : List UInt8) : txtV (.lit 1 (l.map cs)) = some l := decX_map l
@[simp] theorem txtV_row (t : Nat) (l : List UInt8) : txtV (.row t 1 (l.map cs)) = some l := decX_map l
/-- The text's box behind so many bytes. -/
def numV (v : V) (w : Bool) (l : List UInt8) (n : Int) : V := if w = true ∨ (l.length : Int) < n then v else .lit 1 ((l.drop n.toNat).map cs)
/-- The bytes that are cut. -/
def cutL (w : Bool) (l : List UInt8) (n : Int) : List UInt8 := if w = true ∨ (l.length : Int) < n then [] else l.take n.toNat
def cutW (w : Bool) (l : List UInt8) (n : Int) : Bool := w || decide ((l.length : Int) < n)
/-- So many bytes of it. -/
def cutM (m : Mem) (n : Int) : Option (List UInt8 × Mem) := match m.boxes with
  | b0 :: [v] :: [.val (.bool w)] :: bx => (txtV v).bind fun l => if 0 ≤ n ∧ l.length ≤ 2 ^ 40 then
      some (cutL w l n, ⟨b0 :: [numV v w l n] :: [.val (.bool (cutW w l n))] :: bx, m.tips⟩) else none
  | _ => none
theorem c_cut (b0 : List V) (bx : List (List V)) (v : V) (w : Bool) (tips : List Tip) (n : Int) (l : List UInt8) (hv : txtV v = some l) (hn : 0 ≤ n) (hl : l.length ≤ 2 ^ 40) :
    Loc Try.prog n_snap_Read_1 [enc n, .ptr 2 0, .ptr 1 0] ⟨b0 :: [v] :: [.val (.bool w)] :: bx, tips⟩ (enc (cutL w l n))
      ⟨b0 :: [numV v w l n] :: [.val (.bool (cutW w l n))] :: bx, tips⟩ := by
  refine Loc.ofC OOk.nil hm F_snap_Read_1_ok (by simp [F_snap_Read_1]) (.inl (by simp [cleanL, Enc.cl])) (bx.length + 3) tips.length (by simp) (by simp) fun hu => ?_
  simp only [List.length_cons, underX, Bool.and_eq_true, underL, V.under, decide_eq_true_eq, Bool.and_true] at hu
  obtain ⟨u1, u2, _, u3⟩ := hu
  have ua : ∀ l : List UInt8, underX (bx.length + 3) tips.length (l.map cs) = true := fun l => under_cs _ _ l
  have uc : underX (bx.length + 3) tips.length ((l.map cs).drop n.toNat) = true := by rw [← List.map_drop]; exact ua _
  rcases txtV_cases hv with rfl | ⟨t, rfl⟩
  · cases w with
    | true => simp [F_snap_Read_1, cutL, cutW, numV, u1, u3, ua]
    | false =>
      by_cases h : (l.length : Int) < n
      · simp [F_snap_Read_1, cutL, cutW, numV, u1, u3, h, ua]
      · simp [F_snap_Read_1, cutL, cutW, numV, u1, u3, h, uc, mxOk]
        omega
  · simp only [V.under, Bool.and_eq_true, decide_eq_true_eq] at u2
    cases w with
    | true => simp [F_snap_Read_1, cutL, cutW, numV, u1, u2.1, u3, ua]
    | false =>
      by_cases h : (l.length : Int) < n
      · simp [F_snap_Read_1, cutL, cutW, numV, u1, u2.1, u3, h, ua]
      · simp [F_snap_Read_1, cutL, cutW, numV, u1, u3, h, uc, mxOk]
        omega
def sp_cut1 : List V → Mem → Option (V × Mem)
  | [a, .ptr 2 0, .ptr 1 0], m => (dec a : Option Int).bind fun n => (cutM m n).map fun p => (enc p.1, p.2)
  | _, _ => none
theorem sp_cut1_ok : EOkL Try.prog n_snap_Read_1 sp_cut1 := by
  intro args m v m' h
  unfold sp_cut1 at h
  split at h
  · simp only [Option.bind_eq_some_iff, Option.map_eq_some_iff] at h
    obtain ⟨n, hn, p, hp, h⟩ := h
    cases h
    obtain ⟨bo, tips⟩ := m
    unfold cutM at hp
    simp only at hp
    split at hp
    · rename_i b0 v w bx
      simp only [Option.bind_eq_some_iff] at hp
      obtain ⟨l, hl, hp⟩ := hp
      split at hp
      · rename_i hc
        cases hp
        exact (c_cut b0 bx v w tips n l hl hc.1 hc.2).wk (wk_dec (WkL.refl _) hn)
      · cases hp
    · cases hp
  · cases h
end Go.Av

namespace Go.Av
open Enc (enc dec)
open Cel (cs dc)
open Go.Proofs Pl

/-- Is it wrong, behind so many bytes more that are read by a form? -/
def numW (w : Bool) (l : List UInt8) (f : List UInt8) (n : Int) : Bool := cutW w l n || decide (unpackE f (cutL w l n) ≠ 0)
def numL (w : Bool) (l : List UInt8) (f : List UInt8) (n : Int) : List Nat := if numW w l f n = true then List.replicate f.length 0 else unpackN f (cutL w l n)
theorem cutL_length (w : Bool) (l : List UInt8) (n : Int) : (cutL w l n).length ≤ l.length := by
  unfold cutL
  split
  · simp
  · simp; omega
def D34 : Orc := (Orc.nil.add n_le_Unpack (sp2 sp_unpack)).addL n_snap_Read_1 sp_cut1
theorem D34_ok : OOk Try.prog D34 := (OOk.nil.add sp_unpack_ok).addL sp_cut1_ok
theorem txtV_under {v : V} {l : List UInt8} {k j : Nat} (h : txtV v = some l) (hu : V.under k j v = true) (w : Bool) (n : Int) : V.under k j (numV v w l n) = true := by
  unfold numV
  split
  · exact hu
  · exact under_cs _ _ _
theorem c_numbers (b0 : List V) (bx : List (List V)) (v : V) (w : Bool) (tips : List Tip) (f : List UInt8) (n : Int) (l : List UInt8) (hf : formOk ⟨f.toArray⟩ = true) (hv : txtV v = some l) (hn : 0 ≤ n) (hl : l.length ≤ 2 ^ 40) :
    Loc Try.prog n_snap_Read_2 [enc (⟨f.toArray⟩ : ByteArray), enc n, .ptr 3 0, .ptr 2 0] ⟨b0 :: [v] :: [.val (.bool w)] :: [.func 80 [.ptr 2 0, .ptr 1 0]] :: bx, tips⟩ (enc (numL w l f n))
      ⟨b0 :: [numV v w l n] :: [.val (.bool (numW w l f n))] :: [.func 80 [.ptr 2 0, .ptr 1 0]] :: bx, tips⟩ := by
  refine Loc.ofC D34_ok hm F_snap_Read_2_ok (by simp [F_snap_Read_2]) (.inl (by simp [cleanL, Enc.cl])) (bx.length + 4) tips.length (by simp) (by simp) fun hu => ?_
  simp only [List.length_cons, underX, Bool.and_eq_true, underL, V.under, decide_eq_true_eq, Bool.and_true] at hu
  obtain ⟨u1, u2, _, _, u3⟩ := hu
  have uv := txtV_under hv u2 w n
  have hfs : f.length ≤ 2 ^ 30 := by have := (formOk_spec hf).2; simpa using this
  have hsz : (⟨f.toArray⟩ : ByteArray).size = f.length := by simp [ByteArray.size]
  have hcl := cutL_length w l n
  have hcl2 : (cutL w l n).length ≤ 1099511627776 := by omega
  have hfs2 : (f.length : Int) * 8 ≤ 140737488355328 := by omega
  cases hc : cutW w l n with
  | true =>
    have e1 : numW w l f n = true := by simp [numW, hc]
    have e3 : numL w l f n = List.replicate f.length 0 := by simp [numL, e1]
    simp [F_snap_Read_2, D34, sp_cut1, cutM, hv, hn, hl, hc, e1, e3, u1, u3, uv, hf, hsz, hcl2, hfs2, decX_map]
  | false =>
    by_cases hu : unpackE f (cutL w l n) = 0
    · have e1 : numW w l f n = false := by simp [numW, hc, hu]
      have e3 : numL w l f n = unpackN f (cutL w l n) := by simp [numL, e1]
      simp [F_snap_Read_2, D34, sp_cut1, cutM, hv, hn, hl, hc, e1, e3, u1, u3, uv, hf, hu, hcl2, decX_map]
    · have e1 : numW w l f n = true := by simp [numW, hu]
      have e3 : numL w l f n = List.replicate f.length 0 := by simp [numL, e1]
      simp [F_snap_Read_2, D34, sp_cut1, cutM, hv, hn, hl, hc, e1, e3, u1, u3, uv, hf, hu, hsz, hcl2, hfs2, decX_map]
/-- What is still to be read behind so many bytes. -/
def numR (w : Bool) (l : List UInt8) (n : Int) : List UInt8 := if w = true ∨ (l.length : Int) < n then l else l.drop n.toNat
theorem numV_txt {v : V} {l : List UInt8} (h : txtV v = some l) (w : Bool) (n : Int) : txtV (numV v w l n) = some (numR w l n) := by
  unfold numV numR
  split
  · exact h
  · exact txtV_lit _
def numM (m : Mem) (f : List UInt8) (n : Int) : Option (List Nat × Mem) := match m.boxes with
  | b0 :: [v] :: [.val (.bool w)] :: [.func 80 [.ptr 2 0, .ptr 1 0]] :: bx => (txtV v).bind fun l => if formOk ⟨f.toArray⟩ = true ∧ 0 ≤ n ∧ l.length ≤ 2 ^ 40 then
      some (numL w l f n, ⟨b0 :: [numV v w l n] :: [.val (.bool (numW w l f n))] :: [.func 80 [.ptr 2 0, .ptr 1 0]] :: bx, m.tips⟩) else none
  | _ => none
def sp_numbers : List V → Mem → Option (V × Mem)
  | [f, a, .ptr 3 0, .ptr 2 0], m => (dec f : Option ByteArray).bind fun f => (dec a : Option Int).bind fun n => (numM m f.data.toList n).map fun p => (enc p.1, p.2)
  | _, _ => none
theorem sp_numbers_ok : EOkL Try.prog n_snap_Read_2 sp_numbers := by
  intro args m v m' h
  unfold sp_numbers at h
  split at h
  · simp only [Option.bind_eq_some_iff, Option.map_eq_some_iff] at h
    obtain ⟨f, hf, n, hn, p, hp, h⟩ := h
    cases h
    obtain ⟨bo, tips⟩ := m
    unfold numM at hp
    simp only at hp
    split at hp
    · rename_i b0 v w bx
      simp only [Option.bind_eq_some_iff] at hp
      obtain ⟨l, hl, hp⟩ := hp
      split at hp
      · rename_i hc
        have := c_numbers b0 bx v w tips f.data.toList n l hc.1 hl hc.2.1 hc.2.2
        rw [ba_eta] at this
        have := this.wk (wk_dec (wk_dec (WkL.refl _) hn) hf)
        cases hp
        exact this
      · cases hp
    · cases hp
  · cases h
@[simp] def sp_xread (b : List UInt8) : Option (V × List Tip) := if b.length ≤ 2 ^ 40 then some (.tuple [.row 0 5 ((readL b).map cs), enc (readE b)], [(174, 5, (readL b).length)]) else none
theorem sp_xread_ok : EOk Try.prog n_extent_Read (sp1 sp_xread) := sp1_ok fun b r h => by
  simp only [sp_xread] at h
  split at h <;> cases h
  exact c_ext_Read b (by assumption)
end Go.Av

namespace Go.Av
open Enc (enc dec)
open Cel (cs dc)
open Go.Proofs Pl

/-- How many bytes a map has; its bytes; it. -/
def mpN (w : Bool) (l : List UInt8) : Nat := (numL w l [104] 2).headD 0
def mpT (w : Bool) (l : List UInt8) : List UInt8 := cutL (numW w l [104] 2) (numR w l 2) (mpN w l)
def mpL (w : Bool) (l : List UInt8) : List Xt := readL (mpT w l)
def mpW (w : Bool) (l : List UInt8) : Bool := cutW (numW w l [104] 2) (numR w l 2) (mpN w l) || decide (readE (mpT w l) ≠ 0)
def mpTV (v : V) (w : Bool) (l : List UInt8) : V := numV (numV v w l 2) (numW w l [104] 2) (numR w l 2) (mpN w l)
def mpR (w : Bool) (l : List UInt8) : List UInt8 := numR (numW w l [104] 2) (numR w l 2) (mpN w l)
theorem numR_length (w : Bool) (l : List UInt8) (n : Int) : (numR w l n).length ≤ l.length := by
  unfold numR
  split
  · exact Nat.le_refl _
  · simp
theorem mpTV_txt {v : V} {l : List UInt8} (h : txtV v = some l) (w : Bool) : txtV (mpTV v w l) = some (mpR w l) := numV_txt (numV_txt h w 2) _ _
theorem numL_one (w : Bool) (l : List UInt8) : ∃ x, numL w l [104] 2 = [x] ∧ x < 65536 := by
  unfold numL
  split
  · exact ⟨0, rfl, by omega⟩
  · rename_i h
    simp only [numW, cutW, Bool.not_eq_true, Bool.or_eq_false_iff, decide_eq_false_iff_not, ne_eq, Decidable.not_not] at h
    have h2 : ¬ (l.length : Int) < 2 := h.1.2
    have hcl : cutL w l 2 = l.take 2 := by rw [cutL, if_neg (by simp [h.1.1, h2])]; rfl
    rw [hcl]
    have hl : (l.take 2).length = 2 := by simp; omega
    have hlt := leN_lt (l.take 2)
    rw [hl] at hlt
    refine ⟨leN (l.take 2), ?_, by omega⟩
    match l, hl with
    | a :: b :: r, _ => simp [unpackN, unpackS, sizeL, okT, mayB]
def D35 : Orc := ((Orc.nil.add n_extent_Read (sp1 sp_xread)).addL n_snap_Read_1 sp_cut1).addL n_snap_Read_2 sp_numbers
theorem D35_ok : OOk Try.prog D35 := ((OOk.nil.add sp_xread_ok).addL sp_cut1_ok).addL sp_numbers_ok
theorem f_h : formOk ⟨#[104]⟩ = true := by decide
theorem c_mapped (b0 : List V) (bx : List (List V)) (v : V) (w : Bool) (tips : List Tip) (l : List UInt8) (hv : txtV v = some l) (hl : l.length ≤ 2 ^ 40) :
    Loc Try.prog n_snap_Read_3 [.ptr 4 0, .ptr 3 0, .ptr 2 0] ⟨b0 :: [v] :: [.val (.bool w)] :: [.func 80 [.ptr 2 0, .ptr 1 0]] :: [.func 81 [.ptr 3 0, .ptr 2 0]] :: bx, tips⟩ (enc (mpL w l))
      ⟨b0 :: [mpTV v w l] :: [.val (.bool (mpW w l))] :: [.func 80 [.ptr 2 0, .ptr 1 0]] :: [.func 81 [.ptr 3 0, .ptr 2 0]] :: bx, tips⟩ := by
  refine Loc.ofC D35_ok hm F_snap_Read_3_ok (by simp [F_snap_Read_3]) (.inl (by simp [cleanL, Enc.cl])) (bx.length + 5) tips.length (by simp) (by simp) fun hu => ?_
  simp only [List.length_cons, underX, Bool.and_eq_true, underL, V.under, decide_eq_true_eq, Bool.and_true] at hu
  obtain ⟨u1, u2, _, _, _, u3⟩ := hu
  have uv := txtV_under hv u2 w 2
  have hv1 := numV_txt hv w 2
  have uv2 := txtV_under hv1 uv (numW w l [104] 2) (mpN w l)
  have hl1 := numR_length w l 2
  obtain ⟨x, hx, hxl⟩ := numL_one w l
  have hxN : mpN w l = x := by simp [mpN, hx]
  have w1 := IntWalk.i64_in (x : Int) (by omega)
  have hl2 : (numR w l 2).length ≤ 2 ^ 40 := by omega
  rw [hxN] at uv2
  have e1 : mpT w l = cutL (numW w l [104] 2) (numR w l 2) x := by rw [mpT, hxN]
  have hcl := cutL_length (numW w l [104] 2) (numR w l 2) x
  have hcl2 : (cutL (numW w l [104] 2) (numR w l 2) x).length ≤ 1099511627776 := by omega
  rw [mpTV, mpW, mpL, hxN, e1]
  cases hc : cutW (numW w l [104] 2) (numR w l 2) x <;> simp [F_snap_Read_3, D35, sp_numbers, numM, sp_cut1, cutM, hv, hl, f_h, hx, w1, hv1, hl2, hc, hcl2, u1, u3, uv2, decX_map]
def mapM (m : Mem) : Option (List Xt × Mem) := match m.boxes with
  | b0 :: [v] :: [.val (.bool w)] :: [.func 80 [.ptr 2 0, .ptr 1 0]] :: [.func 81 [.ptr 3 0, .ptr 2 0]] :: bx => (txtV v).bind fun l => if l.length ≤ 2 ^ 40 then
      some (mpL w l, ⟨b0 :: [mpTV v w l] :: [.val (.bool (mpW w l))] :: [.func 80 [.ptr 2 0, .ptr 1 0]] :: [.func 81 [.ptr 3 0, .ptr 2 0]] :: bx, m.tips⟩) else none
  | _ => none
def sp_mapped : List V → Mem → Option (V × Mem)
  | [.ptr 4 0, .ptr 3 0, .ptr 2 0], m => (mapM m).map fun p => (enc p.1, p.2)
  | _, _ => none
theorem sp_mapped_ok : EOkL Try.prog n_snap_Read_3 sp_mapped := by
  intro args m v m' h
  unfold sp_mapped at h
  split at h
  · simp only [Option.map_eq_some_iff] at h
    obtain ⟨p, hp, h⟩ := h
    cases h
    obtain ⟨bo, tips⟩ := m
    unfold mapM at hp
    simp only at hp
    split at hp
    · rename_i b0 v w bx
      simp only [Option.bind_eq_some_iff] at hp
      obtain ⟨l, hl, hp⟩ := hp
      split at hp <;> cases hp
      exact c_mapped b0 bx v w tips l hl (by assumption)
    · cases hp
  · cases h
end Go.Av

namespace Go.Av
open Enc (enc dec)
open Cel (cs dc)
open Go.Proofs Pl

/-- So many checkpoints, as they are read; is it wrong behind them; what is behind them. -/
def rdPts : Nat → Bool → List UInt8 → List Pt × Bool × List UInt8
  | 0, w, l => ([], w, l)
  | k + 1, w, l => if w = true then ([], w, l) else
    let N := numL w l [119, 119] 8
    let w1 := numW w l [119, 119] 8
    let l1 := numR w l 8
    let r := rdPts k (mpW w1 l1) (mpR w1 l1)
    (⟨N.headD 0, (N.drop 1).headD 0, mpL w1 l1⟩ :: r.1, r.2)
/-- A state, as it is read: it, is it wrong, and what is left. -/
def rdS (w : Bool) (l : List UInt8) : Sta × Bool × List UInt8 :=
  let N := numL w l [98, 119, 119, 98, 104] 12
  let w1 := numW w l [98, 119, 119, 98, 104] 12
  let l1 := numR w l 12
  let n4 := N.getD 4 0
  let staged := cutL w1 l1 n4
  let w2 := cutW w1 l1 n4
  let l2 := numR w1 l1 n4
  let r := rdPts (N.getD 3 0) (mpW w2 l2) (mpR w2 l2)
  (⟨N.getD 0 0, N.getD 1 0, mpL w2 l2, r.1, N.getD 2 0, staged⟩, r.2)
def readS (b : List UInt8) : Option Sta :=
  let r := rdS (decide (openE b ≠ 0)) (openT b)
  if r.2.1 = true ∨ r.2.2 ≠ [] ∨ staOk r.1 = false then none else some r.1

@[simp] def sp_open (b : List UInt8) : Option (V × List Tip) := if b.length ≤ 2 ^ 40 then some (.tuple [.row 0 1 ((openT b).map cs), enc (openE b)], [(5, 1, (openT b).length)]) else none
theorem sp_open_ok : EOk Try.prog n_crc_Open (sp1 sp_open) := sp1_ok fun b r h => by
  simp only [sp_open] at h
  split at h <;> cases h
  exact c_crc_Open b (by assumption)
def D36 : Orc := (((((Orc.nil.add n_crc_Open (sp1 sp_open)).add n_bytes_Clone (sp1 sp_clone)).add n_state_Check (sp1 sp_stCheck)).addL n_snap_Read_1 sp_cut1).addL n_snap_Read_2 sp_numbers).addL n_snap_Read_3 sp_mapped
theorem D36_ok : OOk Try.prog D36 := (((((OOk.nil.add sp_open_ok).add sp_clone_ok).add sp_stCheck_ok).addL sp_cut1_ok).addL sp_numbers_ok).addL sp_mapped_ok
def rdQ (b : List UInt8) : Sta := (readS b).getD Sta.zero
def rdE (b : List UInt8) : Int := if (readS b).isSome = true then 0 else 120
theorem leN_lt' (l : List UInt8) (n : Nat) : leN (l.take n) < 256 ^ n := by
  have h := leN_lt (l.take n)
  exact Nat.lt_of_lt_of_le h (Nat.pow_le_pow_right (by decide) (by simp; omega))
theorem cut_ok {w : Bool} {l : List UInt8} {n : Int} (h : cutW w l n = false) : ¬ (w = true ∨ (l.length : Int) < n) := by
  simp only [cutW, Bool.or_eq_false_iff, decide_eq_false_iff_not] at h
  simp [h.1, h.2]
theorem unpack_bwwbh {b : List UInt8} (h : b.length = 12) : unpackN [98, 119, 119, 98, 104] b = [leN (b.take 1), leN ((b.drop 1).take 4), leN ((b.drop 5).take 4), leN ((b.drop 9).take 1), leN ((b.drop 10).take 2)] := by
  match b, h with
  | a1 :: a2 :: a3 :: a4 :: a5 :: a6 :: a7 :: a8 :: a9 :: a10 :: a11 :: a12 :: [], _ =>
    simp [unpackN, unpackS, sizeL, okT, mayB]
theorem unpack_ww {b : List UInt8} (h : b.length = 8) : unpackN [119, 119] b = [leN (b.take 4), leN ((b.drop 4).take 4)] := by
  match b, h with
  | a1 :: a2 :: a3 :: a4 :: a5 :: a6 :: a7 :: a8 :: [], _ =>
    simp [unpackN, unpackS, sizeL, okT, mayB]
theorem cutL_len {w : Bool} {l : List UInt8} {n : Nat} (h : cutW w l n = false) : cutL w l n = l.take n ∧ (cutL w l n).length = n := by
  have h2 := cut_ok h
  have e : cutL w l n = l.take n := by rw [cutL, if_neg h2]; rfl
  simp only [not_or] at h2
  exact ⟨e, by rw [e]; simp; omega⟩
theorem numL_five (w : Bool) (l : List UInt8) : ∃ a b c d e, numL w l [98, 119, 119, 98, 104] 12 = [a, b, c, d, e] ∧ a < 256 ∧ b < 2 ^ 32 ∧ c < 2 ^ 32 ∧ d < 256 ∧ e < 65536 := by
  unfold numL
  split
  · exact ⟨0, 0, 0, 0, 0, rfl, by decide, by decide, by decide, by decide, by decide⟩
  · rename_i h
    simp only [numW, Bool.not_eq_true, Bool.or_eq_false_iff] at h
    have h12 : (cutL w l 12).length = 12 := (cutL_len (n := 12) h.1).2
    rw [unpack_bwwbh h12]
    exact ⟨_, _, _, _, _, rfl, leN_lt' _ 1, leN_lt' _ 4, leN_lt' _ 4, leN_lt' _ 1, leN_lt' _ 2⟩
theorem numL_two (w : Bool) (l : List UInt8) : ∃ a b, numL w l [119, 119] 8 = [a, b] ∧ a < 2 ^ 32 ∧ b < 2 ^ 32 := by
  unfold numL
  split
  · exact ⟨0, 0, rfl, by decide, by decide⟩
  · rename_i h
    simp only [numW, Bool.not_eq_true, Bool.or_eq_false_iff] at h
    have h8 : (cutL w l 8).length = 8 := (cutL_len (n := 8) h.1).2
    rw [unpack_ww h8]
    exact ⟨_, _, rfl, leN_lt' _ 4, leN_lt' _ 4⟩
theorem readL_length (b : List UInt8) : (readL b).length ≤ 64 := by
  unfold readL
  cases h : readX b with
  | none => simp
  | some l =>
    have := (readX_some.1 h).1
    simp only [wrOk, Bool.and_eq_true, decide_eq_true_eq] at this
    exact this.1
theorem rdPts_lens : ∀ (k : Nat) (w : Bool) (l : List UInt8), (rdPts k w l).1.length ≤ k ∧ ∀ p ∈ (rdPts k w l).1, p.map.length ≤ 64
  | 0, w, l => by simp [rdPts]
  | k + 1, w, l => by
    unfold rdPts
    split
    · simp
    · have ih := rdPts_lens k (mpW (numW w l [119, 119] 8) (numR w l 8)) (mpR (numW w l [119, 119] 8) (numR w l 8))
      refine ⟨by simp only [List.length_cons]; omega, fun p hp => ?_⟩
      rcases List.mem_cons.1 hp with rfl | hp
      · exact readL_length _
      · exact ih.2 p hp
def SReadI (n0 n1 n2 n3 n4 : Nat) (M : List Xt) (sg : List UInt8) (R : List Pt × Bool × List UInt8) (k : Nat) (s : Nat → V) (m : Mem) : Prop :=
  ∃ (i t : Nat) (x sv : V) (w : Bool) (l : List UInt8) (acc : List Pt) (bx : List (List V)) (tips : List Tip), i + k = n3 ∧ s 2 = .ptr 0 0 ∧ s 4 = .ptr 1 0 ∧ s 5 = .ptr 2 0 ∧ s 7 = .ptr 4 0 ∧ s 8 = .func n_snap_Read_3 [.ptr 4 0, .ptr 3 0, .ptr 2 0] ∧
    s 9 = .lit 1 [[.val (.int .u64 n0)], [.val (.int .u64 n1)], [.val (.int .u64 n2)], [.val (.int .u64 n3)], [.val (.int .u64 n4)]] ∧ s 10 = .val (.int .i64 i) ∧ txtV x = some l ∧ l.length ≤ 2 ^ 40 ∧ txtV sv = some sg ∧
    R = (acc ++ (rdPts k w l).1, (rdPts k w l).2) ∧ acc.length = i ∧
    m = ⟨[.val (.int .i64 n0), .val (.int .i64 n1), .lit 5 (M.map cs), .row t 3 (acc.map cs), .val (.int .i64 n2), sv] :: [x] :: [.val (.bool w)] :: [.func 80 [.ptr 2 0, .ptr 1 0]] :: [.func 81 [.ptr 3 0, .ptr 2 0]] :: bx, tips⟩ ∧ tips[t]? = some (110, 3, acc.length)
set_option maxRecDepth 4000 in
theorem c_snap_Read (b : List UInt8) (hb : b.length ≤ 2 ^ 40) : Pure Try.prog n_snap_Read [enc b] (.tuple [enc (rdQ b), enc (rdE b)]) [] := by
  refine Pure.ofC D36_ok hm F_snap_Read_ok (by simp [F_snap_Read]) (by simp [V.res, V.res1]) ?_
  obtain ⟨w0, hw0⟩ : ∃ w0, (!decide (openE b = 0)) = w0 := ⟨_, rfl⟩
  obtain ⟨l0, hl0⟩ : ∃ l0, l0 = openT b := ⟨_, rfl⟩
  obtain ⟨n0, n1, n2, n3, n4, hN, hn0, hn1, hn2, hn3, hn4⟩ := numL_five w0 l0
  have hol : (openT b).length ≤ 2 ^ 40 := by
    unfold openT
    split
    · simp; omega
    · simp
  rw [← hl0] at hol
  have v0 := IntWalk.i64_in (n0 : Int) (by omega)
  have v1 := IntWalk.i64_in (n1 : Int) (by omega)
  have v2 := IntWalk.i64_in (n2 : Int) (by omega)
  have v3 := IntWalk.i64_in (n3 : Int) (by omega)
  have v4 := IntWalk.i64_in (n4 : Int) (by omega)
  have hv1 := numV_txt (v := .row 0 1 (l0.map cs)) (txtV_row 0 l0) w0 12
  have hl1 := numR_length w0 l0 12
  obtain ⟨w1, hw1⟩ : ∃ w1, numW w0 l0 [98, 119, 119, 98, 104] 12 = w1 := ⟨_, rfl⟩
  obtain ⟨l1, hl1e⟩ : ∃ l1, numR w0 l0 12 = l1 := ⟨_, rfl⟩
  obtain ⟨x1, hx1⟩ : ∃ x1, numV (.row 0 1 (l0.map cs)) w0 l0 12 = x1 := ⟨_, rfl⟩
  rw [hx1, hl1e] at hv1
  rw [hl1e] at hl1
  have hv2 := numV_txt hv1 w1 n4
  have hl2 := numR_length w1 l1 n4
  have hcl := cutL_length w1 l1 n4
  obtain ⟨w2, hw2⟩ : ∃ w2, cutW w1 l1 n4 = w2 := ⟨_, rfl⟩
  obtain ⟨l2, hl2e⟩ : ∃ l2, numR w1 l1 n4 = l2 := ⟨_, rfl⟩
  obtain ⟨x2, hx2⟩ : ∃ x2, numV x1 w1 l1 n4 = x2 := ⟨_, rfl⟩
  rw [hx2, hl2e] at hv2
  rw [hl2e] at hl2
  have hv3 := mpTV_txt hv2 w2
  obtain ⟨w3, hw3⟩ : ∃ w3, mpW w2 l2 = w3 := ⟨_, rfl⟩
  obtain ⟨l3, hl3e⟩ : ∃ l3, mpR w2 l2 = l3 := ⟨_, rfl⟩
  obtain ⟨x3, hx3⟩ : ∃ x3, mpTV x2 w2 l2 = x3 := ⟨_, rfl⟩
  rw [hx3, hl3e] at hv3
  have b1 : l1.length ≤ 1099511627776 := by omega
  have b2 : l2.length ≤ 1099511627776 := by omega
  have b3 : (cutL w1 l1 n4).length ≤ 140737488355328 := by omega
  simp [F_snap_Read, D36, sp_numbers, numM, sp_cut1, cutM, sp_mapped, mapM, hb, f_bwwbh, ← hl0, hw0, hol, hN, v0, v1, v2, v3, v4, hw1, hx1, hv1, hw2, hx2, hv2, hw3, hx3, hv3, b1, b2, b3, decX_map]
  obtain ⟨R, hR⟩ : ∃ R, rdPts n3 w3 l3 = R := ⟨_, rfl⟩
  have hrd : readS b = if R.2.1 = true ∨ R.2.2 ≠ [] ∨ staOk ⟨n0, n1, mpL w2 l2, R.1, n2, cutL w1 l1 n4⟩ = false then none else some ⟨n0, n1, mpL w2 l2, R.1, n2, cutL w1 l1 n4⟩ := by
    rw [← hR]
    have e : decide (openE b ≠ 0) = w0 := by rw [← hw0]; simp
    simp only [readS, rdS, e, ← hl0, hN, hw1, hl1e, hw2, hl2e, hw3, hl3e, List.getD_cons_zero, List.getD_cons_succ]
  have hl3 : l3.length ≤ 2 ^ 40 := by
    rw [← hl3e]
    have h1 := numR_length (numW w2 l2 [104] 2) (numR w2 l2 2) (mpN w2 l2)
    have h2 := numR_length w2 l2 2
    unfold mpR
    omega
  refine wp_loop (SReadI n0 n1 n2 n3 n4 (mpL w2 l2) (cutL w1 l1 n4) R) n3 ⟨_, _, Wkn.boxRow 0 3 110 3 rfl rfl, ⟨0, 3, x3, _, w3, l3, [], _, _, by omega, by simp, by simp, by simp, by simp, by simp, by simp, by simp, hv3, hl3, txtV_row 2 _, by rw [hR]; rfl, rfl, rfl, rfl⟩⟩ fun k s m ⟨i, t, x, sv, w, l, acc, bx, tips, hik, s2, s4, s5, s7, s8, s9, s10, hx, hl, hsv, hRR, hacc, hm, ht⟩ => ?_
  subst hm
  by_cases hgo : i < n3 ∧ w = false
  · obtain ⟨hi, rfl⟩ := hgo
    obtain ⟨k, rfl⟩ : ∃ j, k = j + 1 := ⟨k - 1, by omega⟩
    obtain ⟨p0, p1, hp, hp0, hp1⟩ := numL_two false l
    have y0 := IntWalk.i64_in (p0 : Int) (by omega)
    have y1 := IntWalk.i64_in (p1 : Int) (by omega)
    have y2 := IntWalk.i64_in ((i : Int) + 1) (by omega)
    have hx4 := numV_txt hx false 8
    have hl4 := numR_length false l 8
    obtain ⟨w4, hw4⟩ : ∃ w4, numW false l [119, 119] 8 = w4 := ⟨_, rfl⟩
    obtain ⟨l4, hl4e⟩ : ∃ l4, numR false l 8 = l4 := ⟨_, rfl⟩
    obtain ⟨x4, hx4e⟩ : ∃ x4, numV x false l 8 = x4 := ⟨_, rfl⟩
    rw [hl4e] at hl4
    rw [hx4e, hl4e] at hx4
    have hx5 := mpTV_txt hx4 w4
    obtain ⟨w5, hw5⟩ : ∃ w5, mpW w4 l4 = w5 := ⟨_, rfl⟩
    obtain ⟨l5, hl5e⟩ : ∃ l5, mpR w4 l4 = l5 := ⟨_, rfl⟩
    obtain ⟨x5, hx5e⟩ : ∃ x5, mpTV x4 w4 l4 = x5 := ⟨_, rfl⟩
    rw [hx5e, hl5e] at hx5
    have b4 : l4.length ≤ 1099511627776 := by omega
    have hl5 : l5.length ≤ 2 ^ 40 := by
      rw [← hl5e]
      have h1 := numR_length (numW w4 l4 [104] 2) (numR w4 l4 2) (mpN w4 l4)
      have h2 := numR_length w4 l4 2
      unfold mpR
      omega
    have hR2 : R = ((acc ++ [⟨p0, p1, mpL w4 l4⟩]) ++ (rdPts k w5 l5).1, (rdPts k w5 l5).2) := by
      rw [hRR, rdPts, if_neg (by simp)]
      simp only [hp, hw4, hl4e, hw5, hl5e, List.append_assoc, List.singleton_append]
      rfl
    simp [F_snap_Read_L0, D36, sp_numbers, numM, sp_cut1, cutM, sp_mapped, mapM, f_ww, s2, s4, s5, s7, s8, s9, s10, hx, hl, hp, y0, y1, y2, v3, hi, hw4, hx4e, hx4, hw5, hx5e, hx5, b4, decX_map, ht]
    exact ⟨by omega, k, by omega, IW.of ⟨i + 1, t, x5, sv, w5, l5, acc ++ [⟨p0, p1, mpL w4 l4⟩], bx, _, by omega, by simp [s2], by simp [s4], by simp [s5], by simp [s7], by simp [s8], by simp [s9], by simp, hx5, hl5, hsv, hR2, by simp [hacc],
      by rw [List.map_append]; rfl, by simp [(List.getElem?_eq_some_iff.1 ht).1]⟩⟩
  · have hRe : R = (acc, w, l) := by
      rw [hRR]
      have : rdPts k w l = ([], w, l) := by
        cases k with
        | zero => rfl
        | succ k => rw [rdPts, if_pos]; cases w with
          | true => rfl
          | false => exact absurd ⟨by omega, rfl⟩ hgo
      rw [this]
      simp
    have hRl := rdPts_lens n3 w3 l3
    rw [hR, hRe] at hRl
    simp only [hRe] at hrd
    have z1 := IntWalk.i64_in (l.length : Int) (by omega)
    have hml := readL_length (mpT w2 l2)
    have hacl : acc.length < 256 := by omega
    have hsl : staLen ⟨n0, n1, mpL w2 l2, acc, n2, cutL w1 l1 n4⟩ := ⟨by show (mpL w2 l2).length ≤ 2 ^ 30; unfold mpL; omega, by show acc.length ≤ 2 ^ 30; omega, fun p hp => by have := hRl.2 p hp; omega, by
      show (cutL w1 l1 n4).length ≤ 2 ^ 30
      have : (cutL w1 l1 n4).length ≤ n4 := by unfold cutL; split <;> simp <;> omega
      omega⟩
    have hgo2 : w = false → n3 ≤ i := fun h => by
      rcases Nat.lt_or_ge i n3 with h2 | h2
      · exact absurd ⟨h2, h⟩ hgo
      · exact h2
    cases w with
    | true =>
      have hq : readS b = none := by rw [hrd]; simp
      rcases txtV_cases hx with rfl | ⟨tx, rfl⟩ <;> rcases txtV_cases hsv with rfl | ⟨ts, rfl⟩ <;>
        simp [F_snap_Read_L0, D36, s2, s4, s5, s7, s8, s9, s10, v3, z1, decX_map, rdQ, rdE, hq, Sta.zero]
    | false =>
      have hni := hgo2 rfl
      have hni2 : ¬ i < n3 := by omega
      obtain ⟨S, hS⟩ : ∃ S : Sta, S = ⟨n0, n1, mpL w2 l2, acc, n2, cutL w1 l1 n4⟩ := ⟨_, rfl⟩
      obtain ⟨g1, g2, g3, g4⟩ := hsl
      have g1' : (mpL w2 l2).length ≤ 1073741824 := g1
      have g2' : acc.length ≤ 1073741824 := g2
      have g3' : ∀ p ∈ acc, p.map.length ≤ 1073741824 := g3
      have g4' : (cutL w1 l1 n4).length ≤ 1073741824 := g4
      have hq3 : (l = [] ∧ staE S = 0 ∧ readS b = some S) ∨ (l = [] ∧ staE S = 110 ∧ readS b = none) ∨ (l ≠ [] ∧ readS b = none) := by
        rw [hrd, ← hS]
        by_cases hl0 : l = []
        · cases hok : staOk S with
          | true => exact .inl ⟨hl0, by simp [staE, hok], by simp [hl0]⟩
          | false => exact .inr (.inl ⟨hl0, by simp [staE, hok], by simp⟩)
        · exact .inr (.inr ⟨hl0, by simp [hl0]⟩)
      rcases txtV_cases hx with rfl | ⟨tx, rfl⟩ <;> rcases txtV_cases hsv with rfl | ⟨ts, rfl⟩ <;> rcases hq3 with ⟨rfl, h2, h3⟩ | ⟨rfl, h2, h3⟩ | ⟨h1, h3⟩
      all_goals first
        | (have hp1 : ¬ l.length = 0 := by simpa using h1
           have hp2 : 0 < l.length := by omega
           simp [F_snap_Read_L0, D36, s2, s4, s5, s7, s8, s9, s10, v3, hni, hni2, z1, decX_map, rdQ, rdE, h3, hp2, Sta.zero]; done)
        | skip
      all_goals
        have z0 : IntKind.i64.wrap 0 = 0 := rfl
        simp [F_snap_Read_L0, D36, s2, s4, s5, s7, s8, s9, s10, v3, hni, hni2, z1, z0, decX_map, rdQ, rdE, ← hS, h2, h3, g1', g2', g3', g4']
      all_goals
        refine ⟨by rw [hS]; exact ⟨g1', g2', g3', g4'⟩, ?_⟩
        first
          | (simp [Sta.zero]; done)
          | (rw [hS]; exact ⟨rfl, rfl, rfl, rfl, rfl, rfl⟩)
end Go.Av

namespace Go.Av
open Enc (enc dec)
open Cel (cs dc)
open Go.Proofs Pl

/-- An iterator that runs to its end, over a list. -/
theorem YRun.list {α : Type} {Y : YRel} {L : Nat} {K : Mem → Prop} (arg : α → List V) (S : List α → Mem) (all : List α)
    (hstep : ∀ acc x r, all = acc ++ x :: r → Y L (arg x) (S acc) (.val (.bool true)) (S (acc ++ [x]))) (hK : ∀ acc x r, all = acc ++ x :: r → K (S (acc ++ [x]))) : YRun Y L K (all.map arg) (S []) (S all) := by
  have key : ∀ rest acc, all = acc ++ rest → YRun Y L K (rest.map arg) (S acc) (S all) := by
    intro rest
    induction rest with
    | nil => intro acc h; rw [h, List.append_nil]; exact .done
    | cons x r ih => intro acc h; exact .next (hstep acc x r h) (hK acc x r h) (ih (acc ++ [x]) (by simp [h]))
  exact key all [] rfl
/-- Bytes, cut in pieces of so many. -/
def chunksF (n : Nat) : Nat → List UInt8 → List (List UInt8)
  | 0, _ => []
  | k + 1, l => if l = [] then [] else l.take n :: chunksF n k (l.drop n)
def chunks (n : Nat) (l : List UInt8) : List (List UInt8) := chunksF n l.length l
theorem chunksF_fuel (n : Nat) (hn : 0 < n) : ∀ (k j : Nat) (l : List UInt8), l.length ≤ k → l.length ≤ j → chunksF n k l = chunksF n j l
  | 0, j, l, h, _ => by
    have : l = [] := List.length_eq_zero_iff.1 (by omega)
    subst this
    cases j <;> simp [chunksF]
  | k + 1, 0, l, _, h => by
    have : l = [] := List.length_eq_zero_iff.1 (by omega)
    subst this
    simp [chunksF]
  | k + 1, j + 1, l, h1, h2 => by
    rw [chunksF, chunksF]
    split
    · rfl
    · rename_i hl
      have : 0 < l.length := List.length_pos_iff.2 hl
      rw [chunksF_fuel n hn k j (l.drop n) (by simp; omega) (by simp; omega)]
theorem chunks_cons {n : Nat} (hn : 0 < n) {l : List UInt8} (h : l ≠ []) : chunks n l = l.take n :: chunks n (l.drop n) := by
  have hp : 0 < l.length := List.length_pos_iff.2 h
  obtain ⟨k, hk⟩ : ∃ k, l.length = k + 1 := ⟨l.length - 1, by omega⟩
  rw [chunks, hk, chunksF, if_neg h, chunks, chunksF_fuel n hn k (l.drop n).length (l.drop n) (by simp; omega) (Nat.le_refl _)]
/-- The iterator's boxes. -/
def ChunkK (a b : Nat) (l : List UInt8) (n : Nat) (m : Mem) : Prop := m.boxes[a]? = some [.lit 1 (l.map cs)] ∧ m.boxes[b]? = some [.val (.int .i64 n)]
def ChunkI (Y : YRel) (L a b : Nat) (l : List UInt8) (n : Nat) (m1 : Mem) (k : Nat) (s : Nat → V) (m : Mem) : Prop :=
  ∃ i : Nat, i + k = l.length + n ∧ s 0 = .yld L ∧ s 1 = .ptr a 0 ∧ s 2 = .ptr b 0 ∧ s 4 = .val (.int .i64 i) ∧ ChunkK a b l n m ∧ YRun Y L (ChunkK a b l n) ((chunks n (l.drop i)).map fun c => [.full 1 (c.map cs)]) m m1
theorem c_chunk1 (Y : YRel) (L a b : Nat) (l : List UInt8) (n : Nat) (hn : 0 < n) (hn2 : n ≤ 2 ^ 40) (hl : l.length ≤ 2 ^ 40) (m m1 : Mem) (hK : ChunkK a b l n m)
    (h : YRun Y L (ChunkK a b l n) ((chunks n l).map fun c => [.full 1 (c.map cs)]) m m1) :
    LocY Try.prog Y n_slices_Chunk_byte_1 [.yld L, .ptr a 0, .ptr b 0] m (.tuple []) m1 := by
  refine LocY.ofX OOk.nil hm F_slices_Chunk_byte_1_ok (by simp [F_slices_Chunk_byte_1]) ?_
  simp [F_slices_Chunk_byte_1]
  refine wp_loop (ChunkI Y L a b l n m1) (l.length + n) (IW.of ⟨0, by omega, by simp, by simp, by simp, by simp, hK, h⟩) fun k s m ⟨i, hik, s0, s1, s2, s4, ⟨k1, k2⟩, hr⟩ => ?_
  have w1 := IntWalk.i64_in (l.length : Int) (by omega)
  by_cases hi : i < l.length
  · have hne : l.drop i ≠ [] := by
      intro e
      have := congrArg List.length e
      simp at this
      omega
    rw [chunks_cons hn hne, List.map_cons] at hr
    have w2 := IntWalk.i64_in (((l.length - i : Nat) : Int)) (by omega)
    have w3 := IntWalk.i64_in ((i : Int) + min (n : Int) ((l.length - i : Nat) : Int)) (by omega)
    have w4 := IntWalk.i64_in ((i : Int) + n) (by omega)
    have e1 : ((i : Int) + min (n : Int) ((l.length - i : Nat) : Int)).toNat = i + min n (l.length - i) := by omega
    have e2 : (((l.map cs).take (i + min n (l.length - i))).drop i : List (List V)) = ((l.drop i).take n).map cs := by
      rw [List.drop_take, List.map_take, List.map_drop]
      have : i + min n (l.length - i) - i = min n (l.length - i) := by omega
      rw [this]
      rcases Nat.le_total n (l.length - i) with h | h
      · rw [Nat.min_eq_left h]
      · rw [Nat.min_eq_right h, List.take_of_length_le (by simp), List.take_of_length_le (by simp; omega)]
    simp [F_slices_Chunk_byte_1_L0, s0, s1, s2, s4, k1, k2, hi, w2, w3, w4, mxOk]
    refine ⟨by omega, ⟨by omega, by omega⟩, ?_⟩
    rw [e1, e2]
    cases hr with
    | stop hy =>
      refine ⟨_, _, hy, ?_⟩
      simp
    | next hy hk h2 =>
      refine ⟨_, _, hy, ?_⟩
      simp [hk.2, s2, s4, w4]
      refine ⟨k - n, by omega, IW.of ⟨i + n, by omega, by simp [s0], by simp [s1], by simp [s2], by simp, hk, ?_⟩⟩
      rw [← List.drop_drop]
      exact h2
  · have he : l.drop i = [] := List.drop_eq_nil_of_le (by omega)
    rw [he] at hr
    have hm1 : m = m1 := by
      cases hr
      rfl
    simp [F_slices_Chunk_byte_1_L0, s0, s1, s2, s4, k1, k2, hi, w1]
    exact hm1
/-- The iterator itself. -/
def sp_chunk : List V → Mem → Option (V × Mem)
  | [v, u], m => (dec v : Option (List UInt8)).bind fun l => (dec u : Option Int).bind fun n => if 1 ≤ n then
      some (.func n_slices_Chunk_byte_1 [.ptr m.boxes.length 0, .ptr (m.boxes.length + 1) 0], ⟨m.boxes ++ [[.lit 1 (l.map cs)], [.val (.int .i64 n)]], m.tips⟩) else none
  | _, _ => none
theorem sp_chunk_ok : EOkL Try.prog n_slices_Chunk_byte sp_chunk := by
  intro args m v m' h
  unfold sp_chunk at h
  split at h
  · rename_i a u
    simp only [Option.bind_eq_some_iff] at h
    obtain ⟨l, hl, n, hn, h⟩ := h
    split at h
    · rename_i h1
      cases h
      refine Loc.wk (wk_dec (wk_dec wk_nil hn) hl) (Loc.ofX OOk.nil hm F_slices_Chunk_byte_ok (by simp [F_slices_Chunk_byte]) ?_)
      have h2 : ¬ n < 1 := by omega
      simp [F_slices_Chunk_byte, h2]
    · cases h
  · cases h
def D37 : Orc := Orc.nil.addL n_slices_Chunk_byte sp_chunk
theorem D37_ok : OOk Try.prog D37 := OOk.nil.addL sp_chunk_ok
def sp_parts : List V → Mem → Option (V × Mem)
  | [v], m => (dec v : Option (List UInt8)).bind fun l => 
      some (.func n_slices_Chunk_byte_1 [.ptr m.boxes.length 0, .ptr (m.boxes.length + 1) 0], ⟨m.boxes ++ [[.lit 1 (l.map cs)], [.val (.int .i64 4096)]], m.tips⟩)
  | _, _ => none
theorem sp_parts_ok : EOkL Try.prog n_snap_parts sp_parts := by
  intro args m v m' h
  unfold sp_parts at h
  split at h
  · rename_i a
    simp only [Option.bind_eq_some_iff] at h
    obtain ⟨l, hl, h⟩ := h
    cases h
    refine Loc.wk (wk_dec wk_nil hl) (Loc.ofX D37_ok hm F_snap_parts_ok (by simp [F_snap_parts]) ?_)
    simp [F_snap_parts, D37, sp_chunk]
  · cases h
end Go.Av
