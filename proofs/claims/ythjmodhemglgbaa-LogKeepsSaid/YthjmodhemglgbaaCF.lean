/-
  DvN: Numbers and compact codes of functions.
  SnA: Contracts of package le.
  AvY: Contracts on the memory that is there.
  AvTh: A new slice that a function answers, written to from then on: it lies in a box.
  AvBo: Slices that are written, lent to a function that only reads; and, behind a run, as they are.
  DvA: Contracts of package zone.
  DvB: Contracts of package zone, second part: zones with which something is done.
  DvC: Contracts of package zone, third part.
  DvD: Contracts of package zone, last part.
  SnBx: Records, their likeness; and facts of boxes.
  DvE: Contracts of package dev, first part: what is read.
  DvF: Contracts of package dev, second part: counts, a new one, commands.
  DvG: Contracts of package dev, third part: devices whose zones lie in a box.
  DvH: Contracts of package dev, fourth part: the commands.
  DvI: Contracts of package dev, fifth part: a command done.
  DvJ: Contracts of package dev, sixth part: a device in memory of its own.
  DvK: Contracts of package dev, seventh part: own, Limit, Do.
-/
import Derived.Test.YthjmodhemglgbaaCE
import Derived.Test.YthjmodhemglgbaaRows
import Derived.IntWalk
import Derived.Laws.Bits64
set_option linter.unusedSimpArgs false
set_option linter.unusedVariables false

namespace Go.Av
open Go.Proofs

@[simp] abbrev n_w13_SpaceHolds : FuncId := 3
def F_w13_SpaceHolds_L0 : C := (.seq (.seq (.ops [⟨(some 30), none, (.mov (.t 10))⟩, ⟨(some 31), none, (.mov (.t 0))⟩, ⟨(some 32), none, (.len (.t 31))⟩, ⟨(some 33), none, (.bin .lss (.t 30) (.t 32))⟩]) (.cond (.t 33) .skip (.exit 0))) (.seq (.block 1 (.seq (.ops [⟨(some 36), none, (.mov (.t 0))⟩, ⟨(some 37), none, (.mov (.t 10))⟩, ⟨(some 38), none, (.ixs (.t 36) (.t 37) 1)⟩, ⟨(some 39), none, (.lde (.t 38) none)⟩, ⟨(some 40), none, (.conv .i64 (.t 39))⟩, ⟨(some 41), none, (.bin .rem (.t 40) (.c (.int .i64 4097)))⟩, ⟨(some 11), none, (.mov (.t 41))⟩]) (.seq (.dops false [] [⟨(some 43), none, (.ld (.t 7) (some 5))⟩, ⟨(some 44), none, (.mov (.t 10))⟩, ⟨(some 45), none, (.mov (.t 11))⟩, ⟨(some 46), none, (.mks (.t 45) (.t 45) 5 1 1 [(.val (.int .u8 0))] false)⟩, ⟨(some 47), none, (.bld [(.val (.int .i64 0)), (.val (.int .i64 0)), (.lit 1 [])] [(0, (1, (.c (.int .i64 1)))), (1, (1, (.t 44))), (2, (1, (.t 46)))])⟩, ⟨(some 48), none, (.mkl 36 3 [(.t 47)] false)⟩, ⟨(some 49), none, (.callq 19 [(.t 43), (.t 48)])⟩, ⟨(some 42), none, (.mov (.t 49))⟩, ⟨(some 50), none, (.ext (.t 42) 0)⟩, ⟨(some 51), none, (.ext (.t 42) 1)⟩, ⟨(some 52), none, (.ext (.t 42) 2)⟩, ⟨(some 12), none, (.alc [(.val (.int .i64 0)), (.lit 4 []), (.val (.int .i64 0)), (.val (.bool false)), (.val (.int .i64 0))])⟩, ⟨none, none, (.st (.t 12) 5 (.t 50))⟩, ⟨(some 13), none, (.mov (.t 51))⟩, ⟨(some 14), none, (.mov (.t 52))⟩]) (.seq (.seq (.ops [⟨(some 53), none, (.mov (.t 14))⟩, ⟨(some 54), none, (.bin .neq (.t 53) (.c (.int .i64 0)))⟩]) (.cond (.t 54) (.seq (.ops [⟨(some 4), none, (.mov (.c (.bool false)))⟩]) .ret) .skip)) (.seq (.ops [⟨(some 55), none, (.mov (.t 9))⟩, ⟨(some 56), none, (.mov (.t 11))⟩, ⟨(some 57), none, (.bin .add (.t 55) (.t 56))⟩, ⟨(some 58), none, (.bin .add (.t 57) (.c (.int .i64 20)))⟩, ⟨(some 9), none, (.mov (.t 58))⟩]) (.ops [⟨(some 59), none, (.ld (.t 12) (some 5))⟩, ⟨none, none, (.st (.t 7) 5 (.t 59))⟩])))))) (.ops [⟨(some 34), none, (.mov (.t 10))⟩, ⟨(some 35), none, (.bin .add (.t 34) (.c (.int .i64 1)))⟩, ⟨(some 10), none, (.mov (.t 35))⟩])))
def F_w13_SpaceHolds : F := ⟨(.seq (.ops [⟨(some 4), none, (.mov (.c (.bool false)))⟩]) (.seq (.ops [⟨(some 16), none, (.call 17 [])⟩, ⟨(some 5), none, (.mov (.t 16))⟩]) (.seq (.seq (.ops [⟨(some 17), none, (.mov (.t 0))⟩, ⟨(some 18), none, (.len (.t 17))⟩, ⟨(some 19), none, (.bin .gtr (.t 18) (.c (.int .i64 60)))⟩]) (.cond (.t 19) (.seq (.ops [⟨(some 20), none, (.mov (.t 5))⟩, ⟨(some 4), none, (.mov (.t 20))⟩]) .ret) .skip)) (.seq (.ops [⟨(some 21), none, (.mov (.t 1))⟩, ⟨(some 22), none, (.conv .i64 (.t 21))⟩, ⟨(some 23), none, (.bin .rem (.t 22) (.c (.int .i64 8000)))⟩, ⟨(some 24), none, (.bin .add (.c (.int .i64 8192)) (.t 23))⟩, ⟨(some 6), none, (.mov (.t 24))⟩]) (.seq (.ops [⟨(some 26), none, (.mov (.t 6))⟩, ⟨(some 27), none, (.call 18 [(.c (.int .i64 60)), (.t 26)])⟩, ⟨(some 25), none, (.mov (.t 27))⟩, ⟨(some 28), none, (.ext (.t 25) 0)⟩, ⟨(some 29), none, (.ext (.t 25) 1)⟩, ⟨(some 7), none, (.alc [(.val (.int .i64 0)), (.lit 4 []), (.val (.int .i64 0)), (.val (.bool false)), (.val (.int .i64 0))])⟩, ⟨none, none, (.st (.t 7) 5 (.t 28))⟩, ⟨(some 8), none, (.mov (.t 29))⟩]) (.seq (.ops [⟨(some 9), none, (.mov (.c (.int .i64 0)))⟩]) (.seq (.seq (.ops [⟨(some 10), none, (.mov (.c (.int .i64 0)))⟩]) (.block 0 (.loop F_w13_SpaceHolds_L0))) (.seq (.ops [⟨(some 60), none, (.ld (.t 7) (some 5))⟩, ⟨(some 61), none, (.call 20 [(.t 60)])⟩, ⟨(some 62), none, (.bin .sub (.c (.int .i64 60)) (.t 61))⟩, ⟨(some 15), none, (.mov (.t 62))⟩]) (.seq (.ops [⟨(some 63), none, (.mov (.t 5))⟩, ⟨(some 64), none, (.mov (.t 63))⟩, ⟨(some 65), (some (64, true)), (.mov (.t 8))⟩, ⟨(some 66), (some (64, true)), (.bin .eql (.t 65) (.c (.int .i64 0)))⟩, ⟨(some 67), none, (.pick (.t 64) (.t 66) (.c (.bool false)))⟩, ⟨(some 68), none, (.mov (.t 67))⟩, ⟨(some 69), (some (68, true)), (.mov (.t 0))⟩, ⟨(some 70), (some (68, true)), (.len (.t 69))⟩, ⟨(some 71), (some (68, true)), (.bin .eql (.t 70) (.c (.int .i64 0)))⟩, ⟨(some 72), (some (68, true)), (.mov (.t 71))⟩, ⟨(some 73), (some (72, true)), (.mov (.t 15))⟩, ⟨(some 74), (some (72, true)), (.bin .eql (.t 73) (.c (.int .i64 0)))⟩, ⟨(some 75), (some (68, true)), (.pick (.t 72) (.t 74) (.c (.bool false)))⟩, ⟨(some 76), (some (68, true)), (.mov (.t 75))⟩, ⟨(some 77), (some (76, false)), (.mov (.t 15))⟩, ⟨(some 78), (some (76, false)), (.mov (.t 9))⟩, ⟨(some 79), (some (76, false)), (.mov (.t 6))⟩, ⟨(some 80), (some (76, false)), (.call 21 [(.t 78), (.t 79)])⟩, ⟨(some 81), (some (76, false)), (.bin .leq (.t 77) (.t 80))⟩, ⟨(some 82), (some (68, true)), (.pick (.t 76) (.c (.bool true)) (.t 81))⟩, ⟨(some 83), none, (.pick (.t 68) (.t 82) (.c (.bool false)))⟩, ⟨(some 4), none, (.mov (.t 83))⟩]) .ret))))))))), 84, [(.tmp 4)]⟩
theorem F_w13_SpaceHolds_ok : compF Try.prog (fun d => [].contains d || decide (1048576 ≤ d)) 3 = some F_w13_SpaceHolds := by kernel_rfl
@[simp] abbrev n_w13_awake : FuncId := 17
def F_w13_awake : F := ⟨(.seq (.ops [⟨(some 0), none, (.mov (.c (.bool false)))⟩]) (.seq (.ops [⟨(some 4), none, (.call 38 [(.c (.int .i64 64))])⟩, ⟨(some 3), none, (.mov (.t 4))⟩, ⟨(some 5), none, (.ext (.t 3) 0)⟩, ⟨(some 6), none, (.ext (.t 3) 1)⟩, ⟨(some 1), none, (.mov (.t 5))⟩, ⟨(some 2), none, (.mov (.t 6))⟩]) (.seq (.ops [⟨(some 7), none, (.call 21 [(.c (.int .i64 10000)), (.c (.int .i64 8192))])⟩, ⟨(some 8), none, (.bin .eql (.t 7) (.c (.int .i64 3)))⟩, ⟨(some 9), none, (.mov (.t 8))⟩, ⟨(some 10), (some (9, true)), (.call 21 [(.c (.int .i64 5)), (.c (.int .i64 8191))])⟩, ⟨(some 11), (some (9, true)), (.bin .eql (.t 10) (.c (.int .i64 0)))⟩, ⟨(some 12), none, (.pick (.t 9) (.t 11) (.c (.bool false)))⟩, ⟨(some 13), none, (.mov (.t 12))⟩, ⟨(some 14), (some (13, true)), (.call 41 [(.c (.int .i64 64))])⟩, ⟨(some 15), (some (13, true)), (.bin .eql (.t 14) (.c (.int .i64 2526)))⟩, ⟨(some 16), none, (.pick (.t 13) (.t 15) (.c (.bool false)))⟩, ⟨(some 17), none, (.mov (.t 16))⟩, ⟨(some 18), (some (17, true)), (.call 41 [(.c (.int .i64 0))])⟩, ⟨(some 19), (some (17, true)), (.bin .eql (.t 18) (.c (.int .i64 0)))⟩, ⟨(some 20), none, (.pick (.t 17) (.t 19) (.c (.bool false)))⟩, ⟨(some 21), none, (.mov (.t 20))⟩, ⟨(some 22), (some (21, true)), (.mov (.t 1))⟩, ⟨(some 23), (some (21, true)), (.bin .eql (.t 22) (.c (.int .i64 16665)))⟩, ⟨(some 24), none, (.pick (.t 21) (.t 23) (.c (.bool false)))⟩, ⟨(some 25), none, (.mov (.t 24))⟩, ⟨(some 26), (some (25, true)), (.mov (.t 2))⟩, ⟨(some 27), (some (25, true)), (.bin .eql (.t 26) (.c (.int .i64 6)))⟩, ⟨(some 28), none, (.pick (.t 25) (.t 27) (.c (.bool false)))⟩, ⟨(some 29), none, (.mov (.t 28))⟩, ⟨(some 30), (some (29, true)), (.call 57 [(.c (.int .i64 64)), (.c (.int .i64 8192))])⟩, ⟨(some 31), (some (29, true)), (.bin .eql (.t 30) (.c (.int .i64 15)))⟩, ⟨(some 32), none, (.pick (.t 29) (.t 31) (.c (.bool false)))⟩, ⟨(some 33), none, (.mov (.t 32))⟩, ⟨(some 34), (some (33, true)), (.call 58 [(.c (.int .i64 64)), (.c (.int .i64 8192))])⟩, ⟨(some 35), (some (33, true)), (.bin .eql (.t 34) (.c (.int .i64 6)))⟩, ⟨(some 36), none, (.pick (.t 33) (.t 35) (.c (.bool false)))⟩, ⟨(some 37), none, (.mov (.t 36))⟩, ⟨(some 38), (some (37, true)), (.call 59 [(.c (.int .i64 15)), (.c (.int .i64 8192)), (.c (.int .i64 64))])⟩, ⟨(some 39), (some (37, true)), (.bin .eql (.t 38) (.c (.int .i64 0)))⟩, ⟨(some 40), none, (.pick (.t 37) (.t 39) (.c (.bool false)))⟩, ⟨(some 41), none, (.mov (.t 40))⟩, ⟨(some 42), (some (41, true)), (.call 59 [(.c (.int .i64 14)), (.c (.int .i64 8192)), (.c (.int .i64 64))])⟩, ⟨(some 43), (some (41, true)), (.bin .eql (.t 42) (.c (.int .i64 130)))⟩, ⟨(some 44), none, (.pick (.t 41) (.t 43) (.c (.bool false)))⟩, ⟨(some 45), none, (.mov (.t 44))⟩, ⟨(some 46), (some (45, true)), (.call 60 [(.c (.int .i64 15)), (.c (.int .i64 64))])⟩, ⟨(some 47), (some (45, true)), (.bin .eql (.t 46) (.c (.int .i64 49)))⟩, ⟨(some 48), none, (.pick (.t 45) (.t 47) (.c (.bool false)))⟩, ⟨(some 49), none, (.mov (.t 48))⟩, ⟨(some 50), none, (.pick (.t 49) (.c (.bool true)) (.c (.bool false)))⟩, ⟨(some 51), none, (.mov (.t 50))⟩, ⟨(some 52), none, (.pick (.t 51) (.c (.bool true)) (.c (.bool false)))⟩, ⟨(some 0), none, (.mov (.t 52))⟩]) .ret))), 53, [(.tmp 0)]⟩
theorem F_w13_awake_ok : compF Try.prog (fun _ => true) 17 = some F_w13_awake := by kernel_rfl
@[simp] abbrev n_dev_New : FuncId := 18
def F_dev_New : F := ⟨(.seq (.ops [⟨(some 4), none, (.alc [(.val (.int .i64 0)), (.lit 4 []), (.val (.int .i64 0)), (.val (.bool false)), (.val (.int .i64 0))])⟩, ⟨(some 5), none, (.mov (.c (.int .i64 0)))⟩]) (.seq (.seq (.ops [⟨(some 6), none, (.mov (.t 0))⟩, ⟨(some 7), none, (.bin .lss (.t 6) (.c (.int .i64 1)))⟩, ⟨(some 8), none, (.mov (.t 7))⟩, ⟨(some 9), (some (8, false)), (.mov (.t 0))⟩, ⟨(some 10), (some (8, false)), (.bin .gtr (.t 9) (.c (.int .i64 64)))⟩, ⟨(some 11), none, (.pick (.t 8) (.c (.bool true)) (.t 10))⟩, ⟨(some 12), none, (.mov (.t 11))⟩, ⟨(some 13), (some (12, false)), (.mov (.t 1))⟩, ⟨(some 14), (some (12, false)), (.bin .lss (.t 13) (.c (.int .i64 1)))⟩, ⟨(some 15), none, (.pick (.t 12) (.c (.bool true)) (.t 14))⟩, ⟨(some 16), none, (.mov (.t 15))⟩, ⟨(some 17), (some (16, false)), (.mov (.t 1))⟩, ⟨(some 18), (some (16, false)), (.bin .gtr (.t 17) (.c (.int .i64 1048576)))⟩, ⟨(some 19), none, (.pick (.t 16) (.c (.bool true)) (.t 18))⟩]) (.cond (.t 19) (.seq (.ops [⟨(some 20), none, (.bld [(.val (.int .i64 0)), (.lit 4 []), (.val (.int .i64 0)), (.val (.bool false)), (.val (.int .i64 0))] [])⟩, ⟨none, none, (.st (.t 4) 5 (.t 20))⟩, ⟨(some 5), none, (.mov (.c (.int .i64 1)))⟩]) .ret) .skip)) (.seq (.ops [⟨(some 21), none, (.mov (.t 1))⟩, ⟨(some 22), none, (.mov (.t 0))⟩, ⟨(some 23), none, (.mks (.t 22) (.t 22) 85 4 48 [(.val (.int .i64 0)), (.val (.int .i64 0)), (.lit 1 []), (.val (.int .i64 0))] true)⟩, ⟨(some 24), none, (.bld [(.val (.int .i64 0)), (.lit 4 []), (.val (.int .i64 0)), (.val (.bool false)), (.val (.int .i64 0))] [(0, (1, (.t 21))), (1, (1, (.t 23))), (2, (1, (.c (.int .i64 (-1)))))])⟩, ⟨none, none, (.st (.t 4) 5 (.t 24))⟩, ⟨(some 5), none, (.mov (.c (.int .i64 0)))⟩]) .ret))), 25, [(.cell 4 (some 5)), (.tmp 5)]⟩
theorem F_dev_New_ok : compF Try.prog (fun _ => true) 18 = some F_dev_New := by kernel_rfl
@[simp] abbrev n_log_Append : FuncId := 19
def F_log_Append_L0 : C := (.seq (.ops [⟨(some 17), none, (.bin .lss (.t 16) (.t 15))⟩]) (.seq (.cond (.t 17) .skip (.exit 0)) (.seq (.block 1 (.seq (.ops [⟨(some 18), none, (.ixs (.t 14) (.t 16) 3)⟩, ⟨(some 19), none, (.lde (.t 18) (some 3))⟩, ⟨(some 8), none, (.alc [(.val (.int .i64 0)), (.val (.int .i64 0)), (.lit 1 [])])⟩, ⟨none, none, (.st (.t 8) 3 (.t 19))⟩]) (.seq (.ops [⟨(some 9), none, (.mov (.c (.complex .f64 0 0)))⟩]) (.seq (.seq (.ops [⟨(some 21), none, (.ld (.t 4) (some 5))⟩, ⟨(some 22), none, (.ld (.t 8) (some 3))⟩, ⟨(some 23), none, (.call 62 [(.t 21), (.t 22)])⟩, ⟨(some 20), none, (.mov (.t 23))⟩, ⟨(some 24), none, (.ext (.t 20) 0)⟩, ⟨(some 25), none, (.ext (.t 20) 1)⟩, ⟨(some 26), none, (.ext (.t 20) 2)⟩, ⟨none, none, (.st (.t 4) 5 (.t 24))⟩, ⟨(some 9), none, (.mov (.t 25))⟩, ⟨(some 6), none, (.mov (.t 26))⟩]) (.seq (.ops [⟨(some 27), none, (.mov (.t 6))⟩, ⟨(some 28), none, (.bin .neq (.t 27) (.c (.int .i64 0)))⟩]) (.cond (.t 28) (.seq (.ops [⟨(some 29), none, (.ld (.t 4) (some 5))⟩, ⟨(some 30), none, (.mov (.t 5))⟩, ⟨(some 31), none, (.mov (.t 6))⟩, ⟨none, none, (.st (.t 4) 5 (.t 29))⟩, ⟨(some 5), none, (.mov (.t 30))⟩, ⟨(some 6), none, (.mov (.t 31))⟩]) .ret) .skip))) (.ops [⟨(some 32), none, (.mov (.t 5))⟩, ⟨(some 33), none, (.mov (.t 9))⟩, ⟨(some 34), none, (.mkl 91 1 [(.t 33)] false)⟩, ⟨(some 35), none, (.app (.t 32) (.t 34) 91 1 16 true)⟩, ⟨(some 5), none, (.mov (.t 35))⟩]))))) (.ops [⟨(some 36), none, (.bin .add (.t 16) (.c (.int .i64 1)))⟩, ⟨(some 16), none, (.mov (.t 36))⟩]))))
def F_log_Append : F := ⟨(.seq (.ops [⟨(some 2), none, (.box (.t 0))⟩, ⟨(some 4), none, (.alc [(.val (.int .i64 0)), (.lit 4 []), (.val (.int .i64 0)), (.val (.bool false)), (.val (.int .i64 0))])⟩, ⟨(some 5), none, (.nil 91 1 true)⟩, ⟨(some 6), none, (.mov (.c (.int .i64 0)))⟩]) (.seq (.ops [⟨(some 10), none, (.ld (.t 2) (some 5))⟩, ⟨(some 11), none, (.fad (.t 2) 2)⟩, ⟨(some 12), none, (.ld (.t 11) none)⟩, ⟨(some 13), none, (.call 61 [(.t 10), (.t 12)])⟩, ⟨none, none, (.st (.t 4) 5 (.t 13))⟩]) (.seq (.seq (.ops [⟨(some 14), none, (.mov (.t 1))⟩, ⟨(some 15), none, (.len (.t 14))⟩, ⟨(some 16), none, (.mov (.c (.int .i64 0)))⟩]) (.block 0 (.loop F_log_Append_L0))) (.seq (.ops [⟨(some 37), none, (.ld (.t 4) (some 5))⟩, ⟨(some 38), none, (.mov (.t 5))⟩, ⟨none, none, (.st (.t 4) 5 (.t 37))⟩, ⟨(some 5), none, (.mov (.t 38))⟩, ⟨(some 6), none, (.mov (.c (.int .i64 0)))⟩]) .ret)))), 39, [(.cell 4 (some 5)), (.tmp 5), (.tmp 6)]⟩
theorem F_log_Append_ok : compF Try.prog (fun d => !([34].contains d)) 19 = some F_log_Append := by kernel_rfl
@[simp] abbrev n_log_Empty : FuncId := 20
def F_log_Empty_L0 : C := (.seq (.ops [⟨(some 9), none, (.bin .lss (.t 8) (.t 7))⟩]) (.seq (.cond (.t 9) .skip (.exit 0)) (.seq (.block 1 (.seq (.ops [⟨(some 10), none, (.ixs (.t 6) (.t 8) 4)⟩, ⟨(some 11), none, (.lde (.t 10) (some 4))⟩, ⟨(some 4), none, (.alc [(.val (.int .i64 0)), (.val (.int .i64 0)), (.lit 1 []), (.val (.int .i64 0))])⟩, ⟨none, none, (.st (.t 4) 4 (.t 11))⟩]) (.seq (.ops [⟨(some 12), none, (.fad (.t 4) 0)⟩, ⟨(some 13), none, (.ld (.t 12) none)⟩, ⟨(some 14), none, (.bin .eql (.t 13) (.c (.int .i64 0)))⟩]) (.cond (.t 14) (.ops [⟨(some 15), none, (.mov (.t 2))⟩, ⟨(some 16), none, (.bin .add (.t 15) (.c (.int .i64 1)))⟩, ⟨(some 2), none, (.mov (.t 16))⟩]) .skip)))) (.ops [⟨(some 17), none, (.bin .add (.t 8) (.c (.int .i64 1)))⟩, ⟨(some 8), none, (.mov (.t 17))⟩]))))
def F_log_Empty : F := ⟨(.seq (.ops [⟨(some 1), none, (.box (.t 0))⟩, ⟨(some 2), none, (.mov (.c (.int .i64 0)))⟩]) (.seq (.seq (.ops [⟨(some 5), none, (.fad (.t 1) 1)⟩, ⟨(some 6), none, (.ld (.t 5) none)⟩, ⟨(some 7), none, (.len (.t 6))⟩, ⟨(some 8), none, (.mov (.c (.int .i64 0)))⟩]) (.block 0 (.loop F_log_Empty_L0))) (.seq (.ops [⟨(some 18), none, (.mov (.t 2))⟩, ⟨(some 2), none, (.mov (.t 18))⟩]) .ret))), 19, [(.tmp 2)]⟩
theorem F_log_Empty_ok : compF Try.prog (fun _ => true) 20 = some F_log_Empty := by kernel_rfl
@[simp] abbrev n_space_Takes : FuncId := 21
def F_space_Takes : F := ⟨(.seq (.ops [⟨(some 4), none, (.mov (.c (.int .i64 0)))⟩]) (.seq (.seq (.ops [⟨(some 5), none, (.mov (.t 1))⟩, ⟨(some 6), none, (.call 63 [(.t 5)])⟩, ⟨(some 7), none, (.un .not (.t 6))⟩]) (.cond (.t 7) (.seq (.ops [⟨(some 4), none, (.mov (.c (.int .i64 0)))⟩]) .ret) .skip)) (.seq (.ops [⟨(some 8), none, (.mov (.t 0))⟩, ⟨(some 9), none, (.mm true (.t 8) (.c (.int .i64 0)))⟩, ⟨(some 10), none, (.mov (.t 1))⟩, ⟨(some 11), none, (.call 37 [(.c (.int .i64 4096))])⟩, ⟨(some 12), none, (.bin .sub (.t 10) (.t 11))⟩, ⟨(some 13), none, (.bin .quo (.t 9) (.t 12))⟩, ⟨(some 14), none, (.bin .add (.t 13) (.c (.int .i64 1)))⟩, ⟨(some 4), none, (.mov (.t 14))⟩]) .ret))), 15, [(.tmp 4)]⟩
theorem F_space_Takes_ok : compF Try.prog (fun _ => true) 21 = some F_space_Takes := by kernel_rfl
@[simp] abbrev n_record_Size : FuncId := 37
def F_record_Size : F := ⟨(.seq (.ops [⟨(some 2), none, (.mov (.c (.int .i64 0)))⟩]) (.seq (.seq (.ops [⟨(some 3), none, (.mov (.t 0))⟩, ⟨(some 4), none, (.bin .lss (.t 3) (.c (.int .i64 0)))⟩, ⟨(some 5), none, (.mov (.t 4))⟩, ⟨(some 6), (some (5, false)), (.mov (.t 0))⟩, ⟨(some 7), (some (5, false)), (.bin .gtr (.t 6) (.c (.int .i64 4096)))⟩, ⟨(some 8), none, (.pick (.t 5) (.c (.bool true)) (.t 7))⟩]) (.cond (.t 8) (.seq (.ops [⟨(some 2), none, (.mov (.c (.int .i64 0)))⟩]) .ret) .skip)) (.seq (.ops [⟨(some 9), none, (.mov (.t 0))⟩, ⟨(some 10), none, (.bin .add (.c (.int .i64 16)) (.t 9))⟩, ⟨(some 11), none, (.bin .add (.t 10) (.c (.int .i64 4)))⟩, ⟨(some 2), none, (.mov (.t 11))⟩]) .ret))), 12, [(.tmp 2)]⟩
theorem F_record_Size_ok : compF Try.prog (fun _ => true) 37 = some F_record_Size := by kernel_rfl
@[simp] abbrev n_space_Snap : FuncId := 38
def F_space_Snap : F := ⟨(.seq (.ops [⟨(some 2), none, (.mov (.c (.int .i64 0)))⟩, ⟨(some 3), none, (.mov (.c (.int .i64 0)))⟩]) (.seq (.seq (.ops [⟨(some 6), none, (.mov (.t 0))⟩, ⟨(some 7), none, (.call 95 [(.t 6)])⟩, ⟨(some 8), none, (.un .not (.t 7))⟩]) (.cond (.t 8) (.seq (.ops [⟨(some 2), none, (.mov (.c (.int .i64 0)))⟩, ⟨(some 3), none, (.mov (.c (.int .i64 0)))⟩]) .ret) .skip)) (.seq (.ops [⟨(some 9), none, (.mov (.t 0))⟩, ⟨(some 10), none, (.call 96 [(.t 9)])⟩, ⟨(some 11), none, (.bin .add (.c (.int .i64 4016)) (.t 10))⟩, ⟨(some 12), none, (.mov (.t 0))⟩, ⟨(some 13), none, (.call 96 [(.t 12)])⟩, ⟨(some 14), none, (.bin .add (.c (.int .i64 8)) (.t 13))⟩, ⟨(some 15), none, (.bin .mul (.c (.int .i64 4)) (.t 14))⟩, ⟨(some 16), none, (.bin .add (.t 11) (.t 15))⟩, ⟨(some 4), none, (.mov (.t 16))⟩]) (.seq (.ops [⟨(some 17), none, (.mov (.t 4))⟩, ⟨(some 18), none, (.bin .add (.t 17) (.c (.int .i64 4096)))⟩, ⟨(some 19), none, (.bin .sub (.t 18) (.c (.int .i64 1)))⟩, ⟨(some 20), none, (.bin .quo (.t 19) (.c (.int .i64 4096)))⟩, ⟨(some 5), none, (.mov (.t 20))⟩]) (.seq (.ops [⟨(some 21), none, (.mov (.t 4))⟩, ⟨(some 22), none, (.mov (.t 5))⟩, ⟨(some 23), none, (.call 37 [(.c (.int .i64 0))])⟩, ⟨(some 24), none, (.bin .mul (.t 22) (.t 23))⟩, ⟨(some 25), none, (.bin .add (.t 21) (.t 24))⟩, ⟨(some 26), none, (.call 37 [(.c (.int .i64 2))])⟩, ⟨(some 27), none, (.bin .add (.t 25) (.t 26))⟩, ⟨(some 28), none, (.mov (.t 5))⟩, ⟨(some 29), none, (.bin .add (.t 28) (.c (.int .i64 1)))⟩, ⟨(some 2), none, (.mov (.t 27))⟩, ⟨(some 3), none, (.mov (.t 29))⟩]) .ret))))), 30, [(.tmp 2), (.tmp 3)]⟩
theorem F_space_Snap_ok : compF Try.prog (fun _ => true) 38 = some F_space_Snap := by kernel_rfl
@[simp] abbrev n_space_Change : FuncId := 41
def F_space_Change : F := ⟨(.seq (.ops [⟨(some 2), none, (.mov (.c (.int .i64 0)))⟩]) (.seq (.seq (.ops [⟨(some 3), none, (.mov (.t 0))⟩, ⟨(some 4), none, (.call 95 [(.t 3)])⟩, ⟨(some 5), none, (.un .not (.t 4))⟩]) (.cond (.t 5) (.seq (.ops [⟨(some 2), none, (.mov (.c (.int .i64 0)))⟩]) .ret) .skip)) (.seq (.ops [⟨(some 6), none, (.mov (.t 0))⟩, ⟨(some 7), none, (.bin .mul (.t 6) (.c (.int .i64 39)))⟩, ⟨(some 8), none, (.bin .add (.c (.int .i64 10)) (.t 7))⟩, ⟨(some 9), none, (.mm true (.t 8) (.c (.int .i64 1009)))⟩, ⟨(some 10), none, (.call 37 [(.t 9)])⟩, ⟨(some 2), none, (.mov (.t 10))⟩]) .ret))), 11, [(.tmp 2)]⟩
theorem F_space_Change_ok : compF Try.prog (fun _ => true) 41 = some F_space_Change := by kernel_rfl
@[simp] abbrev n_space_Zones : FuncId := 57
def F_space_Zones : F := ⟨(.seq (.ops [⟨(some 4), none, (.mov (.c (.int .i64 0)))⟩]) (.seq (.ops [⟨(some 8), none, (.mov (.t 0))⟩, ⟨(some 9), none, (.mov (.t 1))⟩, ⟨(some 10), none, (.call 58 [(.t 8), (.t 9)])⟩, ⟨(some 5), none, (.mov (.t 10))⟩]) (.seq (.seq (.ops [⟨(some 11), none, (.mov (.t 5))⟩, ⟨(some 12), none, (.bin .eql (.t 11) (.c (.int .i64 0)))⟩]) (.cond (.t 12) (.seq (.ops [⟨(some 4), none, (.mov (.c (.int .i64 0)))⟩]) .ret) .skip)) (.seq (.ops [⟨(some 14), none, (.mov (.t 0))⟩, ⟨(some 15), none, (.call 38 [(.t 14)])⟩, ⟨(some 13), none, (.mov (.t 15))⟩, ⟨(some 16), none, (.ext (.t 13) 0)⟩, ⟨(some 17), none, (.ext (.t 13) 1)⟩, ⟨(some 6), none, (.mov (.t 16))⟩, ⟨(some 7), none, (.mov (.t 17))⟩]) (.seq (.ops [⟨(some 18), none, (.mov (.t 5))⟩, ⟨(some 19), none, (.bin .add (.c (.int .i64 3)) (.t 18))⟩, ⟨(some 20), none, (.mov (.t 6))⟩, ⟨(some 21), none, (.mov (.t 1))⟩, ⟨(some 22), none, (.call 21 [(.t 20), (.t 21)])⟩, ⟨(some 23), none, (.bin .add (.t 19) (.t 22))⟩, ⟨(some 24), none, (.bin .add (.t 23) (.c (.int .i64 1)))⟩, ⟨(some 4), none, (.mov (.t 24))⟩]) .ret))))), 25, [(.tmp 4)]⟩
theorem F_space_Zones_ok : compF Try.prog (fun _ => true) 57 = some F_space_Zones := by kernel_rfl
@[simp] abbrev n_space_Need : FuncId := 58
def F_space_Need : F := ⟨(.seq (.ops [⟨(some 3), none, (.box (.t 1))⟩, ⟨(some 4), none, (.mov (.c (.int .i64 0)))⟩]) (.seq (.seq (.ops [⟨(some 8), none, (.mov (.t 0))⟩, ⟨(some 9), none, (.call 95 [(.t 8)])⟩, ⟨(some 10), none, (.un .not (.t 9))⟩, ⟨(some 11), none, (.mov (.t 10))⟩, ⟨(some 12), (some (11, false)), (.ld (.t 3) none)⟩, ⟨(some 13), (some (11, false)), (.call 63 [(.t 12)])⟩, ⟨(some 14), (some (11, false)), (.un .not (.t 13))⟩, ⟨(some 15), none, (.pick (.t 11) (.c (.bool true)) (.t 14))⟩]) (.cond (.t 15) (.seq (.ops [⟨(some 4), none, (.mov (.c (.int .i64 0)))⟩]) .ret) .skip)) (.seq (.ops [⟨(some 16), none, (.mkf 115 [(.t 3)])⟩, ⟨(some 5), none, (.mov (.t 16))⟩]) (.seq (.ops [⟨(some 18), none, (.mov (.t 0))⟩, ⟨(some 19), none, (.call 38 [(.t 18)])⟩, ⟨(some 17), none, (.mov (.t 19))⟩, ⟨(some 20), none, (.ext (.t 17) 0)⟩, ⟨(some 21), none, (.ext (.t 17) 1)⟩, ⟨(some 6), none, (.mov (.t 20))⟩, ⟨(some 7), none, (.mov (.t 21))⟩]) (.seq (.ops [⟨(some 22), none, (.mov (.t 5))⟩, ⟨(some 23), none, (.mov (.t 0))⟩, ⟨(some 24), none, (.call 41 [(.t 23)])⟩, ⟨(some 25), none, (.callv (.t 22) [(.t 24)])⟩, ⟨(some 26), none, (.mov (.t 5))⟩, ⟨(some 27), none, (.mov (.t 6))⟩, ⟨(some 28), none, (.callv (.t 26) [(.t 27)])⟩, ⟨(some 29), none, (.bin .add (.t 25) (.t 28))⟩, ⟨(some 4), none, (.mov (.t 29))⟩]) .ret))))), 30, [(.tmp 4)]⟩
theorem F_space_Need_ok : compF Try.prog (fun _ => true) 58 = some F_space_Need := by kernel_rfl
@[simp] abbrev n_space_Check : FuncId := 59
def F_space_Check : F := ⟨(.seq (.ops [⟨(some 6), none, (.mov (.c (.int .i64 0)))⟩]) (.seq (.seq (.ops [⟨(some 8), none, (.mov (.t 2))⟩, ⟨(some 9), none, (.mov (.t 1))⟩, ⟨(some 10), none, (.call 57 [(.t 8), (.t 9)])⟩, ⟨(some 7), none, (.mov (.t 10))⟩]) (.seq (.ops [⟨(some 11), none, (.mov (.t 7))⟩, ⟨(some 12), none, (.bin .eql (.t 11) (.c (.int .i64 0)))⟩, ⟨(some 13), none, (.mov (.t 12))⟩, ⟨(some 14), (some (13, false)), (.mov (.t 0))⟩, ⟨(some 15), (some (13, false)), (.mov (.t 7))⟩, ⟨(some 16), (some (13, false)), (.bin .lss (.t 14) (.t 15))⟩, ⟨(some 17), none, (.pick (.t 13) (.c (.bool true)) (.t 16))⟩, ⟨(some 18), none, (.mov (.t 17))⟩, ⟨(some 19), (some (18, false)), (.mov (.t 0))⟩, ⟨(some 20), (some (18, false)), (.bin .gtr (.t 19) (.c (.int .i64 64)))⟩, ⟨(some 21), none, (.pick (.t 18) (.c (.bool true)) (.t 20))⟩]) (.cond (.t 21) (.seq (.ops [⟨(some 6), none, (.mov (.c (.int .i64 130)))⟩]) .ret) .skip))) (.seq (.ops [⟨(some 6), none, (.mov (.c (.int .i64 0)))⟩]) .ret))), 22, [(.tmp 6)]⟩
theorem F_space_Check_ok : compF Try.prog (fun _ => true) 59 = some F_space_Check := by kernel_rfl
@[simp] abbrev n_space_Bound : FuncId := 60
def F_space_Bound : F := ⟨(.seq (.ops [⟨(some 4), none, (.mov (.c (.int .i64 0)))⟩]) (.seq (.ops [⟨(some 8), none, (.mov (.t 1))⟩, ⟨(some 9), none, (.call 38 [(.t 8)])⟩, ⟨(some 7), none, (.mov (.t 9))⟩, ⟨(some 10), none, (.ext (.t 7) 0)⟩, ⟨(some 11), none, (.ext (.t 7) 1)⟩, ⟨(some 5), none, (.mov (.t 10))⟩, ⟨(some 6), none, (.mov (.t 11))⟩]) (.seq (.seq (.ops [⟨(some 12), none, (.mov (.t 6))⟩, ⟨(some 13), none, (.bin .eql (.t 12) (.c (.int .i64 0)))⟩]) (.cond (.t 13) (.seq (.ops [⟨(some 4), none, (.mov (.c (.int .i64 0)))⟩]) .ret) .skip)) (.seq (.ops [⟨(some 14), none, (.mov (.t 6))⟩, ⟨(some 15), none, (.bin .add (.t 14) (.c (.int .i64 1)))⟩, ⟨(some 16), none, (.mov (.t 0))⟩, ⟨(some 17), none, (.call 116 [(.t 16), (.c (.int .i64 0)), (.c (.int .i64 1073741824))])⟩, ⟨(some 18), none, (.bin .add (.t 15) (.t 17))⟩, ⟨(some 19), none, (.bin .mul (.c (.int .i64 2)) (.t 18))⟩, ⟨(some 20), none, (.bin .add (.t 19) (.c (.int .i64 5)))⟩, ⟨(some 4), none, (.mov (.t 20))⟩]) .ret)))), 21, [(.tmp 4)]⟩
theorem F_space_Bound_ok : compF Try.prog (fun _ => true) 60 = some F_space_Bound := by kernel_rfl
@[simp] abbrev n_space_may : FuncId := 63
def F_space_may : F := ⟨(.seq (.ops [⟨(some 2), none, (.mov (.c (.bool false)))⟩]) (.seq (.ops [⟨(some 3), none, (.mov (.t 0))⟩, ⟨(some 4), none, (.call 116 [(.t 3), (.c (.int .i64 8192)), (.c (.int .i64 1048576))])⟩, ⟨(some 5), none, (.mov (.t 0))⟩, ⟨(some 6), none, (.bin .eql (.t 4) (.t 5))⟩, ⟨(some 2), none, (.mov (.t 6))⟩]) .ret)), 7, [(.tmp 2)]⟩
theorem F_space_may_ok : compF Try.prog (fun _ => true) 63 = some F_space_may := by kernel_rfl
@[simp] abbrev n_space_some : FuncId := 95
def F_space_some : F := ⟨(.seq (.ops [⟨(some 2), none, (.mov (.c (.bool false)))⟩]) (.seq (.ops [⟨(some 3), none, (.mov (.t 0))⟩, ⟨(some 4), none, (.call 116 [(.t 3), (.c (.int .i64 1)), (.c (.int .i64 64))])⟩, ⟨(some 5), none, (.mov (.t 0))⟩, ⟨(some 6), none, (.bin .eql (.t 4) (.t 5))⟩, ⟨(some 2), none, (.mov (.t 6))⟩]) .ret)), 7, [(.tmp 2)]⟩
theorem F_space_some_ok : compF Try.prog (fun _ => true) 95 = some F_space_some := by kernel_rfl
@[simp] abbrev n_space_mapped : FuncId := 96
def F_space_mapped : F := ⟨(.seq (.ops [⟨(some 2), none, (.mov (.c (.int .i64 0)))⟩]) (.seq (.ops [⟨(some 3), none, (.mov (.t 0))⟩, ⟨(some 4), none, (.bin .mul (.t 3) (.c (.int .i64 39)))⟩, ⟨(some 5), none, (.bin .add (.c (.int .i64 3)) (.t 4))⟩, ⟨(some 2), none, (.mov (.t 5))⟩]) .ret)), 6, [(.tmp 2)]⟩
theorem F_space_mapped_ok : compF Try.prog (fun _ => true) 96 = some F_space_mapped := by kernel_rfl
@[simp] abbrev n_space_Need_1 : FuncId := 115
def F_space_Need_1 : F := ⟨(.seq (.ops [⟨(some 3), none, (.mov (.c (.int .i64 0)))⟩]) (.seq (.ops [⟨(some 4), none, (.mov (.t 0))⟩, ⟨(some 5), none, (.ld (.t 1) none)⟩, ⟨(some 6), none, (.call 21 [(.t 4), (.t 5)])⟩, ⟨(some 3), none, (.mov (.t 6))⟩]) .ret)), 7, [(.tmp 3)]⟩
theorem F_space_Need_1_ok : compF Try.prog (fun _ => true) 115 = some F_space_Need_1 := by kernel_rfl
@[simp] abbrev n_space_held_int : FuncId := 116
def F_space_held_int : F := ⟨(.seq (.ops [⟨(some 6), none, (.mov (.c (.int .i64 0)))⟩]) (.seq (.ops [⟨(some 7), none, (.mov (.t 0))⟩, ⟨(some 8), none, (.mov (.t 1))⟩, ⟨(some 9), none, (.mm true (.t 7) (.t 8))⟩, ⟨(some 10), none, (.mov (.t 2))⟩, ⟨(some 11), none, (.mm false (.t 9) (.t 10))⟩, ⟨(some 6), none, (.mov (.t 11))⟩]) .ret)), 12, [(.tmp 6)]⟩
theorem F_space_held_int_ok : compF Try.prog (fun _ => true) 116 = some F_space_held_int := by kernel_rfl
@[simp] abbrev n_record_Check : FuncId := 52
def F_record_Check : F := ⟨(.seq (.ops [⟨(some 1), none, (.box (.t 0))⟩, ⟨(some 2), none, (.mov (.c (.int .i64 0)))⟩]) (.seq (.seq (.ops [⟨(some 3), none, (.fad (.t 1) 0)⟩, ⟨(some 4), none, (.ld (.t 3) none)⟩, ⟨(some 5), none, (.bin .lss (.t 4) (.c (.int .i64 1)))⟩, ⟨(some 6), none, (.mov (.t 5))⟩, ⟨(some 7), (some (6, false)), (.fad (.t 1) 0)⟩, ⟨(some 8), (some (6, false)), (.ld (.t 7) none)⟩, ⟨(some 9), (some (6, false)), (.bin .gtr (.t 8) (.c (.int .i64 5)))⟩, ⟨(some 10), none, (.pick (.t 6) (.c (.bool true)) (.t 9))⟩, ⟨(some 11), none, (.mov (.t 10))⟩, ⟨(some 12), (some (11, false)), (.fad (.t 1) 1)⟩, ⟨(some 13), (some (11, false)), (.ld (.t 12) none)⟩, ⟨(some 14), (some (11, false)), (.bin .lss (.t 13) (.c (.int .i64 0)))⟩, ⟨(some 15), none, (.pick (.t 11) (.c (.bool true)) (.t 14))⟩, ⟨(some 16), none, (.mov (.t 15))⟩, ⟨(some 17), (some (16, false)), (.fad (.t 1) 1)⟩, ⟨(some 18), (some (16, false)), (.ld (.t 17) none)⟩, ⟨(some 19), (some (16, false)), (.bin .gtr (.t 18) (.c (.int .i64 4611686018427387903)))⟩, ⟨(some 20), none, (.pick (.t 16) (.c (.bool true)) (.t 19))⟩, ⟨(some 21), none, (.mov (.t 20))⟩, ⟨(some 22), (some (21, false)), (.fad (.t 1) 2)⟩, ⟨(some 23), (some (21, false)), (.ld (.t 22) none)⟩, ⟨(some 24), (some (21, false)), (.len (.t 23))⟩, ⟨(some 25), (some (21, false)), (.bin .gtr (.t 24) (.c (.int .i64 4096)))⟩, ⟨(some 26), none, (.pick (.t 21) (.c (.bool true)) (.t 25))⟩]) (.cond (.t 26) (.seq (.ops [⟨(some 2), none, (.mov (.c (.int .i64 50)))⟩]) .ret) .skip)) (.seq (.ops [⟨(some 2), none, (.mov (.c (.int .i64 0)))⟩]) .ret))), 27, [(.tmp 2)]⟩
theorem F_record_Check_ok : compF Try.prog (fun _ => true) 52 = some F_record_Check := by kernel_rfl
@[simp] abbrev n_record_Write : FuncId := 53
def F_record_Write : F := ⟨(.seq (.ops [⟨(some 1), none, (.box (.t 0))⟩, ⟨(some 2), none, (.nil 5 1 true)⟩, ⟨(some 3), none, (.mov (.c (.int .i64 0)))⟩]) (.seq (.seq (.ops [⟨(some 7), none, (.ld (.t 1) (some 3))⟩, ⟨(some 8), none, (.call 52 [(.t 7)])⟩, ⟨(some 4), none, (.mov (.t 8))⟩]) (.seq (.ops [⟨(some 9), none, (.mov (.t 4))⟩, ⟨(some 10), none, (.bin .neq (.t 9) (.c (.int .i64 0)))⟩]) (.cond (.t 10) (.seq (.ops [⟨(some 11), none, (.mov (.t 4))⟩, ⟨(some 2), none, (.nil 5 1 true)⟩, ⟨(some 3), none, (.mov (.t 11))⟩]) .ret) .skip))) (.seq (.ops [⟨(some 13), none, (.fad (.t 1) 0)⟩, ⟨(some 14), none, (.ld (.t 13) none)⟩, ⟨(some 15), none, (.conv .u64 (.t 14))⟩, ⟨(some 16), none, (.fad (.t 1) 2)⟩, ⟨(some 17), none, (.ld (.t 16) none)⟩, ⟨(some 18), none, (.len (.t 17))⟩, ⟨(some 19), none, (.conv .u64 (.t 18))⟩, ⟨(some 20), none, (.fad (.t 1) 1)⟩, ⟨(some 21), none, (.ld (.t 20) none)⟩, ⟨(some 22), none, (.conv .u64 (.t 21))⟩, ⟨(some 23), none, (.mkl 114 1 [(.c (.int .u64 1196184151)), (.t 15), (.t 19), (.t 22)] true)⟩, ⟨(some 24), none, (.call 70 [(.c (.string ⟨#[119, 104, 104, 113]⟩)), (.t 23)])⟩, ⟨(some 12), none, (.mov (.t 24))⟩, ⟨(some 25), none, (.ext (.t 12) 0)⟩, ⟨(some 26), none, (.ext (.t 12) 1)⟩, ⟨(some 5), none, (.mov (.t 25))⟩, ⟨(some 6), none, (.mov (.t 26))⟩]) (.seq (.seq (.ops [⟨(some 27), none, (.mov (.t 6))⟩, ⟨(some 28), none, (.bin .neq (.t 27) (.c (.int .i64 0)))⟩]) (.cond (.t 28) (.seq (.ops [⟨(some 2), none, (.nil 5 1 true)⟩, ⟨(some 3), none, (.mov (.c (.int .i64 50)))⟩]) .ret) .skip)) (.seq (.ops [⟨(some 29), none, (.mov (.t 5))⟩, ⟨(some 30), none, (.fad (.t 1) 2)⟩, ⟨(some 31), none, (.ld (.t 30) none)⟩, ⟨(some 32), none, (.app (.t 29) (.t 31) 5 1 1 true)⟩, ⟨(some 33), none, (.call 71 [(.t 32)])⟩, ⟨(some 2), none, (.mov (.t 33))⟩, ⟨(some 3), none, (.mov (.c (.int .i64 0)))⟩]) .ret))))), 34, [(.tmp 2), (.tmp 3)]⟩
theorem F_record_Write_ok : compF Try.prog (fun _ => true) 53 = some F_record_Write := by kernel_rfl
@[simp] abbrev n_dev_Check : FuncId := 46
def F_dev_Check : F := ⟨(.seq (.ops [⟨(some 1), none, (.box (.t 0))⟩, ⟨(some 2), none, (.mov (.c (.bool false)))⟩]) (.seq (.ops [⟨(some 4), none, (.fad (.t 1) 1)⟩, ⟨(some 5), none, (.ld (.t 4) none)⟩, ⟨(some 6), none, (.mkf 102 [(.t 1)])⟩, ⟨(some 7), none, (.call 101 [(.t 5), (.t 6)])⟩, ⟨(some 3), none, (.mov (.t 7))⟩]) (.seq (.ops [⟨(some 8), none, (.mov (.t 3))⟩, ⟨(some 9), none, (.un .not (.t 8))⟩, ⟨(some 10), none, (.mov (.t 9))⟩, ⟨(some 11), (some (10, true)), (.fad (.t 1) 1)⟩, ⟨(some 12), (some (10, true)), (.ld (.t 11) none)⟩, ⟨(some 13), (some (10, true)), (.len (.t 12))⟩, ⟨(some 14), (some (10, true)), (.bin .gtr (.t 13) (.c (.int .i64 0)))⟩, ⟨(some 15), none, (.pick (.t 10) (.t 14) (.c (.bool false)))⟩, ⟨(some 16), none, (.mov (.t 15))⟩, ⟨(some 17), (some (16, true)), (.fad (.t 1) 1)⟩, ⟨(some 18), (some (16, true)), (.ld (.t 17) none)⟩, ⟨(some 19), (some (16, true)), (.len (.t 18))⟩, ⟨(some 20), (some (16, true)), (.bin .leq (.t 19) (.c (.int .i64 64)))⟩, ⟨(some 21), none, (.pick (.t 16) (.t 20) (.c (.bool false)))⟩, ⟨(some 22), none, (.mov (.t 21))⟩, ⟨(some 23), (some (22, true)), (.fad (.t 1) 0)⟩, ⟨(some 24), (some (22, true)), (.ld (.t 23) none)⟩, ⟨(some 25), (some (22, true)), (.bin .gtr (.t 24) (.c (.int .i64 0)))⟩, ⟨(some 26), none, (.pick (.t 22) (.t 25) (.c (.bool false)))⟩, ⟨(some 27), none, (.mov (.t 26))⟩, ⟨(some 28), (some (27, true)), (.fad (.t 1) 0)⟩, ⟨(some 29), (some (27, true)), (.ld (.t 28) none)⟩, ⟨(some 30), (some (27, true)), (.bin .leq (.t 29) (.c (.int .i64 1048576)))⟩, ⟨(some 31), none, (.pick (.t 27) (.t 30) (.c (.bool false)))⟩, ⟨(some 2), none, (.mov (.t 31))⟩]) .ret))), 32, [(.tmp 2)]⟩
theorem F_dev_Check_ok : compF Try.prog (fun _ => true) 46 = some F_dev_Check := by kernel_rfl
@[simp] abbrev n_dev_Check_1 : FuncId := 102
def F_dev_Check_1 : F := ⟨(.seq (.ops [⟨(some 2), none, (.box (.t 0))⟩, ⟨(some 3), none, (.mov (.c (.bool false)))⟩]) (.seq (.ops [⟨(some 4), none, (.ld (.t 2) (some 4))⟩, ⟨(some 5), none, (.fad (.t 1) 0)⟩, ⟨(some 6), none, (.ld (.t 5) none)⟩, ⟨(some 7), none, (.call 103 [(.t 4), (.t 6)])⟩, ⟨(some 8), none, (.un .not (.t 7))⟩, ⟨(some 3), none, (.mov (.t 8))⟩]) .ret)), 9, [(.tmp 3)]⟩
theorem F_dev_Check_1_ok : compF Try.prog (fun _ => true) 102 = some F_dev_Check_1 := by kernel_rfl
@[simp] abbrev n_dev_Do : FuncId := 50
def F_dev_Do : F := ⟨(.seq (.ops [⟨(some 2), none, (.box (.t 0))⟩, ⟨(some 3), none, (.box (.t 1))⟩, ⟨(some 4), none, (.alc [(.val (.int .i64 0)), (.lit 4 []), (.val (.int .i64 0)), (.val (.bool false)), (.val (.int .i64 0))])⟩, ⟨(some 5), none, (.alc [(.val (.int .i64 0))])⟩]) (.seq (.dops false [(5, 4)] [⟨(some 6), none, (.ld (.t 2) (some 5))⟩, ⟨(some 7), none, (.mkf 107 [(.t 5), (.t 3)])⟩, ⟨(some 9), none, (.ld (.t 5) none)⟩, ⟨(some 8), none, (.callf (.f 106) [(.t 6), (.t 7)] [5])⟩, ⟨none, none, (.st (.t 4) 5 (.t 8))⟩, ⟨none, none, (.st (.t 5) 1 (.t 9))⟩]) .ret)), 10, [(.cell 4 (some 5)), (.cell 5 none)]⟩
theorem F_dev_Do_ok : compF Try.prog (fun d => !([4194305].contains d)) 50 = some F_dev_Do := by kernel_rfl
@[simp] abbrev n_dev_Do_1 : FuncId := 107
def F_dev_Do_1 : F := ⟨(.seq (.block 0 (.seq (.ops [⟨(some 5), none, (.mov (.t 0))⟩, ⟨(some 6), none, (.mem .nck [(.t 5)])⟩, ⟨(some 7), none, (.ld (.t 6) (some 5))⟩, ⟨(some 8), none, (.call 46 [(.t 7)])⟩, ⟨(some 9), none, (.un .not (.t 8))⟩, ⟨(some 4), none, (.mov (.t 9))⟩]) (.cond (.t 4) (.seq (.ops [⟨none, none, (.st (.t 1) 1 (.c (.int .i64 1)))⟩]) .ret) (.seq (.ops [⟨(some 11), none, (.mov (.t 0))⟩, ⟨(some 12), none, (.mem .nck [(.t 11)])⟩, ⟨(some 13), none, (.fad (.t 12) 3)⟩, ⟨(some 14), none, (.ld (.t 13) none)⟩, ⟨(some 15), none, (.mov (.t 14))⟩, ⟨(some 16), (some (15, false)), (.mov (.t 0))⟩, ⟨(some 17), (some (15, false)), (.mem .nck [(.t 16)])⟩, ⟨(some 18), (some (15, false)), (.fad (.t 17) 2)⟩, ⟨(some 19), (some (15, false)), (.ld (.t 18) none)⟩, ⟨(some 20), (some (15, false)), (.bin .eql (.t 19) (.c (.int .i64 0)))⟩, ⟨(some 21), none, (.pick (.t 15) (.c (.bool true)) (.t 20))⟩, ⟨(some 10), none, (.mov (.t 21))⟩]) (.cond (.t 10) (.seq (.ops [⟨(some 22), none, (.mov (.t 0))⟩, ⟨(some 23), none, (.mem .nck [(.t 22)])⟩, ⟨(some 24), none, (.fad (.t 23) 3)⟩, ⟨none, none, (.st (.t 24) 1 (.c (.bool true)))⟩, ⟨none, none, (.st (.t 1) 1 (.c (.int .i64 40)))⟩]) .ret) (.seq (.ops [⟨(some 26), none, (.mov (.t 0))⟩, ⟨(some 27), none, (.mem .nck [(.t 26)])⟩, ⟨(some 28), none, (.fad (.t 27) 2)⟩, ⟨(some 29), none, (.ld (.t 28) none)⟩, ⟨(some 30), none, (.bin .gtr (.t 29) (.c (.int .i64 0)))⟩, ⟨(some 25), none, (.mov (.t 30))⟩]) (.cond (.t 25) (.ops [⟨(some 31), none, (.mov (.t 0))⟩, ⟨(some 32), none, (.mem .nck [(.t 31)])⟩, ⟨(some 33), none, (.fad (.t 32) 2)⟩, ⟨(some 34), none, (.ld (.t 33) none)⟩, ⟨(some 35), none, (.bin .sub (.t 34) (.c (.int .i64 1)))⟩, ⟨(some 36), none, (.mem .nck [(.t 31)])⟩, ⟨(some 37), none, (.fad (.t 36) 2)⟩, ⟨none, none, (.st (.t 37) 1 (.t 35))⟩]) .skip))))))) (.seq (.ops [⟨(some 38), none, (.mov (.t 0))⟩, ⟨(some 39), none, (.mem .nck [(.t 38)])⟩, ⟨(some 40), none, (.fad (.t 39) 4)⟩, ⟨(some 41), none, (.ld (.t 40) none)⟩, ⟨(some 42), none, (.bin .add (.t 41) (.c (.int .i64 1)))⟩, ⟨(some 43), none, (.mem .nck [(.t 38)])⟩, ⟨(some 44), none, (.fad (.t 43) 4)⟩, ⟨none, none, (.st (.t 44) 1 (.t 42))⟩]) (.ops [⟨(some 45), none, (.mov (.t 0))⟩, ⟨(some 46), none, (.ld (.t 2) (some 3))⟩, ⟨(some 47), none, (.call 108 [(.t 45), (.t 46)])⟩, ⟨none, none, (.st (.t 1) 1 (.t 47))⟩]))), 48, []⟩
theorem F_dev_Do_1_ok : compF Try.prog (fun _ => true) 107 = some F_dev_Do_1 := by kernel_rfl
@[simp] abbrev n_dev_Limit : FuncId := 61
def F_dev_Limit : F := ⟨(.seq (.ops [⟨(some 2), none, (.box (.t 0))⟩, ⟨(some 3), none, (.box (.t 1))⟩, ⟨(some 4), none, (.alc [(.val (.int .i64 0)), (.lit 4 []), (.val (.int .i64 0)), (.val (.bool false)), (.val (.int .i64 0))])⟩]) (.seq (.ops [⟨(some 5), none, (.ld (.t 2) (some 5))⟩, ⟨(some 6), none, (.mkf 117 [(.t 3)])⟩, ⟨(some 7), none, (.call 106 [(.t 5), (.t 6)])⟩, ⟨none, none, (.st (.t 4) 5 (.t 7))⟩]) .ret)), 8, [(.cell 4 (some 5))]⟩
theorem F_dev_Limit_ok : compF Try.prog (fun _ => true) 61 = some F_dev_Limit := by kernel_rfl
@[simp] abbrev n_dev_Limit_1 : FuncId := 117
def F_dev_Limit_1 : F := ⟨(.ops [⟨(some 3), none, (.mov (.t 0))⟩, ⟨(some 4), none, (.ld (.t 1) none)⟩, ⟨(some 5), none, (.mem .nck [(.t 3)])⟩, ⟨(some 6), none, (.fad (.t 5) 2)⟩, ⟨none, none, (.st (.t 6) 1 (.t 4))⟩]), 7, []⟩
theorem F_dev_Limit_1_ok : compF Try.prog (fun _ => true) 117 = some F_dev_Limit_1 := by kernel_rfl
@[simp] abbrev n_dev_own : FuncId := 106
def F_dev_own_L0 : C := (.seq (.ops [⟨(some 14), none, (.bin .lss (.t 13) (.t 12))⟩]) (.seq (.cond (.t 14) .skip (.exit 0)) (.seq (.block 1 (.seq (.ops [⟨(some 15), none, (.mov (.t 13))⟩, ⟨(some 5), none, (.mov (.t 15))⟩]) (.dops false [] [⟨(some 16), none, (.fad (.t 2) 1)⟩, ⟨(some 17), none, (.ld (.t 16) none)⟩, ⟨(some 18), none, (.mov (.t 5))⟩, ⟨(some 19), none, (.fad (.t 2) 1)⟩, ⟨(some 20), none, (.ld (.t 19) none)⟩, ⟨(some 21), none, (.mov (.t 5))⟩, ⟨(some 22), none, (.mem (.ixr 4) [(.t 20), (.t 21)])⟩, ⟨(some 23), none, (.fad (.t 22) 2)⟩, ⟨(some 24), none, (.ld (.t 23) none)⟩, ⟨(some 25), none, (.callq 77 [(.t 24)])⟩, ⟨(some 26), none, (.mem (.ixr 4) [(.t 17), (.t 18)])⟩, ⟨(some 27), none, (.fad (.t 26) 2)⟩, ⟨none, none, (.st (.t 27) 1 (.t 25))⟩]))) (.ops [⟨(some 28), none, (.bin .add (.t 13) (.c (.int .i64 1)))⟩, ⟨(some 13), none, (.mov (.t 28))⟩]))))
def F_dev_own : F := ⟨(.seq (.ops [⟨(some 2), none, (.box (.t 0))⟩, ⟨(some 4), none, (.alc [(.val (.int .i64 0)), (.lit 4 []), (.val (.int .i64 0)), (.val (.bool false)), (.val (.int .i64 0))])⟩]) (.seq (.ops [⟨(some 6), none, (.fad (.t 2) 1)⟩, ⟨(some 7), none, (.ld (.t 6) none)⟩, ⟨(some 8), none, (.call 159 [(.t 7)])⟩, ⟨(some 9), none, (.fad (.t 2) 1)⟩, ⟨none, none, (.st (.t 9) 1 (.t 8))⟩]) (.seq (.seq (.ops [⟨(some 10), none, (.fad (.t 2) 1)⟩, ⟨(some 11), none, (.ld (.t 10) none)⟩, ⟨(some 12), none, (.mem .lnr [(.t 11)])⟩, ⟨(some 13), none, (.mov (.c (.int .i64 0)))⟩]) (.block 0 (.loop F_dev_own_L0))) (.seq (.ops [⟨(some 29), none, (.mov (.t 1))⟩, ⟨(some 30), none, (.callv (.t 29) [(.t 2)])⟩]) (.seq (.ops [⟨(some 31), none, (.ld (.t 2) (some 5))⟩, ⟨none, none, (.st (.t 4) 5 (.t 31))⟩]) .ret))))), 32, [(.cell 4 (some 5))]⟩
theorem F_dev_own_ok : compF Try.prog (fun d => !([2097164, 2097174, 2097176, 2097178].contains d)) 106 = some F_dev_own := by kernel_rfl
@[simp] abbrev n_dev_done : FuncId := 108
def F_dev_done_L0 : C := (.seq (.ops [⟨(some 28), none, (.bin .lss (.t 27) (.t 26))⟩]) (.seq (.cond (.t 28) .skip (.exit 1)) (.seq (.block 2 (.seq (.ops [⟨(some 29), none, (.mov (.t 27))⟩, ⟨(some 30), none, (.mem (.ixr 4) [(.t 25), (.t 27)])⟩, ⟨(some 31), none, (.ld (.t 30) (some 4))⟩, ⟨(some 8), none, (.alc [(.val (.int .i64 0)), (.val (.int .i64 0)), (.lit 1 []), (.val (.int .i64 0))])⟩, ⟨(some 7), none, (.mov (.t 29))⟩, ⟨none, none, (.st (.t 8) 4 (.t 31))⟩]) (.dops false [] [⟨(some 32), none, (.mov (.t 0))⟩, ⟨(some 33), none, (.mem .nck [(.t 32)])⟩, ⟨(some 34), none, (.fad (.t 33) 1)⟩, ⟨(some 35), none, (.ld (.t 34) none)⟩, ⟨(some 36), none, (.mov (.t 7))⟩, ⟨(some 37), none, (.ld (.t 8) (some 4))⟩, ⟨(some 38), none, (.callf (.f 161) [(.t 37)] [34])⟩, ⟨(some 39), none, (.mem (.ixr 4) [(.t 35), (.t 36)])⟩, ⟨none, none, (.st (.t 39) 4 (.t 38))⟩]))) (.ops [⟨(some 40), none, (.bin .add (.t 27) (.c (.int .i64 1)))⟩, ⟨(some 27), none, (.mov (.t 40))⟩]))))
def F_dev_done : F := ⟨(.seq (.ops [⟨(some 3), none, (.box (.t 1))⟩, ⟨(some 4), none, (.mov (.c (.int .i64 0)))⟩]) (.seq (.dops false [] [⟨(some 13), none, (.fad (.t 3) 0)⟩, ⟨(some 14), none, (.ld (.t 13) none)⟩, ⟨(some 12), none, (.callf (.f 160) [] [13])⟩, ⟨(some 15), none, (.mlk (.t 12) (.t 14) (.val .nilFunc) true)⟩, ⟨(some 11), none, (.mov (.t 15))⟩, ⟨(some 16), none, (.ext (.t 11) 0)⟩, ⟨(some 17), none, (.ext (.t 11) 1)⟩, ⟨(some 5), none, (.mov (.t 16))⟩, ⟨(some 6), none, (.mov (.t 17))⟩]) (.seq (.block 0 (.seq (.ops [⟨(some 19), none, (.fad (.t 3) 0)⟩, ⟨(some 20), none, (.ld (.t 19) none)⟩, ⟨(some 21), none, (.bin .eql (.t 20) (.c (.int .i64 5)))⟩, ⟨(some 18), none, (.mov (.t 21))⟩]) (.cond (.t 18) (.seq (.seq (.ops [⟨(some 22), none, (.mov (.t 0))⟩, ⟨(some 23), none, (.mem .nck [(.t 22)])⟩, ⟨(some 24), none, (.fad (.t 23) 1)⟩, ⟨(some 25), none, (.ld (.t 24) none)⟩, ⟨(some 26), none, (.mem .lnr [(.t 25)])⟩, ⟨(some 27), none, (.mov (.c (.int .i64 0)))⟩]) (.block 1 (.loop F_dev_done_L0))) (.seq (.ops [⟨(some 4), none, (.mov (.c (.int .i64 0)))⟩]) .ret)) (.seq (.dops false [] [⟨(some 42), none, (.mov (.t 6))⟩, ⟨(some 43), none, (.un .not (.t 42))⟩, ⟨(some 44), none, (.mov (.t 43))⟩, ⟨(some 45), (some (44, false)), (.fad (.t 3) 1)⟩, ⟨(some 46), (some (44, false)), (.ld (.t 45) none)⟩, ⟨(some 47), (some (44, false)), (.bin .lss (.t 46) (.c (.int .i64 0)))⟩, ⟨(some 48), none, (.pick (.t 44) (.c (.bool true)) (.t 47))⟩, ⟨(some 49), none, (.mov (.t 48))⟩, ⟨(some 50), (some (49, false)), (.fad (.t 3) 1)⟩, ⟨(some 51), (some (49, false)), (.ld (.t 50) none)⟩, ⟨(some 52), (some (49, false)), (.mov (.t 0))⟩, ⟨(some 53), (some (49, false)), (.mem .nck [(.t 52)])⟩, ⟨(some 54), (some (49, false)), (.fad (.t 53) 1)⟩, ⟨(some 55), (some (49, false)), (.ld (.t 54) none)⟩, ⟨(some 56), (some (49, false)), (.mem .lnr [(.t 55)])⟩, ⟨(some 57), (some (49, false)), (.bin .geq (.t 51) (.t 56))⟩, ⟨(some 58), none, (.pick (.t 49) (.c (.bool true)) (.t 57))⟩, ⟨(some 41), none, (.mov (.t 58))⟩]) (.cond (.t 41) (.seq (.ops [⟨(some 4), none, (.mov (.c (.int .i64 1)))⟩]) .ret) .skip))))) (.seq (.dops false [] [⟨(some 60), none, (.mov (.t 5))⟩, ⟨(some 61), none, (.ld (.t 3) (some 3))⟩, ⟨(some 62), none, (.mov (.t 0))⟩, ⟨(some 63), none, (.mov (.t 0))⟩, ⟨(some 64), none, (.mem .nck [(.t 63)])⟩, ⟨(some 65), none, (.fad (.t 64) 1)⟩, ⟨(some 66), none, (.ld (.t 65) none)⟩, ⟨(some 67), none, (.fad (.t 3) 1)⟩, ⟨(some 68), none, (.ld (.t 67) none)⟩, ⟨(some 69), none, (.mem (.ixr 4) [(.t 66), (.t 68)])⟩, ⟨(some 70), none, (.ld (.t 69) (some 4))⟩, ⟨(some 71), none, (.callr (.t 60) [(.t 61), (.t 62), (.t 70)])⟩, ⟨(some 59), none, (.mov (.t 71))⟩, ⟨(some 72), none, (.ext (.t 59) 0)⟩, ⟨(some 73), none, (.ext (.t 59) 1)⟩, ⟨(some 9), none, (.alc [(.val (.int .i64 0)), (.val (.int .i64 0)), (.lit 1 []), (.val (.int .i64 0))])⟩, ⟨none, none, (.st (.t 9) 4 (.t 72))⟩, ⟨(some 10), none, (.mov (.t 73))⟩]) (.seq (.seq (.ops [⟨(some 74), none, (.mov (.t 10))⟩, ⟨(some 75), none, (.bin .eql (.t 74) (.c (.int .i64 0)))⟩]) (.cond (.t 75) (.dops false [] [⟨(some 76), none, (.mov (.t 0))⟩, ⟨(some 77), none, (.mem .nck [(.t 76)])⟩, ⟨(some 78), none, (.fad (.t 77) 1)⟩, ⟨(some 79), none, (.ld (.t 78) none)⟩, ⟨(some 80), none, (.fad (.t 3) 1)⟩, ⟨(some 81), none, (.ld (.t 80) none)⟩, ⟨(some 82), none, (.ld (.t 9) (some 4))⟩, ⟨(some 83), none, (.mem (.ixr 4) [(.t 79), (.t 81)])⟩, ⟨none, none, (.st (.t 83) 4 (.t 82))⟩]) .skip)) (.seq (.ops [⟨(some 84), none, (.mov (.t 10))⟩, ⟨(some 4), none, (.mov (.t 84))⟩]) .ret)))))), 85, [(.tmp 4)]⟩
theorem F_dev_done_ok : compF Try.prog (fun d => !([2097178, 2097182, 2097183, 2097191, 2097208, 2097221, 2097222, 2097235, 5242951, 4194305].contains d)) 108 = some F_dev_done := by kernel_rfl
@[simp] abbrev n_dev_Open : FuncId := 156
def F_dev_Open_L0 : C := (.seq (.ops [⟨(some 9), none, (.bin .lss (.t 8) (.t 7))⟩]) (.seq (.cond (.t 9) .skip (.exit 0)) (.seq (.block 1 (.seq (.ops [⟨(some 10), none, (.ixs (.t 6) (.t 8) 4)⟩, ⟨(some 11), none, (.lde (.t 10) (some 4))⟩, ⟨(some 4), none, (.alc [(.val (.int .i64 0)), (.val (.int .i64 0)), (.lit 1 []), (.val (.int .i64 0))])⟩, ⟨none, none, (.st (.t 4) 4 (.t 11))⟩]) (.seq (.ops [⟨(some 12), none, (.fad (.t 4) 0)⟩, ⟨(some 13), none, (.ld (.t 12) none)⟩, ⟨(some 14), none, (.bin .eql (.t 13) (.c (.int .i64 1)))⟩]) (.cond (.t 14) (.ops [⟨(some 15), none, (.mov (.t 2))⟩, ⟨(some 16), none, (.bin .add (.t 15) (.c (.int .i64 1)))⟩, ⟨(some 2), none, (.mov (.t 16))⟩]) .skip)))) (.ops [⟨(some 17), none, (.bin .add (.t 8) (.c (.int .i64 1)))⟩, ⟨(some 8), none, (.mov (.t 17))⟩]))))
def F_dev_Open : F := ⟨(.seq (.ops [⟨(some 1), none, (.box (.t 0))⟩, ⟨(some 2), none, (.mov (.c (.int .i64 0)))⟩]) (.seq (.seq (.ops [⟨(some 5), none, (.fad (.t 1) 1)⟩, ⟨(some 6), none, (.ld (.t 5) none)⟩, ⟨(some 7), none, (.len (.t 6))⟩, ⟨(some 8), none, (.mov (.c (.int .i64 0)))⟩]) (.block 0 (.loop F_dev_Open_L0))) (.seq (.ops [⟨(some 18), none, (.mov (.t 2))⟩, ⟨(some 2), none, (.mov (.t 18))⟩]) .ret))), 19, [(.tmp 2)]⟩
theorem F_dev_Open_ok : compF Try.prog (fun _ => true) 156 = some F_dev_Open := by kernel_rfl
@[simp] abbrev n_dev_does : FuncId := 160
def F_dev_does : F := ⟨(.seq (.ops [⟨(some 0), none, (.mov (.c (.map none)))⟩]) (.seq (.ops [⟨(some 1), none, .mkm⟩, ⟨none, none, (.mup (.t 1) (.c (.int .i64 1)) (.f 188))⟩, ⟨none, none, (.mup (.t 1) (.c (.int .i64 2)) (.f 189))⟩, ⟨none, none, (.mup (.t 1) (.c (.int .i64 3)) (.f 190))⟩, ⟨none, none, (.mup (.t 1) (.c (.int .i64 4)) (.f 191))⟩, ⟨(some 2), none, (.mov (.t 1))⟩, ⟨(some 0), none, (.mov (.t 2))⟩]) .ret)), 3, [(.tmp 0)]⟩
theorem F_dev_does_ok : compF Try.prog (fun _ => true) 160 = some F_dev_does := by kernel_rfl
@[simp] abbrev n_log_one : FuncId := 62
def F_log_one_L0 : C := (.seq (.ops [⟨(some 54), none, (.bin .lss (.t 53) (.t 52))⟩]) (.seq (.cond (.t 54) .skip (.exit 0)) (.seq (.block 1 (.seq (.ops [⟨(some 55), none, (.ixs (.t 51) (.t 53) 3)⟩, ⟨(some 56), none, (.lde (.t 55) (some 3))⟩, ⟨(some 13), none, (.alc [(.val (.int .i64 0)), (.val (.int .i64 0)), (.lit 1 [])])⟩, ⟨none, none, (.st (.t 13) 3 (.t 56))⟩]) (.seq (.ops [⟨(some 58), none, (.ld (.t 2) (some 5))⟩, ⟨(some 59), none, (.ld (.t 13) (some 3))⟩, ⟨(some 60), none, (.call 50 [(.t 58), (.t 59)])⟩, ⟨(some 57), none, (.mov (.t 60))⟩, ⟨(some 61), none, (.ext (.t 57) 0)⟩, ⟨(some 62), none, (.ext (.t 57) 1)⟩, ⟨none, none, (.st (.t 2) 5 (.t 61))⟩, ⟨(some 8), none, (.mov (.t 62))⟩]) (.seq (.ops [⟨(some 63), none, (.mov (.t 8))⟩, ⟨(some 64), none, (.bin .neq (.t 63) (.c (.int .i64 0)))⟩]) (.cond (.t 64) (.exit 0) .skip))))) (.ops [⟨(some 65), none, (.bin .add (.t 53) (.c (.int .i64 1)))⟩, ⟨(some 53), none, (.mov (.t 65))⟩]))))
def F_log_one : F := ⟨(.seq (.ops [⟨(some 2), none, (.box (.t 0))⟩, ⟨(some 3), none, (.box (.t 1))⟩, ⟨(some 4), none, (.alc [(.val (.int .i64 0)), (.lit 4 []), (.val (.int .i64 0)), (.val (.bool false)), (.val (.int .i64 0))])⟩, ⟨(some 5), none, (.mov (.c (.complex .f64 0 0)))⟩, ⟨(some 6), none, (.mov (.c (.int .i64 0)))⟩]) (.scope (.seq (.ops [⟨(some 15), none, (.ld (.t 3) (some 3))⟩, ⟨(some 16), none, (.call 53 [(.t 15)])⟩, ⟨(some 14), none, (.mov (.t 16))⟩, ⟨(some 17), none, (.ext (.t 14) 0)⟩, ⟨(some 18), none, (.ext (.t 14) 1)⟩, ⟨(some 7), none, (.mov (.t 17))⟩, ⟨(some 8), none, (.mov (.t 18))⟩]) (.seq (.seq (.ops [⟨(some 19), none, (.mov (.t 8))⟩, ⟨(some 20), none, (.bin .neq (.t 19) (.c (.int .i64 0)))⟩]) (.cond (.t 20) (.seq (.ops [⟨(some 21), none, (.ld (.t 2) (some 5))⟩, ⟨(some 22), none, (.mov (.t 8))⟩, ⟨none, none, (.st (.t 4) 5 (.t 21))⟩, ⟨(some 5), none, (.mov (.c (.complex .f64 0 0)))⟩, ⟨(some 6), none, (.mov (.t 22))⟩]) .ret) .skip)) (.seq (.ops [⟨(some 24), none, (.ld (.t 2) (some 5))⟩, ⟨(some 25), none, (.mov (.t 7))⟩, ⟨(some 26), none, (.len (.t 25))⟩, ⟨(some 27), none, (.call 100 [(.t 24), (.t 26)])⟩, ⟨(some 23), none, (.mov (.t 27))⟩, ⟨(some 28), none, (.ext (.t 23) 0)⟩, ⟨(some 29), none, (.ext (.t 23) 1)⟩, ⟨(some 30), none, (.ext (.t 23) 2)⟩, ⟨(some 9), none, (.mov (.t 28))⟩, ⟨(some 10), none, (.mov (.t 29))⟩, ⟨(some 8), none, (.mov (.t 30))⟩]) (.seq (.seq (.ops [⟨(some 31), none, (.mov (.t 8))⟩, ⟨(some 32), none, (.bin .neq (.t 31) (.c (.int .i64 0)))⟩]) (.cond (.t 32) (.seq (.ops [⟨(some 33), none, (.ld (.t 2) (some 5))⟩, ⟨(some 34), none, (.mov (.t 8))⟩, ⟨none, none, (.st (.t 4) 5 (.t 33))⟩, ⟨(some 5), none, (.mov (.c (.complex .f64 0 0)))⟩, ⟨(some 6), none, (.mov (.t 34))⟩]) .ret) .skip)) (.seq (.ops [⟨(some 35), none, (.mov (.t 9))⟩, ⟨(some 36), none, (.mem (.cvf .f64) [(.t 35)])⟩, ⟨(some 37), none, (.fad (.t 2) 1)⟩, ⟨(some 38), none, (.ld (.t 37) none)⟩, ⟨(some 39), none, (.mov (.t 9))⟩, ⟨(some 40), none, (.ixs (.t 38) (.t 39) 4)⟩, ⟨(some 41), none, (.fad (.t 40) 2)⟩, ⟨(some 42), none, (.lde (.t 41) none)⟩, ⟨(some 43), none, (.len (.t 42))⟩, ⟨(some 44), none, (.mem (.cvf .f64) [(.t 43)])⟩, ⟨(some 45), none, (.mem .cpx [(.t 36), (.t 44)])⟩, ⟨(some 11), none, (.mov (.t 45))⟩]) (.seq (.label 0) (.seq (.seq (.ops [⟨(some 46), none, (.mov (.t 10))⟩, ⟨(some 47), none, (.mov (.t 9))⟩, ⟨(some 48), none, (.mov (.t 7))⟩, ⟨(some 49), none, (.bld [(.val (.int .i64 0)), (.val (.int .i64 0)), (.lit 1 [])] [(0, (1, (.c (.int .i64 1)))), (1, (1, (.t 47))), (2, (1, (.t 48)))])⟩, ⟨(some 50), none, (.mkl 89 3 [(.t 49)] false)⟩, ⟨(some 51), none, (.app (.t 46) (.t 50) 89 3 40 true)⟩, ⟨(some 52), none, (.len (.t 51))⟩, ⟨(some 53), none, (.mov (.c (.int .i64 0)))⟩]) (.block 0 (.loop F_log_one_L0))) (.seq (.ops [⟨(some 66), none, (.ld (.t 2) (some 5))⟩, ⟨(some 67), none, (.mov (.t 11))⟩, ⟨(some 68), none, (.mov (.t 8))⟩, ⟨none, none, (.st (.t 4) 5 (.t 66))⟩, ⟨(some 5), none, (.mov (.t 67))⟩, ⟨(some 6), none, (.mov (.t 68))⟩]) .ret)))))))))), 69, [(.cell 4 (some 5)), (.tmp 5), (.tmp 6)]⟩
theorem F_log_one_ok : compF Try.prog (fun d => !([50].contains d)) 62 = some F_log_one := by kernel_rfl
@[simp] abbrev n_log_Place : FuncId := 100
def F_log_Place : F := ⟨(.seq (.ops [⟨(some 2), none, (.box (.t 0))⟩, ⟨(some 4), none, (.mov (.c (.int .i64 0)))⟩, ⟨(some 5), none, (.nil 89 3 true)⟩, ⟨(some 6), none, (.mov (.c (.int .i64 0)))⟩]) (.seq (.seq (.ops [⟨(some 9), none, (.ld (.t 2) (some 5))⟩, ⟨(some 10), none, (.call 46 [(.t 9)])⟩, ⟨(some 11), none, (.un .not (.t 10))⟩, ⟨(some 12), none, (.mov (.t 11))⟩, ⟨(some 13), (some (12, false)), (.mov (.t 1))⟩, ⟨(some 14), (some (12, false)), (.bin .lss (.t 13) (.c (.int .i64 1)))⟩, ⟨(some 15), none, (.pick (.t 12) (.c (.bool true)) (.t 14))⟩, ⟨(some 16), none, (.mov (.t 15))⟩, ⟨(some 17), (some (16, false)), (.mov (.t 1))⟩, ⟨(some 18), (some (16, false)), (.fad (.t 2) 0)⟩, ⟨(some 19), (some (16, false)), (.ld (.t 18) none)⟩, ⟨(some 20), (some (16, false)), (.bin .gtr (.t 17) (.t 19))⟩, ⟨(some 21), none, (.pick (.t 16) (.c (.bool true)) (.t 20))⟩]) (.cond (.t 21) (.seq (.ops [⟨(some 4), none, (.mov (.c (.int .i64 0)))⟩, ⟨(some 5), none, (.nil 89 3 true)⟩, ⟨(some 6), none, (.mov (.c (.int .i64 1)))⟩]) .ret) .skip)) (.seq (.seq (.ops [⟨(some 22), none, (.ld (.t 2) (some 5))⟩, ⟨(some 23), none, (.mov (.t 1))⟩, ⟨(some 24), none, (.call 155 [(.t 22), (.c (.int .i64 1)), (.t 23)])⟩, ⟨(some 7), none, (.mov (.t 24))⟩]) (.seq (.ops [⟨(some 25), none, (.mov (.t 7))⟩, ⟨(some 26), none, (.bin .geq (.t 25) (.c (.int .i64 0)))⟩]) (.cond (.t 26) (.seq (.ops [⟨(some 27), none, (.mov (.t 7))⟩, ⟨(some 4), none, (.mov (.t 27))⟩, ⟨(some 5), none, (.nil 89 3 true)⟩, ⟨(some 6), none, (.mov (.c (.int .i64 0)))⟩]) .ret) .skip))) (.seq (.ops [⟨(some 28), none, (.ld (.t 2) (some 5))⟩, ⟨(some 29), none, (.mov (.t 1))⟩, ⟨(some 30), none, (.call 155 [(.t 28), (.c (.int .i64 0)), (.t 29)])⟩, ⟨(some 8), none, (.mov (.t 30))⟩]) (.seq (.block 0 (.seq (.ops [⟨(some 32), none, (.mov (.t 8))⟩, ⟨(some 33), none, (.bin .lss (.t 32) (.c (.int .i64 0)))⟩, ⟨(some 31), none, (.mov (.t 33))⟩]) (.cond (.t 31) (.seq (.ops [⟨(some 4), none, (.mov (.c (.int .i64 0)))⟩, ⟨(some 5), none, (.nil 89 3 true)⟩, ⟨(some 6), none, (.mov (.c (.int .i64 60)))⟩]) .ret) (.seq (.ops [⟨(some 35), none, (.ld (.t 2) (some 5))⟩, ⟨(some 36), none, (.call 156 [(.t 35)])⟩, ⟨(some 37), none, (.bin .geq (.t 36) (.c (.int .i64 3)))⟩, ⟨(some 34), none, (.mov (.t 37))⟩]) (.cond (.t 34) (.seq (.ops [⟨(some 38), none, (.mov (.t 8))⟩, ⟨(some 39), none, (.ld (.t 2) (some 5))⟩, ⟨(some 40), none, (.call 155 [(.t 39), (.c (.int .i64 1)), (.c (.int .i64 0))])⟩, ⟨(some 41), none, (.bld [(.val (.int .i64 0)), (.val (.int .i64 0)), (.lit 1 [])] [(0, (1, (.c (.int .i64 3)))), (1, (1, (.t 40)))])⟩, ⟨(some 42), none, (.mkl 89 3 [(.t 41)] true)⟩, ⟨(some 4), none, (.mov (.t 38))⟩, ⟨(some 5), none, (.mov (.t 42))⟩, ⟨(some 6), none, (.mov (.c (.int .i64 0)))⟩]) .ret) .skip))))) (.seq (.ops [⟨(some 43), none, (.mov (.t 8))⟩, ⟨(some 4), none, (.mov (.t 43))⟩, ⟨(some 5), none, (.nil 89 3 true)⟩, ⟨(some 6), none, (.mov (.c (.int .i64 0)))⟩]) .ret)))))), 44, [(.tmp 4), (.tmp 5), (.tmp 6)]⟩
theorem F_log_Place_ok : compF Try.prog (fun _ => true) 100 = some F_log_Place := by kernel_rfl
@[simp] abbrev n_log_first : FuncId := 155
def F_log_first : F := ⟨(.seq (.ops [⟨(some 3), none, (.box (.t 0))⟩, ⟨(some 4), none, (.box (.t 1))⟩, ⟨(some 5), none, (.box (.t 2))⟩, ⟨(some 6), none, (.mov (.c (.int .i64 0)))⟩]) (.seq (.ops [⟨(some 7), none, (.fad (.t 3) 1)⟩, ⟨(some 8), none, (.ld (.t 7) none)⟩, ⟨(some 9), none, (.mkf 186 [(.t 4), (.t 3), (.t 5)])⟩, ⟨(some 10), none, (.call 157 [(.t 8), (.t 9)])⟩, ⟨(some 6), none, (.mov (.t 10))⟩]) .ret)), 11, [(.tmp 6)]⟩
theorem F_log_first_ok : compF Try.prog (fun _ => true) 155 = some F_log_first := by kernel_rfl
@[simp] abbrev n_log_first_1 : FuncId := 186
def F_log_first_1 : F := ⟨(.seq (.ops [⟨(some 4), none, (.box (.t 0))⟩, ⟨(some 5), none, (.mov (.c (.bool false)))⟩]) (.seq (.dops false [] [⟨(some 6), none, (.fad (.t 4) 0)⟩, ⟨(some 7), none, (.ld (.t 6) none)⟩, ⟨(some 8), none, (.ld (.t 1) none)⟩, ⟨(some 9), none, (.bin .eql (.t 7) (.t 8))⟩, ⟨(some 10), none, (.mov (.t 9))⟩, ⟨(some 11), (some (10, true)), (.ld (.t 4) (some 4))⟩, ⟨(some 12), (some (10, true)), (.fad (.t 2) 0)⟩, ⟨(some 13), (some (10, true)), (.ld (.t 12) none)⟩, ⟨(some 14), (some (10, true)), (.callq 187 [(.t 11), (.t 13)])⟩, ⟨(some 15), (some (10, true)), (.ld (.t 3) none)⟩, ⟨(some 16), (some (10, true)), (.bin .geq (.t 14) (.t 15))⟩, ⟨(some 17), none, (.pick (.t 10) (.t 16) (.c (.bool false)))⟩, ⟨(some 5), none, (.mov (.t 17))⟩]) .ret)), 18, [(.tmp 5)]⟩
theorem F_log_first_1_ok : compF Try.prog (fun _ => true) 186 = some F_log_first_1 := by kernel_rfl
@[simp] abbrev n_slices_ContainsFunc_Zone : FuncId := 101
def F_slices_ContainsFunc_Zone : F := ⟨(.seq (.ops [⟨(some 4), none, (.mov (.c (.bool false)))⟩]) (.seq (.ops [⟨(some 5), none, (.mov (.t 0))⟩, ⟨(some 6), none, (.mov (.t 1))⟩, ⟨(some 7), none, (.call 157 [(.t 5), (.t 6)])⟩, ⟨(some 8), none, (.bin .geq (.t 7) (.c (.int .i64 0)))⟩, ⟨(some 4), none, (.mov (.t 8))⟩]) .ret)), 9, [(.tmp 4)]⟩
theorem F_slices_ContainsFunc_Zone_ok : compF Try.prog (fun _ => true) 101 = some F_slices_ContainsFunc_Zone := by kernel_rfl
@[simp] abbrev n_slices_IndexFunc_Zone : FuncId := 157
def F_slices_IndexFunc_Zone_L0 : C := (.seq (.ops [⟨(some 9), none, (.bin .lss (.t 8) (.t 7))⟩]) (.seq (.cond (.t 9) .skip (.exit 0)) (.seq (.block 1 (.seq (.ops [⟨(some 10), none, (.mov (.t 8))⟩, ⟨(some 5), none, (.mov (.t 10))⟩]) (.seq (.ops [⟨(some 11), none, (.mov (.t 1))⟩, ⟨(some 12), none, (.mov (.t 0))⟩, ⟨(some 13), none, (.mov (.t 5))⟩, ⟨(some 14), none, (.ixs (.t 12) (.t 13) 4)⟩, ⟨(some 15), none, (.lde (.t 14) (some 4))⟩, ⟨(some 16), none, (.callv (.t 11) [(.t 15)])⟩]) (.cond (.t 16) (.seq (.ops [⟨(some 17), none, (.mov (.t 5))⟩, ⟨(some 4), none, (.mov (.t 17))⟩]) .ret) .skip)))) (.ops [⟨(some 18), none, (.bin .add (.t 8) (.c (.int .i64 1)))⟩, ⟨(some 8), none, (.mov (.t 18))⟩]))))
def F_slices_IndexFunc_Zone : F := ⟨(.seq (.ops [⟨(some 4), none, (.mov (.c (.int .i64 0)))⟩]) (.seq (.seq (.ops [⟨(some 6), none, (.mov (.t 0))⟩, ⟨(some 7), none, (.len (.t 6))⟩, ⟨(some 8), none, (.mov (.c (.int .i64 0)))⟩]) (.block 0 (.loop F_slices_IndexFunc_Zone_L0))) (.seq (.ops [⟨(some 4), none, (.mov (.c (.int .i64 (-1))))⟩]) .ret))), 19, [(.tmp 4)]⟩
theorem F_slices_IndexFunc_Zone_ok : compF Try.prog (fun _ => true) 157 = some F_slices_IndexFunc_Zone := by kernel_rfl
@[simp] abbrev n_slices_Clone_Zone : FuncId := 159
def F_slices_Clone_Zone : F := ⟨(.seq (.ops [⟨(some 2), none, (.nil 85 4 false)⟩]) (.seq (.seq (.ops [⟨(some 3), none, (.mov (.t 0))⟩, ⟨(some 4), none, (.snil false (.t 3))⟩]) (.cond (.t 4) (.seq (.ops [⟨(some 2), none, (.nil 85 4 false)⟩]) .ret) .skip)) (.seq (.ops [⟨(some 5), none, (.mem (.eml 4) [])⟩, ⟨(some 6), none, (.mov (.t 0))⟩, ⟨(some 7), none, (.mem (.apb 85 4 48) [(.t 5), (.t 6)])⟩, ⟨(some 2), none, (.mov (.t 7))⟩]) .ret))), 8, [(.tmp 2)]⟩
theorem F_slices_Clone_Zone_ok : compF Try.prog (fun d => !([2, 2097157, 2097159].contains d)) 159 = some F_slices_Clone_Zone := by kernel_rfl
@[simp] abbrev n_zone_Check : FuncId := 103
def F_zone_Check : F := ⟨(.seq (.ops [⟨(some 2), none, (.box (.t 0))⟩, ⟨(some 4), none, (.mov (.c (.bool false)))⟩]) (.seq (.ops [⟨(some 6), none, (.fad (.t 2) 2)⟩, ⟨(some 7), none, (.ld (.t 6) none)⟩, ⟨(some 8), none, (.len (.t 7))⟩, ⟨(some 5), none, (.mov (.t 8))⟩]) (.seq (.seq (.ops [⟨(some 9), none, (.mov (.t 1))⟩, ⟨(some 10), none, (.bin .lss (.t 9) (.c (.int .i64 1)))⟩, ⟨(some 11), none, (.mov (.t 10))⟩, ⟨(some 12), (some (11, false)), (.mov (.t 1))⟩, ⟨(some 13), (some (11, false)), (.bin .gtr (.t 12) (.c (.int .i64 1048576)))⟩, ⟨(some 14), none, (.pick (.t 11) (.c (.bool true)) (.t 13))⟩, ⟨(some 15), none, (.mov (.t 14))⟩, ⟨(some 16), (some (15, false)), (.mov (.t 5))⟩, ⟨(some 17), (some (15, false)), (.mov (.t 1))⟩, ⟨(some 18), (some (15, false)), (.bin .gtr (.t 16) (.t 17))⟩, ⟨(some 19), none, (.pick (.t 15) (.c (.bool true)) (.t 18))⟩, ⟨(some 20), none, (.mov (.t 19))⟩, ⟨(some 21), (some (20, false)), (.fad (.t 2) 3)⟩, ⟨(some 22), (some (20, false)), (.ld (.t 21) none)⟩, ⟨(some 23), (some (20, false)), (.bin .lss (.t 22) (.c (.int .i64 0)))⟩, ⟨(some 24), none, (.pick (.t 20) (.c (.bool true)) (.t 23))⟩, ⟨(some 25), none, (.mov (.t 24))⟩, ⟨(some 26), (some (25, false)), (.fad (.t 2) 3)⟩, ⟨(some 27), (some (25, false)), (.ld (.t 26) none)⟩, ⟨(some 28), (some (25, false)), (.mov (.t 5))⟩, ⟨(some 29), (some (25, false)), (.bin .gtr (.t 27) (.t 28))⟩, ⟨(some 30), none, (.pick (.t 25) (.c (.bool true)) (.t 29))⟩, ⟨(some 31), none, (.mov (.t 30))⟩, ⟨(some 32), (some (31, false)), (.fad (.t 2) 1)⟩, ⟨(some 33), (some (31, false)), (.ld (.t 32) none)⟩, ⟨(some 34), (some (31, false)), (.bin .lss (.t 33) (.c (.int .i64 0)))⟩, ⟨(some 35), none, (.pick (.t 31) (.c (.bool true)) (.t 34))⟩, ⟨(some 36), none, (.mov (.t 35))⟩, ⟨(some 37), (some (36, false)), (.fad (.t 2) 1)⟩, ⟨(some 38), (some (36, false)), (.ld (.t 37) none)⟩, ⟨(some 39), (some (36, false)), (.bin .gtr (.t 38) (.c (.int .i64 1073741824)))⟩, ⟨(some 40), none, (.pick (.t 36) (.c (.bool true)) (.t 39))⟩]) (.cond (.t 40) (.seq (.ops [⟨(some 4), none, (.mov (.c (.bool false)))⟩]) .ret) .skip)) (.seq (.block 0 (.seq (.ops [⟨(some 42), none, (.fad (.t 2) 0)⟩, ⟨(some 43), none, (.ld (.t 42) none)⟩, ⟨(some 44), none, (.bin .eql (.t 43) (.c (.int .i64 0)))⟩, ⟨(some 41), none, (.mov (.t 44))⟩]) (.cond (.t 41) (.seq (.ops [⟨(some 45), none, (.mov (.t 5))⟩, ⟨(some 46), none, (.bin .eql (.t 45) (.c (.int .i64 0)))⟩, ⟨(some 4), none, (.mov (.t 46))⟩]) .ret) (.seq (.ops [⟨(some 48), none, (.ld (.t 2) (some 4))⟩, ⟨(some 49), none, (.call 158 [(.t 48)])⟩, ⟨(some 47), none, (.mov (.t 49))⟩]) (.cond (.t 47) (.seq (.ops [⟨(some 50), none, (.mov (.t 5))⟩, ⟨(some 51), none, (.bin .gtr (.t 50) (.c (.int .i64 0)))⟩, ⟨(some 52), none, (.mov (.t 51))⟩, ⟨(some 53), (some (52, true)), (.mov (.t 5))⟩, ⟨(some 54), (some (52, true)), (.mov (.t 1))⟩, ⟨(some 55), (some (52, true)), (.bin .lss (.t 53) (.t 54))⟩, ⟨(some 56), none, (.pick (.t 52) (.t 55) (.c (.bool false)))⟩, ⟨(some 4), none, (.mov (.t 56))⟩]) .ret) .skip))))) (.seq (.ops [⟨(some 57), none, (.fad (.t 2) 0)⟩, ⟨(some 58), none, (.ld (.t 57) none)⟩, ⟨(some 59), none, (.bin .eql (.t 58) (.c (.int .i64 3)))⟩, ⟨(some 4), none, (.mov (.t 59))⟩]) .ret))))), 60, [(.tmp 4)]⟩
theorem F_zone_Check_ok : compF Try.prog (fun _ => true) 103 = some F_zone_Check := by kernel_rfl
@[simp] abbrev n_zone_takes : FuncId := 158
def F_zone_takes : F := ⟨(.seq (.ops [⟨(some 1), none, (.box (.t 0))⟩, ⟨(some 2), none, (.mov (.c (.bool false)))⟩]) (.seq (.seq (.ops [⟨(some 3), none, (.fad (.t 1) 0)⟩, ⟨(some 4), none, (.ld (.t 3) none)⟩]) (.block 0 (.seq (.block 2 (.block 1 (.seq (.seq (.seq (.ops [⟨(some 6), none, (.bin .eql (.t 4) (.c (.int .i64 0)))⟩, ⟨(some 5), none, (.mov (.t 6))⟩]) (.cond (.t 5) (.exit 1) .skip)) (.seq (.seq (.ops [⟨(some 8), none, (.bin .eql (.t 4) (.c (.int .i64 1)))⟩, ⟨(some 7), none, (.mov (.t 8))⟩]) (.cond (.t 7) .skip (.ops [⟨(some 9), none, (.bin .eql (.t 4) (.c (.int .i64 2)))⟩, ⟨(some 7), none, (.mov (.t 9))⟩]))) (.cond (.t 7) (.exit 2) .skip))) (.exit 0)))) (.seq (.seq (.ops [⟨(some 2), none, (.mov (.c (.bool true)))⟩]) .ret) (.exit 0))))) (.seq (.ops [⟨(some 2), none, (.mov (.c (.bool false)))⟩]) .ret))), 10, [(.tmp 2)]⟩
theorem F_zone_takes_ok : compF Try.prog (fun _ => true) 158 = some F_zone_takes := by kernel_rfl
@[simp] abbrev n_zone_Room : FuncId := 187
def F_zone_Room : F := ⟨(.seq (.ops [⟨(some 2), none, (.box (.t 0))⟩, ⟨(some 4), none, (.mov (.c (.int .i64 0)))⟩]) (.seq (.seq (.ops [⟨(some 5), none, (.ld (.t 2) (some 4))⟩, ⟨(some 6), none, (.mov (.t 1))⟩, ⟨(some 7), none, (.call 103 [(.t 5), (.t 6)])⟩, ⟨(some 8), none, (.un .not (.t 7))⟩, ⟨(some 9), none, (.mov (.t 8))⟩, ⟨(some 10), (some (9, false)), (.ld (.t 2) (some 4))⟩, ⟨(some 11), (some (9, false)), (.call 158 [(.t 10)])⟩, ⟨(some 12), (some (9, false)), (.un .not (.t 11))⟩, ⟨(some 13), none, (.pick (.t 9) (.c (.bool true)) (.t 12))⟩]) (.cond (.t 13) (.seq (.ops [⟨(some 4), none, (.mov (.c (.int .i64 0)))⟩]) .ret) .skip)) (.seq (.ops [⟨(some 14), none, (.mov (.t 1))⟩, ⟨(some 15), none, (.fad (.t 2) 2)⟩, ⟨(some 16), none, (.ld (.t 15) none)⟩, ⟨(some 17), none, (.len (.t 16))⟩, ⟨(some 18), none, (.bin .sub (.t 14) (.t 17))⟩, ⟨(some 4), none, (.mov (.t 18))⟩]) .ret))), 19, [(.tmp 4)]⟩
theorem F_zone_Room_ok : compF Try.prog (fun _ => true) 187 = some F_zone_Room := by kernel_rfl
@[simp] abbrev n_zone_done : FuncId := 166
def F_zone_done : F := ⟨(.seq (.ops [⟨(some 3), none, (.box (.t 0))⟩, ⟨(some 6), none, (.alc [(.val (.int .i64 0)), (.val (.int .i64 0)), (.lit 1 []), (.val (.int .i64 0))])⟩, ⟨(some 7), none, (.mov (.c (.int .i64 0)))⟩]) (.seq (.ops [⟨(some 8), none, (.mkl 5 1 [] true)⟩, ⟨(some 9), none, (.fad (.t 3) 2)⟩, ⟨(some 10), none, (.ld (.t 9) none)⟩, ⟨(some 11), none, (.app (.t 8) (.t 10) 5 1 1 true)⟩, ⟨(some 12), none, (.fad (.t 3) 2)⟩, ⟨none, none, (.st (.t 12) 1 (.t 11))⟩]) (.seq (.seq (.ops [⟨(some 13), none, (.mov (.t 1))⟩, ⟨(some 14), none, (.un .not (.t 13))⟩]) (.cond (.t 14) (.seq (.ops [⟨(some 15), none, (.ld (.t 3) (some 4))⟩, ⟨none, none, (.st (.t 6) 4 (.t 15))⟩, ⟨(some 7), none, (.mov (.c (.int .i64 30)))⟩]) .ret) .skip)) (.seq (.ops [⟨(some 16), none, (.mov (.t 2))⟩, ⟨(some 17), none, (.callv (.t 16) [(.t 3)])⟩]) (.seq (.ops [⟨(some 18), none, (.ld (.t 3) (some 4))⟩, ⟨none, none, (.st (.t 6) 4 (.t 18))⟩, ⟨(some 7), none, (.mov (.c (.int .i64 0)))⟩]) .ret))))), 19, [(.cell 6 (some 4)), (.tmp 7)]⟩
theorem F_zone_done_ok : compF Try.prog (fun _ => true) 166 = some F_zone_done := by kernel_rfl
@[simp] abbrev n_zone_filled : FuncId := 168
def F_zone_filled : F := ⟨(.seq (.ops [⟨(some 3), none, (.box (.t 0))⟩, ⟨(some 6), none, (.mov (.c (.int .i64 0)))⟩]) (.seq (.seq (.ops [⟨(some 7), none, (.fad (.t 3) 2)⟩, ⟨(some 8), none, (.ld (.t 7) none)⟩, ⟨(some 9), none, (.len (.t 8))⟩]) (.block 0 (.seq (.ops [⟨(some 11), none, (.bin .eql (.t 9) (.c (.int .i64 0)))⟩, ⟨(some 10), none, (.mov (.t 11))⟩]) (.cond (.t 10) (.seq (.ops [⟨(some 6), none, (.mov (.c (.int .i64 0)))⟩]) .ret) (.seq (.ops [⟨(some 13), none, (.mov (.t 1))⟩, ⟨(some 14), none, (.bin .eql (.t 9) (.t 13))⟩, ⟨(some 12), none, (.mov (.t 14))⟩]) (.cond (.t 12) (.seq (.ops [⟨(some 6), none, (.mov (.c (.int .i64 3)))⟩]) .ret) .skip)))))) (.seq (.ops [⟨(some 15), none, (.mov (.t 2))⟩, ⟨(some 6), none, (.mov (.t 15))⟩]) .ret))), 16, [(.tmp 6)]⟩
theorem F_zone_filled_ok : compF Try.prog (fun _ => true) 168 = some F_zone_filled := by kernel_rfl
@[simp] abbrev n_zone_Flush : FuncId := 161
def F_zone_Flush : F := ⟨(.seq (.ops [⟨(some 1), none, (.box (.t 0))⟩, ⟨(some 2), none, (.alc [(.val (.int .i64 0)), (.val (.int .i64 0)), (.lit 1 []), (.val (.int .i64 0))])⟩]) (.seq (.ops [⟨(some 4), none, (.ld (.t 1) (some 4))⟩, ⟨(some 5), none, (.call 166 [(.t 4), (.c (.bool true)), (.f 192)])⟩, ⟨(some 3), none, (.mov (.t 5))⟩, ⟨(some 6), none, (.ext (.t 3) 0)⟩, ⟨(some 7), none, (.ext (.t 3) 1)⟩, ⟨none, none, (.st (.t 1) 4 (.t 6))⟩]) (.seq (.ops [⟨(some 8), none, (.ld (.t 1) (some 4))⟩, ⟨none, none, (.st (.t 2) 4 (.t 8))⟩]) .ret))), 9, [(.cell 2 (some 4))]⟩
theorem F_zone_Flush_ok : compF Try.prog (fun _ => true) 161 = some F_zone_Flush := by kernel_rfl
@[simp] abbrev n_zone_Flush_1 : FuncId := 192
def F_zone_Flush_1 : F := ⟨(.ops [⟨(some 2), none, (.mov (.t 0))⟩, ⟨(some 3), none, (.mov (.t 0))⟩, ⟨(some 4), none, (.mem .nck [(.t 3)])⟩, ⟨(some 5), none, (.fad (.t 4) 2)⟩, ⟨(some 6), none, (.ld (.t 5) none)⟩, ⟨(some 7), none, (.len (.t 6))⟩, ⟨(some 8), none, (.mem .nck [(.t 2)])⟩, ⟨(some 9), none, (.fad (.t 8) 3)⟩, ⟨none, none, (.st (.t 9) 1 (.t 7))⟩]), 10, []⟩
theorem F_zone_Flush_1_ok : compF Try.prog (fun _ => true) 192 = some F_zone_Flush_1 := by kernel_rfl
@[simp] abbrev n_zone_Append : FuncId := 203
def F_zone_Append : F := ⟨(.seq (.ops [⟨(some 3), none, (.box (.t 0))⟩, ⟨(some 4), none, (.box (.t 1))⟩, ⟨(some 5), none, (.box (.t 2))⟩, ⟨(some 6), none, (.alc [(.val (.int .i64 0)), (.val (.int .i64 0)), (.lit 1 []), (.val (.int .i64 0))])⟩, ⟨(some 7), none, (.mov (.c (.int .i64 0)))⟩]) (.seq (.seq (.ops [⟨(some 8), none, (.ld (.t 3) (some 4))⟩, ⟨(some 9), none, (.ld (.t 4) none)⟩, ⟨(some 10), none, (.call 103 [(.t 8), (.t 9)])⟩, ⟨(some 11), none, (.un .not (.t 10))⟩, ⟨(some 12), none, (.mov (.t 11))⟩, ⟨(some 13), (some (12, false)), (.ld (.t 5) none)⟩, ⟨(some 14), (some (12, false)), (.len (.t 13))⟩, ⟨(some 15), (some (12, false)), (.bin .eql (.t 14) (.c (.int .i64 0)))⟩, ⟨(some 16), none, (.pick (.t 12) (.c (.bool true)) (.t 15))⟩]) (.cond (.t 16) (.seq (.ops [⟨(some 17), none, (.fad (.t 3) 2)⟩, ⟨(some 18), none, (.ld (.t 17) none)⟩, ⟨(some 19), none, (.call 77 [(.t 18)])⟩, ⟨(some 20), none, (.fad (.t 3) 2)⟩, ⟨none, none, (.st (.t 20) 1 (.t 19))⟩]) (.seq (.ops [⟨(some 21), none, (.ld (.t 3) (some 4))⟩, ⟨none, none, (.st (.t 6) 4 (.t 21))⟩, ⟨(some 7), none, (.mov (.c (.int .i64 1)))⟩]) .ret)) .skip)) (.seq (.dops false [] [⟨(some 22), none, (.ld (.t 3) (some 4))⟩, ⟨(some 23), none, (.ld (.t 5) none)⟩, ⟨(some 24), none, (.len (.t 23))⟩, ⟨(some 25), none, (.ld (.t 3) (some 4))⟩, ⟨(some 26), none, (.ld (.t 4) none)⟩, ⟨(some 29), none, (.mkf 211 [(.t 5), (.t 4)])⟩, ⟨(some 27), none, (.callf (.f 187) [(.t 25), (.t 26)] [3, 5])⟩, ⟨(some 28), none, (.bin .leq (.t 24) (.t 27))⟩, ⟨(some 30), none, (.callf (.f 166) [(.t 22), (.t 28), (.t 29)] [])⟩, ⟨(some 31), none, (.ext (.t 30) 0)⟩, ⟨(some 32), none, (.ext (.t 30) 1)⟩, ⟨none, none, (.st (.t 6) 4 (.t 31))⟩, ⟨(some 7), none, (.mov (.t 32))⟩]) .ret))), 33, [(.cell 6 (some 4)), (.tmp 7)]⟩
theorem F_zone_Append_ok : compF Try.prog (fun d => !([4194305].contains d)) 203 = some F_zone_Append := by kernel_rfl
@[simp] abbrev n_zone_Append_1 : FuncId := 211
def F_zone_Append_1 : F := ⟨(.seq (.dops false [] [⟨(some 4), none, (.mov (.t 0))⟩, ⟨(some 5), none, (.mov (.t 0))⟩, ⟨(some 6), none, (.mem .nck [(.t 5)])⟩, ⟨(some 7), none, (.fad (.t 6) 2)⟩, ⟨(some 8), none, (.ld (.t 7) none)⟩, ⟨(some 9), none, (.ld (.t 1) none)⟩, ⟨(some 10), none, (.app (.t 8) (.t 9) 5 1 1 true)⟩, ⟨(some 11), none, (.mem .nck [(.t 4)])⟩, ⟨(some 12), none, (.fad (.t 11) 2)⟩, ⟨none, none, (.st (.t 12) 1 (.t 10))⟩]) (.dops false [] [⟨(some 13), none, (.mov (.t 0))⟩, ⟨(some 14), none, (.mov (.t 0))⟩, ⟨(some 15), none, (.mem .nck [(.t 14)])⟩, ⟨(some 16), none, (.ld (.t 15) (some 4))⟩, ⟨(some 17), none, (.ld (.t 2) none)⟩, ⟨(some 18), none, (.call 168 [(.t 16), (.t 17), (.c (.int .i64 1))])⟩, ⟨(some 19), none, (.mem .nck [(.t 13)])⟩, ⟨(some 20), none, (.fad (.t 19) 0)⟩, ⟨none, none, (.st (.t 20) 1 (.t 18))⟩])), 21, []⟩
theorem F_zone_Append_1_ok : compF Try.prog (fun _ => true) 211 = some F_zone_Append_1 := by kernel_rfl
@[simp] abbrev n_zone_Reset : FuncId := 204
def F_zone_Reset : F := ⟨(.seq (.ops [⟨(some 1), none, (.box (.t 0))⟩, ⟨(some 2), none, (.alc [(.val (.int .i64 0)), (.val (.int .i64 0)), (.lit 1 []), (.val (.int .i64 0))])⟩, ⟨(some 3), none, (.mov (.c (.int .i64 0)))⟩]) (.seq (.ops [⟨(some 5), none, (.ld (.t 1) (some 4))⟩, ⟨(some 6), none, (.call 158 [(.t 5)])⟩, ⟨(some 7), none, (.mov (.t 6))⟩, ⟨(some 8), (some (7, false)), (.fad (.t 1) 0)⟩, ⟨(some 9), (some (7, false)), (.ld (.t 8) none)⟩, ⟨(some 10), (some (7, false)), (.bin .eql (.t 9) (.c (.int .i64 3)))⟩, ⟨(some 11), none, (.pick (.t 7) (.c (.bool true)) (.t 10))⟩, ⟨(some 12), none, (.mov (.t 11))⟩, ⟨(some 13), (some (12, true)), (.fad (.t 1) 1)⟩, ⟨(some 14), (some (12, true)), (.ld (.t 13) none)⟩, ⟨(some 15), (some (12, true)), (.bin .geq (.t 14) (.c (.int .i64 0)))⟩, ⟨(some 16), none, (.pick (.t 12) (.t 15) (.c (.bool false)))⟩, ⟨(some 17), none, (.mov (.t 16))⟩, ⟨(some 18), (some (17, true)), (.fad (.t 1) 1)⟩, ⟨(some 19), (some (17, true)), (.ld (.t 18) none)⟩, ⟨(some 20), (some (17, true)), (.bin .lss (.t 19) (.c (.int .i64 1073741824)))⟩, ⟨(some 21), none, (.pick (.t 17) (.t 20) (.c (.bool false)))⟩, ⟨(some 4), none, (.mov (.t 21))⟩]) (.seq (.ops [⟨(some 22), none, (.ld (.t 1) (some 4))⟩, ⟨(some 23), none, (.mov (.t 4))⟩, ⟨(some 24), none, (.call 166 [(.t 22), (.t 23), (.f 212)])⟩, ⟨(some 25), none, (.ext (.t 24) 0)⟩, ⟨(some 26), none, (.ext (.t 24) 1)⟩, ⟨none, none, (.st (.t 2) 4 (.t 25))⟩, ⟨(some 3), none, (.mov (.t 26))⟩]) .ret))), 27, [(.cell 2 (some 4)), (.tmp 3)]⟩
theorem F_zone_Reset_ok : compF Try.prog (fun _ => true) 204 = some F_zone_Reset := by kernel_rfl
@[simp] abbrev n_zone_Reset_1 : FuncId := 212
def F_zone_Reset_1 : F := ⟨(.ops [⟨(some 2), none, (.mov (.t 0))⟩, ⟨(some 3), none, (.mov (.t 0))⟩, ⟨(some 4), none, (.mem .nck [(.t 3)])⟩, ⟨(some 5), none, (.fad (.t 4) 1)⟩, ⟨(some 6), none, (.ld (.t 5) none)⟩, ⟨(some 7), none, (.bin .add (.t 6) (.c (.int .i64 1)))⟩, ⟨(some 8), none, (.bld [(.val (.int .i64 0)), (.val (.int .i64 0)), (.lit 1 []), (.val (.int .i64 0))] [(1, (1, (.t 7)))])⟩, ⟨(some 9), none, (.mem .nck [(.t 2)])⟩, ⟨none, none, (.st (.t 9) 4 (.t 8))⟩]), 10, []⟩
theorem F_zone_Reset_1_ok : compF Try.prog (fun _ => true) 212 = some F_zone_Reset_1 := by kernel_rfl
@[simp] abbrev n_zone_Finish : FuncId := 205
def F_zone_Finish : F := ⟨(.seq (.ops [⟨(some 1), none, (.box (.t 0))⟩, ⟨(some 2), none, (.alc [(.val (.int .i64 0)), (.val (.int .i64 0)), (.lit 1 []), (.val (.int .i64 0))])⟩, ⟨(some 3), none, (.mov (.c (.int .i64 0)))⟩]) (.seq (.dops false [] [⟨(some 4), none, (.ld (.t 1) (some 4))⟩, ⟨(some 5), none, (.ld (.t 1) (some 4))⟩, ⟨(some 6), none, (.callf (.f 158) [(.t 5)] [1])⟩, ⟨(some 7), none, (.mov (.t 6))⟩, ⟨(some 8), (some (7, true)), (.fad (.t 1) 0)⟩, ⟨(some 9), (some (7, true)), (.ld (.t 8) none)⟩, ⟨(some 10), (some (7, true)), (.bin .neq (.t 9) (.c (.int .i64 0)))⟩, ⟨(some 11), none, (.pick (.t 7) (.t 10) (.c (.bool false)))⟩, ⟨(some 12), none, (.callf (.f 166) [(.t 4), (.t 11), (.f 213)] [])⟩, ⟨(some 13), none, (.ext (.t 12) 0)⟩, ⟨(some 14), none, (.ext (.t 12) 1)⟩, ⟨none, none, (.st (.t 2) 4 (.t 13))⟩, ⟨(some 3), none, (.mov (.t 14))⟩]) .ret)), 15, [(.cell 2 (some 4)), (.tmp 3)]⟩
theorem F_zone_Finish_ok : compF Try.prog (fun d => !([4194305].contains d)) 205 = some F_zone_Finish := by kernel_rfl
@[simp] abbrev n_zone_Finish_1 : FuncId := 213
def F_zone_Finish_1 : F := ⟨(.ops [⟨(some 2), none, (.mov (.t 0))⟩, ⟨(some 3), none, (.mem .nck [(.t 2)])⟩, ⟨(some 4), none, (.fad (.t 3) 0)⟩, ⟨none, none, (.st (.t 4) 1 (.c (.int .i64 3)))⟩]), 5, []⟩
theorem F_zone_Finish_1_ok : compF Try.prog (fun _ => true) 213 = some F_zone_Finish_1 := by kernel_rfl
@[simp] abbrev n_zone_Close : FuncId := 206
def F_zone_Close : F := ⟨(.seq (.ops [⟨(some 1), none, (.box (.t 0))⟩, ⟨(some 2), none, (.alc [(.val (.int .i64 0)), (.val (.int .i64 0)), (.lit 1 []), (.val (.int .i64 0))])⟩, ⟨(some 3), none, (.mov (.c (.int .i64 0)))⟩]) (.seq (.ops [⟨(some 4), none, (.ld (.t 1) (some 4))⟩, ⟨(some 5), none, (.fad (.t 1) 0)⟩, ⟨(some 6), none, (.ld (.t 5) none)⟩, ⟨(some 7), none, (.bin .eql (.t 6) (.c (.int .i64 1)))⟩, ⟨(some 8), none, (.call 166 [(.t 4), (.t 7), (.f 214)])⟩, ⟨(some 9), none, (.ext (.t 8) 0)⟩, ⟨(some 10), none, (.ext (.t 8) 1)⟩, ⟨none, none, (.st (.t 2) 4 (.t 9))⟩, ⟨(some 3), none, (.mov (.t 10))⟩]) .ret)), 11, [(.cell 2 (some 4)), (.tmp 3)]⟩
theorem F_zone_Close_ok : compF Try.prog (fun _ => true) 206 = some F_zone_Close := by kernel_rfl
@[simp] abbrev n_zone_Close_1 : FuncId := 214
def F_zone_Close_1 : F := ⟨(.ops [⟨(some 2), none, (.mov (.t 0))⟩, ⟨(some 3), none, (.mem .nck [(.t 2)])⟩, ⟨(some 4), none, (.fad (.t 3) 0)⟩, ⟨none, none, (.st (.t 4) 1 (.c (.int .i64 2)))⟩]), 5, []⟩
theorem F_zone_Close_1_ok : compF Try.prog (fun _ => true) 214 = some F_zone_Close_1 := by kernel_rfl
@[simp] abbrev n_dev_command_append : FuncId := 188
def F_dev_command_append : F := ⟨(.seq (.ops [⟨(some 3), none, (.box (.t 0))⟩, ⟨(some 5), none, (.box (.t 2))⟩, ⟨(some 6), none, (.alc [(.val (.int .i64 0)), (.val (.int .i64 0)), (.lit 1 []), (.val (.int .i64 0))])⟩, ⟨(some 7), none, (.mov (.c (.int .i64 0)))⟩]) (.seq (.seq (.ops [⟨(some 8), none, (.fad (.t 5) 0)⟩, ⟨(some 9), none, (.ld (.t 8) none)⟩, ⟨(some 10), none, (.bin .neq (.t 9) (.c (.int .i64 1)))⟩, ⟨(some 11), none, (.mov (.t 10))⟩, ⟨(some 12), (some (11, true)), (.mov (.t 1))⟩, ⟨(some 13), (some (11, true)), (.mem .nck [(.t 12)])⟩, ⟨(some 14), (some (11, true)), (.ld (.t 13) (some 5))⟩, ⟨(some 15), (some (11, true)), (.call 156 [(.t 14)])⟩, ⟨(some 16), (some (11, true)), (.bin .geq (.t 15) (.c (.int .i64 3)))⟩, ⟨(some 17), none, (.pick (.t 11) (.t 16) (.c (.bool false)))⟩]) (.cond (.t 17) (.seq (.ops [⟨(some 18), none, (.ld (.t 5) (some 4))⟩, ⟨none, none, (.st (.t 6) 4 (.t 18))⟩, ⟨(some 7), none, (.mov (.c (.int .i64 30)))⟩]) .ret) .skip)) (.seq (.dops false [] [⟨(some 19), none, (.ld (.t 5) (some 4))⟩, ⟨(some 20), none, (.mov (.t 1))⟩, ⟨(some 21), none, (.mem .nck [(.t 20)])⟩, ⟨(some 22), none, (.fad (.t 21) 0)⟩, ⟨(some 23), none, (.ld (.t 22) none)⟩, ⟨(some 24), none, (.fad (.t 3) 2)⟩, ⟨(some 25), none, (.ld (.t 24) none)⟩, ⟨(some 26), none, (.call 203 [(.t 19), (.t 23), (.t 25)])⟩, ⟨(some 27), none, (.ext (.t 26) 0)⟩, ⟨(some 28), none, (.ext (.t 26) 1)⟩, ⟨none, none, (.st (.t 6) 4 (.t 27))⟩, ⟨(some 7), none, (.mov (.t 28))⟩]) .ret))), 29, [(.cell 6 (some 4)), (.tmp 7)]⟩
theorem F_dev_command_append_ok : compF Try.prog (fun _ => true) 188 = some F_dev_command_append := by kernel_rfl
@[simp] abbrev n_dev_command_reset : FuncId := 189
def F_dev_command_reset : F := ⟨(.seq (.ops [⟨(some 3), none, (.box (.t 0))⟩, ⟨(some 5), none, (.box (.t 2))⟩, ⟨(some 6), none, (.alc [(.val (.int .i64 0)), (.val (.int .i64 0)), (.lit 1 []), (.val (.int .i64 0))])⟩, ⟨(some 7), none, (.mov (.c (.int .i64 0)))⟩]) (.seq (.ops [⟨(some 8), none, (.ld (.t 5) (some 4))⟩, ⟨(some 9), none, (.call 204 [(.t 8)])⟩, ⟨(some 10), none, (.ext (.t 9) 0)⟩, ⟨(some 11), none, (.ext (.t 9) 1)⟩, ⟨none, none, (.st (.t 6) 4 (.t 10))⟩, ⟨(some 7), none, (.mov (.t 11))⟩]) .ret)), 12, [(.cell 6 (some 4)), (.tmp 7)]⟩
theorem F_dev_command_reset_ok : compF Try.prog (fun _ => true) 189 = some F_dev_command_reset := by kernel_rfl
@[simp] abbrev n_dev_command_finish : FuncId := 190
def F_dev_command_finish : F := ⟨(.seq (.ops [⟨(some 3), none, (.box (.t 0))⟩, ⟨(some 5), none, (.box (.t 2))⟩, ⟨(some 6), none, (.alc [(.val (.int .i64 0)), (.val (.int .i64 0)), (.lit 1 []), (.val (.int .i64 0))])⟩, ⟨(some 7), none, (.mov (.c (.int .i64 0)))⟩]) (.seq (.ops [⟨(some 8), none, (.ld (.t 5) (some 4))⟩, ⟨(some 9), none, (.call 205 [(.t 8)])⟩, ⟨(some 10), none, (.ext (.t 9) 0)⟩, ⟨(some 11), none, (.ext (.t 9) 1)⟩, ⟨none, none, (.st (.t 6) 4 (.t 10))⟩, ⟨(some 7), none, (.mov (.t 11))⟩]) .ret)), 12, [(.cell 6 (some 4)), (.tmp 7)]⟩
theorem F_dev_command_finish_ok : compF Try.prog (fun _ => true) 190 = some F_dev_command_finish := by kernel_rfl
@[simp] abbrev n_dev_command_close : FuncId := 191
def F_dev_command_close : F := ⟨(.seq (.ops [⟨(some 3), none, (.box (.t 0))⟩, ⟨(some 5), none, (.box (.t 2))⟩, ⟨(some 6), none, (.alc [(.val (.int .i64 0)), (.val (.int .i64 0)), (.lit 1 []), (.val (.int .i64 0))])⟩, ⟨(some 7), none, (.mov (.c (.int .i64 0)))⟩]) (.seq (.ops [⟨(some 8), none, (.ld (.t 5) (some 4))⟩, ⟨(some 9), none, (.call 206 [(.t 8)])⟩, ⟨(some 10), none, (.ext (.t 9) 0)⟩, ⟨(some 11), none, (.ext (.t 9) 1)⟩, ⟨none, none, (.st (.t 6) 4 (.t 10))⟩, ⟨(some 7), none, (.mov (.t 11))⟩]) .ret)), 12, [(.cell 6 (some 4)), (.tmp 7)]⟩
theorem F_dev_command_close_ok : compF Try.prog (fun _ => true) 191 = some F_dev_command_close := by kernel_rfl
end Go.Av

namespace Go.Av
open Enc (enc dec)
open Cel (cs dc)
open Go.Proofs

def mayB (v : Nat) (w : Int) : Bool := decide ((w = 1 ∨ w = 2 ∨ w = 4) ∧ v < 256 ^ w.toNat ∨ w = 8)
def leB (v w : Nat) : List UInt8 := (List.range w).map fun i => UInt8.ofNat (v / 256 ^ i)

theorem shr_eq (v k : Nat) : Int.fdiv (v : Int) (2 ^ k) = ((v / 2 ^ k : Nat) : Int) := by
  have h : (0 : Int) ≤ 2 ^ k := Int.le_of_lt (Int.pow_pos (by decide))
  rw [Int.fdiv_eq_ediv_of_nonneg _ h, Int.natCast_ediv]
  simp
theorem shr_lt (v w : Nat) : (((v / 256 ^ w : Nat) : Int) = 0) ↔ v < 256 ^ w := by
  have hp : 0 < 256 ^ w := Nat.pos_of_ne_zero (by simp)
  rw [← Nat.div_eq_zero_iff_lt hp]
  omega
/-- A shift by whole bytes. -/
theorem shr_bytes (v k : Nat) (hk : k ≤ 8) : (v : Int).fdiv (2 ^ min (IntKind.i64.wrap (8 * (k : Int))).toNat IntKind.u64.bits) = ((v / 256 ^ k : Nat) : Int) := by
  rw [IntWalk.i64_in _ (by omega), show (8 * (k : Int)).toNat = 8 * k by omega, Nat.min_eq_left (show 8 * k ≤ IntKind.u64.bits by show 8 * k ≤ 64; omega), shr_eq, Nat.pow_mul]

theorem c_le_may (v : Nat) (w : Int) : Pure Try.prog n_le_may [enc v, enc w] (enc (mayB v w)) [] := by
  refine Pure.ofC OOk.nil hm F_le_may_ok (by simp [F_le_may]) rfl ?_
  have key : ∀ k : Nat, k ≤ 4 → 0 ≤ IntKind.i64.wrap (8 * (k : Int)) ∧ decide ((v : Int).fdiv (2 ^ min (IntKind.i64.wrap (8 * (k : Int))).toNat IntKind.u64.bits) = 0) = decide (v < 256 ^ k) := fun k hk =>
    ⟨by rw [IntWalk.i64_in _ (by omega)]; omega, by rw [shr_bytes v k (by omega), decide_eq_decide]; exact shr_lt v k⟩
  have k1 := key 1
  have k2 := key 2
  have k4 := key 4
  simp at k1 k2 k4
  simp [F_le_may]
  by_cases h1 : w = 1
  · subst h1; simp [mayB]; exact k1
  · by_cases h2 : w = 2
    · subst h2; simp [mayB]; exact k2
    · by_cases h4 : w = 4
      · subst h4; simp [mayB]; exact k4
      · simp [mayB, h1, h2, h4]

theorem c_clone (l : List UInt8) (hl : l.length ≤ 140737488355328) : Pure Try.prog n_bytes_Clone [enc l] (.row 0 1 (l.map cs)) [(5, 1, l.length)] := by
  refine Pure.lit_cases l (fun h => ?_) (fun h => ?_) (fun x t h => ?_)
  · subst h
    refine Pure.ofR OOk.nil hm F_bytes_Clone_ok (by simp [F_bytes_Clone]) (by simp [V.res, V.res1]) ?_
    simp [F_bytes_Clone]
  · subst h
    refine Pure.ofR OOk.nil hm F_bytes_Clone_ok (by simp [F_bytes_Clone]) (by simp [V.res, V.res1]) ?_
    simp [F_bytes_Clone]
  · subst h
    refine Pure.ofR OOk.nil hm F_bytes_Clone_ok (by simp [F_bytes_Clone]) (by simp [V.res, V.res1]) ?_
    simp [F_bytes_Clone]
    simpa using hl
@[simp] def sp_may (v : Nat) (w : Int) : Option (V × List Tip) := some (enc (mayB v w), [])
@[simp] def sp_clone (l : List UInt8) : Option (V × List Tip) := if l.length ≤ 140737488355328 then some (.row 0 1 (l.map cs), [(5, 1, l.length)]) else none
def D1 : Orc := (Orc.nil.add n_le_may (sp2 sp_may)).add n_bytes_Clone (sp1 sp_clone)
theorem D1_ok : OOk Try.prog D1 := by
  refine (OOk.nil.add (sp2_ok fun v w r h => ?_)).add (sp1_ok fun l r h => ?_)
  · cases h; exact c_le_may v w
  · simp only [sp_clone] at h
    split at h <;> cases h
    exact c_clone l (by assumption)

def bytesPut (b : List UInt8) (v : Nat) (w : Int) : List UInt8 := if mayB v w = true then b ++ leB v w.toNat else []
def errPut (v : Nat) (w : Int) : Int := if mayB v w = true then 0 else 10
theorem leB_succ (v i : Nat) : leB v (i + 1) = leB v i ++ [UInt8.ofNat (v / 256 ^ i)] := by simp [leB, List.range_succ]
theorem leB_zero (v : Nat) : leB v 0 = [] := rfl
theorem leB_length (v i : Nat) : (leB v i).length = i := by simp [leB]
theorem wrap_u8_nat (n : Nat) : IntKind.u8.wrap (n : Int) = ((UInt8.ofNat n).toNat : Int) := by
  rw [IntKind.wrap_u8]
  simp
theorem mayB_cases {v : Nat} {w : Int} (h : mayB v w = true) : ∃ n : Nat, w = n ∧ n ≤ 8 ∧ (n = 1 ∨ n = 2 ∨ n = 4 ∨ n = 8) := by
  simp [mayB] at h
  exact ⟨w.toNat, by omega, by omega, by omega⟩

theorem c_le_Put (b : List UInt8) (v : Nat) (w : Int) (hb : b.length ≤ 2 ^ 40) : Pure Try.prog n_le_Put [enc b, enc v, enc w] (.tuple [.row 0 1 ((bytesPut b v w).map cs), enc (errPut v w)]) [(5, 1, (bytesPut b v w).length)] := by
  refine Pure.ofR D1_ok hm F_le_Put_ok (by simp [F_le_Put]) (by simp [V.res, V.res1]) ?_
  simp [F_le_Put, D1]
  refine ⟨fun h => by simp [bytesPut, errPut, h], fun h => ⟨by omega, ?_⟩⟩
  obtain ⟨n, rfl, hn, _⟩ := mayB_cases h
  have e1 : bytesPut b v n = b ++ leB v n := by simp [bytesPut, h]
  have e2 : errPut v n = 0 := by simp [errPut, h]
  rw [e1, e2]
  refine wp_loop (fun k s m => ∃ i, i + k = n ∧ s 15 = .val (.int .i64 n) ∧ s 16 = .val (.int .i64 i) ∧ s 1 = .val (.int .u64 (v / 256 ^ i : Nat)) ∧ s 8 = .row 1 1 ((b ++ leB v i).map cs) ∧ m = ⟨[], [(5, 1, 0), (5, 1, b.length + i)]⟩)
    n (IW.of ⟨0, by omega, by simp, by simp, by simp, by simp [leB_zero], by simp⟩) fun k s m ⟨i, hik, h15, h16, h1, h8, hm⟩ => ?_
  subst hm
  simp [F_le_Put_L0, h15, h16, h1, h8, leB_length, -Int.natCast_ediv, -Int.natCast_pow]
  refine ⟨fun hlt => ⟨by omega, k - 1, by omega, IW.of ⟨i + 1, by omega, by simpa using h15, ?_, ?_, ?_, ?_⟩⟩, fun hge => ?_⟩
  · simp; rw [IntWalk.i64_in _ (by omega)]
  · simp [-Int.natCast_ediv, -Int.natCast_pow]
    rw [show min 8 IntKind.u64.bits = 8 from rfl, shr_eq, Nat.div_div_eq_div_mul, show (2 : Nat) ^ 8 = 256 from rfl, ← Nat.pow_succ]
  · simp [leB_succ, wrap_u8_nat, -Int.natCast_ediv, -Int.natCast_pow]
  · simp [Nat.add_assoc]
  · obtain rfl : i = n := by omega
    simp
end Go.Av

namespace Go.Av
open Enc (enc dec)
open Cel (cs dc)
open Go.RowKit

mutual
theorem Rep.under {M : Mp} {w : World} : ∀ (v : V) (x : Value), Rep M w v x → v.under M.β.length M.γ.length = true
  | .val _, _, _ => rfl
  | .agg l, x, h => by
    obtain ⟨vs, rfl, h⟩ := h
    exact RepL.under l _ h
  | .lit sz xs, x, h => by
    rcases h with ⟨rfl, _⟩ | ⟨ad, c, h0, h1, h2, h3, h4⟩
    · rfl
    · exact RepX.under xs _ _ h4
  | .full sz xs, x, h => by
    rcases h with ⟨rfl, _⟩ | ⟨ad, h0, h2, h3, h4⟩
    · rfl
    · exact RepX.under xs _ _ h4
  | .emp _, _, _ => rfl
  | .any, _, _ => rfl
  | .row t sz xs, x, h => by
    obtain ⟨G, h4, h⟩ := h
    have ht : t < M.γ.length := (List.getElem?_eq_some_iff.1 h4).1
    simp only [V.under, ht, decide_true, Bool.true_and]
    rcases h with ⟨rfl, _⟩ | ⟨g, c, h0, h1, h2, h3, h5⟩
    · rfl
    · exact RepX.under xs _ _ h3
  | .ptr b off, x, h => by
    obtain ⟨g, rfl, h⟩ := h
    simpa [V.under] using (List.getElem?_eq_some_iff.1 h).1
  | .yld b, x, h => by
    obtain ⟨g, rfl, h⟩ := h
    simpa [V.under] using (List.getElem?_eq_some_iff.1 h).1
  | .ref k b, x, h => by
    obtain ⟨g, c, rfl, h0, h⟩ := h
    simpa [V.under] using (List.getElem?_eq_some_iff.1 h).1
  | .eptr cs, x, h => by
    obtain ⟨ad, rfl, h1, h⟩ := h
    exact RepC.under cs _ _ h
  | .func f cap, x, h => by
    obtain ⟨vs, rfl, h⟩ := h
    exact RepL.under cap _ h
  | .iface t v, x, h => by
    obtain ⟨y, rfl, h⟩ := h
    exact Rep.under v _ h
  | .tuple l, x, h => by
    obtain ⟨vs, rfl, h⟩ := h
    exact RepL.under l _ h
  | .alts _, _, _ => rfl
theorem RepL.under {M : Mp} {w : World} : ∀ (l : List V) (m : List Value), RepL M w l m → underL M.β.length M.γ.length l = true
  | [], _, _ => rfl
  | v :: l, m, h => by
    obtain ⟨x, m', rfl, h1, h2⟩ := h
    simp only [underL, Rep.under v x h1, RepL.under l m' h2]; rfl
theorem RepC.under {M : Mp} {w : World} : ∀ (l : List V) (b o : Nat), RepC M w l b o → underL M.β.length M.γ.length l = true
  | [], _, _, _ => rfl
  | v :: l, b, o, h => by
    obtain ⟨⟨x, h1, h2, h3, h4⟩, h⟩ := h
    simp only [underL, Rep.under v x h4, RepC.under l b _ h]; rfl
theorem RepX.under {M : Mp} {w : World} : ∀ (l : List (List V)) (b o : Nat), RepX M w l b o → underX M.β.length M.γ.length l = true
  | [], _, _, _ => rfl
  | e :: l, b, o, h => by
    simp only [underX, RepC.under e b o h.1, RepX.under l b _ h.2]; rfl
end
theorem underX_iff {k j : Nat} : ∀ {l : List (List V)}, underX k j l = true ↔ ∀ e ∈ l, underL k j e = true
  | [] => by simp [underX]
  | e :: l => by simp [underX, underX_iff (l := l)]
theorem underX_set {k j p : Nat} {l : List (List V)} {c : List V} (h : underX k j l = true) (hc : underL k j c = true) : underX k j (l.set p c) = true := by
  rw [underX_iff] at h ⊢
  intro e he
  rcases List.mem_or_eq_of_mem_set he with he | rfl
  · exact h e he
  · exact hc
theorem Good.under {B : Nat} {I0 : Nat → Nat → Prop} {w0 : World} {M : Mp} {m : Mem} {w : World} (h : Good B I0 w0 M m w) : underX m.boxes.length m.tips.length m.boxes = true := by
  rw [underX_iff]
  intro e he
  obtain ⟨i, hi, rfl⟩ := List.getElem_of_mem he
  have hβ : M.β[i]? = some (M.β[i]'(by rw [h.lβ]; exact hi)) := List.getElem?_eq_getElem _
  obtain ⟨_, ob, _, hb⟩ := h.box i _ _ hβ (List.getElem?_eq_getElem hi)
  rw [← h.lβ, ← h.lγ]
  rcases hb with ⟨_, vs, T, _, _, hr, _⟩ | ⟨_, str, pos, _, hc⟩ | ⟨fam, st, _, _, hc⟩ | ⟨_, es, c, _, _, hr⟩ | ⟨_, hc⟩
  · exact RepL.under _ _ hr
  · rw [hc]; simp [underL, V.under]
  · rw [hc]; cases st <;> simp [St.v, underL, V.under]
  · exact RepL.under _ _ hr
  · rw [hc]; rfl
section
variable {P : Program} {D : Orc} {own : Nat → Bool} {f : FuncId} {F : F} {args : List V}
/-- A function that writes to boxes that are there; its answer is clean. -/
theorem Loc.ofC (hD : OOk P D) (hm : P.follows .mixedOrders = true) (hF : compF P own f = some F) {m m' : Mem} {r : V} (hn : args.length ≤ F.n) (hr : cleanL [r] = true ∨ ∃ l, r = .tuple l ∧ cleanL l = true) (k j : Nat) (hk : m.boxes.length ≤ k) (hj : m.tips.length ≤ j)
    (h : underX m.boxes.length m.tips.length m.boxes = true → wp P noY D F.c (argS args) m (Fin F.rs fun v m1 => keepN [] v r ∧ underX k j (m1.boxes.take k) = true ∧ m' = ⟨m1.boxes.take k, m1.tips.take j⟩)) : Loc P f args m r m' := by
  have hcl : callable P f = true := by
    unfold compF at hF
    split at hF
    · assumption
    · cases hF
  refine ⟨hcl, fun B I0 w0 M w vals hg hrl => ?_⟩
  refine (calls_sound hm hF hn hg hrl YOk.no (wp_sound hD _ (h hg.under))).2.mono fun e w' ⟨x, M', v, m1, he, hE, hg', hx, hv, hb, hm'⟩ => ?_
  refine ⟨x, M'.cut k j, he, Mp.cut_ext M' k j hE (by rw [hg.lβ]; exact hk) (by rw [hg.lγ]; exact hj), by rw [hm']; exact hg'.cut hb, ?_⟩
  have hx' := keepN_rep hv hx
  rcases hr with hr | ⟨l, rfl, hr⟩
  · simp only [cleanL, Bool.and_true] at hr
    exact Rep.clean (M := M'.sel []) (M' := M'.cut k j) (fun _ _ h => h) r x hr hx'
  · obtain ⟨vs, rfl, hx'⟩ := hx'
    exact ⟨vs, rfl, RepL.clean (M := M'.sel []) (M' := M'.cut k j) (fun _ _ h => h) l _ hr hx'⟩
end
/-- A box of the caller's, below those of one's own. -/
theorem box_facts {l : List (List V)} {p : Nat} (h : p < l.length) :
    (∀ (b : List (List V)), (l ++ b)[p]? = l[p]?) ∧ (∀ (b : List (List V)) (y : List V), (l ++ b).set p y = l.set p y ++ b) ∧ (∀ (b : List (List V)) (y : List V), (l.set p y ++ b)[p]? = some y) ∧ (∀ (c y : List V) (b : List (List V)), (l.set p y ++ c :: b)[l.length]? = some c) ∧
    (∀ (c y z : List V) (b : List (List V)), (l.set p y ++ c :: b).set l.length z = l.set p y ++ z :: b) ∧ (∀ (y z : List V) (b : List (List V)), (l.set p y ++ b).set p z = l.set p z ++ b) ∧ (∀ (y : List V) (b : List (List V)), (l.set p y ++ b).take l.length = l.set p y) := by
  refine ⟨fun b => List.getElem?_append_left h, fun b y => List.set_append_left p y h, fun b y => ?_, fun c y b => ?_, fun c y z b => ?_, fun y z b => ?_, fun y b => ?_⟩
  · rw [List.getElem?_append_left (by simpa using h), List.getElem?_set_self h]
  · rw [List.getElem?_append_right (by simp)]; simp
  · rw [List.set_append_right _ _ (by simp)]; simp
  · rw [List.set_append_left _ _ (by simpa using h), List.set_set]
  · rw [← (List.length_set : (l.set p y).length = l.length), List.take_left']
    rfl
theorem setC_self {α : Type} {l : List α} {p : Nat} {c : α} (h : l[p]? = some c) : l.set p c = l := by
  refine List.ext_getElem? fun i => ?_
  by_cases e : p = i
  · subst e
    rw [List.getElem?_set_self (List.getElem?_eq_some_iff.1 h).1, h]
  · rw [List.getElem?_set_ne e]
@[simp] theorem sepV_ptr {b o b' o' : Nat} : sepV (.ptr b o) (.ptr b' o') = (b ≠ b') := by
  refine propext ⟨fun h => h b o b' o' rfl rfl, fun h c d c' d' e e' => ?_⟩
  cases e; cases e'; exact h
section
variable {α : Type} [Cel α]
theorem row_dec {M : Mp} {w : World} {x : Value} {t sz : Nat} {xs : List (List V)} {l : List α} (hz : sz = Cel.sz α) (h : decX xs = some l) (hr : Rep M w (.row t sz xs) x) : Rep M w (.row t sz (l.map cs)) x := by
  obtain ⟨G, h4, hr⟩ := hr
  refine ⟨G, h4, ?_⟩
  rcases hr with ⟨rfl, rfl⟩ | ⟨g, c, rfl, h1, h2, h3, h5⟩
  · cases h; exact .inl ⟨rfl, rfl⟩
  · obtain ⟨i1, i2⟩ := RepX.of_dc h h3
    refine .inr ⟨g, c, by rw [i2, List.length_map], by simpa [← i2] using h1, ?_, i1, by rw [List.length_map, ← i2]; exact h5⟩
    intro e he
    obtain ⟨a, _, rfl⟩ := List.mem_map.1 he
    rw [Cel.len, hz]
theorem put_put_same (d : Nat) (v w : V) (s : Nat → V) : put (some d) v (put (some d) w s) = put (some d) v s := by
  funext i
  simp only [put]
  split <;> simp_all
/-- A row's elements, as plain ones. -/
theorem IW.rowSlot {I : (Nat → V) → Mem → Prop} {s : Nat → V} {m : Mem} {d t sz : Nat} {xs : List (List V)} (l : List α) (hs : s d = .row t sz xs) (hd : decX xs = some l) (hz : sz = Cel.sz α) (h : I (put (some d) (.row t sz (l.map cs)) s) m) : IW I s m :=
  ⟨_, m, Wkn.slot (fun M w x hr => by rw [hs] at hr; exact row_dec hz hd hr), h⟩
end
theorem Loc.wk {P : Program} {f : FuncId} {args args' : List V} {m m' : Mem} {r : V} (h : WkL args args') (hl : Loc P f args' m r m') : Loc P f args m r m' :=
  ⟨hl.1, fun B I0 w0 M w vals hg hr => hl.2 B I0 w0 M w vals hg (h M w vals.toList hr)⟩
theorem WkL.refl : ∀ l : List V, WkL l l := fun _ _ _ _ h => h
/-- The run up to a place. -/
theorem wp_seqC {P : Program} {Y : YRel} {D : Orc} {a b : C} {s : Nat → V} {m : Mem} {Q : Exit → (Nat → V) → Mem → Prop} (R : (Nat → V) → Mem → Prop) (h : wp P Y D a s m (seqQ R Q)) (h2 : ∀ s' m', R s' m' → wp P Y D b s' m' Q) : wp P Y D (.seq a b) s m Q :=
  wp_seq_cut R h h2
section
variable {P : Program} {D : Orc} {own : Nat → Bool} {f : FuncId} {F : F} {args : List V}
/-- A function that calls a 'yield' that is at hand; what is left is all that is there. -/
theorem LocY.ofX {Y : YRel} (hD : OOk P D) (hm : P.follows .mixedOrders = true) (hF : compF P own f = some F) {m m' : Mem} {r : V} (hn : args.length ≤ F.n)
    (h : wp P Y D F.c (argS args) m (Fin F.rs fun v m1 => v = r ∧ m1 = m')) : LocY P Y f args m r m' := by
  have hcl : callable P f = true := by
    unfold compF at hF
    split at hF
    · assumption
    · cases hF
  refine ⟨hcl, fun B I0 w0 M w vals hY hg hrl => ?_⟩
  refine (calls_sound hm hF hn hg hrl hY (wp_sound hD _ h)).2.mono fun e w' ⟨x, M', v, m1, he, hE, hg', hx, hv, hm'⟩ => ?_
  subst hv hm'
  exact ⟨x, M', he, hE, hg', hx⟩
theorem Loc.ofX (hD : OOk P D) (hm : P.follows .mixedOrders = true) (hF : compF P own f = some F) {m m' : Mem} {r : V} (hn : args.length ≤ F.n)
    (h : wp P noY D F.c (argS args) m (Fin F.rs fun v m1 => v = r ∧ m1 = m')) : Loc P f args m r m' := (LocY.ofX hD hm hF hn h).loc
end
/-- What an iterator's calls of 'yield' do, one behind the other. -/
inductive YRun (Y : YRel) (L : Nat) (K : Mem → Prop) : List (List V) → Mem → Mem → Prop
  | done {m : Mem} : YRun Y L K [] m m
  | stop {a : List V} {r : List (List V)} {m m1 : Mem} (h : Y L a m (.val (.bool false)) m1) : YRun Y L K (a :: r) m m1
  | next {a : List V} {r : List (List V)} {m m1 m2 : Mem} (h : Y L a m (.val (.bool true)) m1) (hk : K m1) (h2 : YRun Y L K r m1 m2) : YRun Y L K (a :: r) m m2
end Go.Av

namespace Go.Av
open Enc (enc dec)
open Cel (cs dc)
open Go.RowKit

theorem Pure.thaw {P : Program} {f : FuncId} {args args' : List V} {sz ty : Nat} {xs : List (List V)} {l : List V} (hW : WkL args args') (hcl : cleanL args' = true)
    (h : Pure P f args' (.tuple (.row 0 sz xs :: l)) [(ty, sz, xs.length)]) (hl : ∀ v ∈ l, ∃ u, v = .val u) (hx : ∀ v ∈ xs.flatten, ∃ u, v = V.val u) (hne : xs ≠ []) (m : Mem) :
    Loc P f args m (.tuple (.ref (.sli 0 sz xs.length) m.boxes.length :: l)) { m with boxes := m.boxes ++ [xs.flatten] } := by
  obtain ⟨hc, hres, h3⟩ := h
  refine ⟨hc, fun B I0 w0 M w vals hg hr => ?_⟩
  have hr' : RepL ⟨[], [], M.I, fun _ => none⟩ w args' vals.toList := RepL.clean (M := M) (M' := ⟨[], [], M.I, fun _ => none⟩) (fun _ _ h => h) _ _ hcl (hW _ _ _ hr)
  refine (h3 M.I w vals hg.ilt hr').mono fun e w' ⟨x, M1, he, h1, hx1⟩ => ?_
  obtain ⟨vs, rfl, hv⟩ := hx1
  obtain ⟨y, r, hvs, hy, hrl⟩ := hv
  obtain ⟨G, hG, hy⟩ := hy
  rcases hy with ⟨h0, _⟩ | ⟨g, c, hyv, hnc, hsz, hX, hin⟩
  · exact absurd h0 hne
  have hn0 : 0 < xs.length := List.length_pos_iff.2 hne
  have hgen := h1.gen 0 G _ hG hin
  simp only at hgen
  have hblk : ∃ cur, w'.heap[g]? = some (.cells cur ty (0, 0)) ∧ cur.size = c * sz := by
    rcases h1.row 0 G ty sz xs.length hG rfl with ⟨h0, _⟩ | ⟨g1, c1, us, a1, a2, a3, a4⟩
    · omega
    · obtain ⟨_, a5⟩ := a2 _ hin
      have := a5 rfl
      cases this
      rcases a3.2 with ⟨_, b1⟩ | ⟨g2, c2, cur, b1, b2, b3, b4, b5, b6, b7⟩
      · omega
      · cases b1
        exact ⟨cur, b3, b6⟩
  obtain ⟨cur, hh, hcs⟩ := hblk
  have hfl : xs.flatten.length = xs.length * sz := flatten_length hsz
  have hle : xs.flatten.length ≤ cur.size := by rw [hfl, hcs]; exact Nat.mul_le_mul_right _ hnc
  have hb := h1.below
  have hgw := hg.grow hb
  have hnβ : g ∉ M.β := fun hm => by have := (hg.βlt hm).1; omega
  have hcell : ∀ i v, xs.flatten[i]? = some v → ∃ x u, cur[i]? = some x ∧ x.oneCell' = true ∧ v = V.val u ∧ x = u ∧ plain u = true := fun i v hi => by
    obtain ⟨x, _, k2, k3, k4⟩ := hX.flat.get hi
    obtain ⟨u, rfl⟩ := hx v (List.mem_of_getElem? hi)
    simp only [World.cell?, Nat.zero_add, hh] at k2
    exact ⟨x, u, by simpa using k2, k3, rfl, k4.1, k4.2⟩
  have htk : (cur.toList.take xs.flatten.length).length = xs.flatten.length := by rw [List.length_take]; exact Nat.min_eq_left (by simpa using hle)
  have hbr : BoxRep M M.β.length w' xs.flatten (.cells cur ty (0, 0)) := by
    refine .inl ⟨hg.κnone, cur, ty, rfl, hle, RepL.of_get htk (fun i v z hv hz => ?_), fun z hz => ?_⟩
    · obtain ⟨x, u, k1, k2, rfl, rfl, k5⟩ := hcell i v hv
      rw [List.getElem?_take, if_pos (lt_of_some hv)] at hz
      have hz' : cur[i]? = some z := by simpa using hz
      rw [k1] at hz'
      cases hz'
      exact ⟨rfl, k5⟩
    · obtain ⟨i, hi⟩ := List.getElem?_of_mem hz
      have hil := lt_of_some hi
      rw [htk] at hil
      obtain ⟨x, u, k1, k2, _⟩ := hcell i _ (List.getElem?_eq_getElem hil)
      rw [List.getElem?_take, if_pos hil] at hi
      have hz' : cur[i]? = some z := by simpa using hi
      rw [k1] at hz'
      cases hz'
      exact k2
  have hE := hg.ext hb
  refine ⟨_, M.addB g, he, hE.trans (Mp.addB_ext M g w'), hgw.addBox hh (Nat.le_trans hg.sizeB hgen.1) hnβ (fun o hI => by have := hg.ilt g o hI; omega) (fun t G x hG hx he => by have := (hg.gen t G x hG hx).2.1; omega) hbr, ⟨vs, rfl, ?_⟩⟩
  rw [hvs]
  refine ⟨y, r, rfl, ⟨g, c, hyv, hnc, ?_⟩, ?_⟩
  · simp [Mp.addB, hg.lβ]
  · refine RepL.of_get hrl.length fun i v z hv hz => ?_
    obtain ⟨u, rfl⟩ := hl v (List.mem_of_getElem? hv)
    obtain ⟨z', hz', k⟩ := hrl.get hv
    rw [hz] at hz'
    cases hz'
    exact k
end Go.Av

namespace Go.Av
open Go.RowKit

/-- What a slice in a box reads as, from a box on. -/
def unref1 (k : Nat) (m : Mem) : V → V
  | .ref (.sli off sz n) b => match m.boxes[b]? with
    | some cs => if k ≤ b ∧ isObj cs = false ∧ off + n * sz ≤ cs.length then .lit sz (chunkV sz n ((cs.map V.top1).drop off)) else .ref (.sli off sz n) b
    | none => .ref (.sli off sz n) b
  | v => v
def unrefA (k : Nat) (m : Mem) : V → V
  | .agg l => .agg (l.map (unref1 k m))
  | v => unref1 k m v
def unref (k : Nat) (m : Mem) : V → V
  | .tuple l => .tuple (l.map (unrefA k m))
  | v => unrefA k m v
/-- The cells of the boxes from one on, besides those that stay. -/
def Mp.newI (M : Mp) (k : Nat) (m : Mem) (b o : Nat) : Prop := ∃ (i : Nat) (cs : List V), k ≤ i ∧ M.β[i]? = some b ∧ m.boxes[i]? = some cs ∧ o < cs.length
def Mp.allI (M : Mp) (k : Nat) (m : Mem) (b o : Nat) : Prop := M.I b o ∨ M.newI k m b o
def Mp.lend (M : Mp) (k : Nat) (m : Mem) : Mp := { M with I := M.allI k m }
theorem Mp.lend_ext (M : Mp) (k : Nat) (m : Mem) (w : World) : Ext M (M.lend k m) w w := ⟨fun _ _ h => h, fun _ G h => ⟨G, h, fun _ h => h⟩, fun _ _ h => ⟨.inl h, rfl⟩, fun _ _ => rfl⟩
section
variable {B : Nat} {I0 : Nat → Nat → Prop} {w0 w : World} {M : Mp} {m : Mem} {k : Nat}
theorem Good.allI_lt (h : Good B I0 w0 M m w) {b o : Nat} (hI : M.allI k m b o) : b < w.heap.size := by
  rcases hI with hI | ⟨i, cs, _, h1, _, _⟩
  · exact h.ilt b o hI
  · exact (h.βlt (List.mem_of_getElem? h1)).1
theorem Good.lendC (h : Good B I0 w0 M m w) {i g : Nat} {cs : List V} (hk : k ≤ i) (hi : M.β[i]? = some g) (hb : m.boxes[i]? = some cs) (hno : isObj cs = false) : RepC (M.lend k m) w (cs.map V.top1) g 0 := by
  obtain ⟨hB, ob, hh, hbr⟩ := h.box i g cs hi hb
  obtain ⟨vs, T, rfl, hle, hl, ho⟩ := hbr.cells hno
  refine RepC.of_get fun j v hj => ?_
  rw [List.getElem?_map, Option.map_eq_some_iff] at hj
  obtain ⟨v0, hj, rfl⟩ := hj
  obtain ⟨x, hx, hr⟩ := hl.get hj
  have hjl := lt_of_some hj
  refine ⟨x, .inr ⟨i, cs, hk, hi, hb, by simpa using hjl⟩, ?_, ho x (List.mem_of_getElem? hx), (Rep.mono (Mp.lend_ext M k m w) _ _ hr).top1⟩
  simp only [World.cell?, hh, Nat.zero_add]
  rw [List.getElem?_take, if_pos hjl] at hx
  simpa using hx
theorem Good.unref1 (h : Good B I0 w0 M m w) {v : V} {x : Value} (hr : Rep M w v x) : Rep (M.lend k m) w (unref1 k m v) x := by
  unfold Av.unref1
  split
  · rename_i off sz n b
    split
    · rename_i cs hb
      split
      · rename_i hc
        obtain ⟨g, c, rfl, hcc, hβ⟩ := hr
        have hC := h.lendC hc.1 hβ hb hc.2.1
        obtain ⟨f1, f2⟩ := chunkV_flat sz n ((cs.map V.top1).drop off) (by simp; omega)
        refine .inr ⟨⟨g, off, none⟩, c, by rw [chunkV_length]; rfl, by rw [chunkV_length]; exact hcc, .inr rfl, f2, RepX.of_flat ?_⟩
        rw [f1]
        have := (hC.drop off).take (n * sz)
        simpa using this
      · exact Rep.mono (Mp.lend_ext M k m w) _ _ hr
    · exact Rep.mono (Mp.lend_ext M k m w) _ _ hr
  · exact Rep.mono (Mp.lend_ext M k m w) _ _ hr
theorem RepL.map_imp {M M' : Mp} {w w' : World} {f : V → V} (hf : ∀ v x, Rep M w v x → Rep M' w' (f v) x) : ∀ {l : List V} {us : List Value}, RepL M w l us → RepL M' w' (l.map f) us
  | [], _, h => h
  | v :: l, _, h => by
    obtain ⟨x, r, rfl, h1, h2⟩ := h
    exact ⟨x, r, rfl, hf v x h1, RepL.map_imp hf h2⟩
theorem Good.unrefA (h : Good B I0 w0 M m w) {v : V} {x : Value} (hr : Rep M w v x) : Rep (M.lend k m) w (Av.unrefA k m v) x := by
  unfold Av.unrefA
  split
  · obtain ⟨vs, rfl, hr⟩ := hr
    exact ⟨vs, rfl, RepL.map_imp (fun v x => h.unref1) hr⟩
  · exact h.unref1 hr
theorem Good.unref (h : Good B I0 w0 M m w) {v : V} {x : Value} (hr : Rep M w v x) : Rep (M.lend k m) w (unref k m v) x := by
  unfold Av.unref
  split
  · obtain ⟨vs, rfl, hr⟩ := hr
    exact ⟨vs, rfl, RepL.map_imp (fun v x => h.unrefA) hr⟩
  · exact h.unrefA hr
/-- More cells that stay: of no box, and no row. -/
theorem Good.addI (h : Good B I0 w0 M m w) (J : Nat → Nat → Prop) (hJ : ∀ b o, J b o → B ≤ b ∧ b < w.heap.size ∧ b ∉ M.β ∧ ∀ (t : Nat) (G : List (Nat × Nat × Nat)) (x : Nat × Nat × Nat), M.γ[t]? = some G → x ∈ G → x.2.1 ≠ b) :
    Good B I0 w0 { M with I := fun b o => M.I b o ∨ J b o } m w ∧ Ext M { M with I := fun b o => M.I b o ∨ J b o } w w := by
  have hE : Ext M { M with I := fun b o => M.I b o ∨ J b o } w w := ⟨fun _ _ h => h, fun _ G h => ⟨G, h, fun _ h => h⟩, fun _ _ h => ⟨.inl h, rfl⟩, fun _ _ => rfl⟩
  refine ⟨?_, hE⟩
  exact {
    below := h.below
    sizeB := h.sizeB
    i0 := fun b o hi => .inl (h.i0 b o hi)
    i1 := fun b o hi => hi.elim (h.i1 b o) fun hj => .inr (hJ b o hj).1
    ilt := fun b o hi => hi.elim (h.ilt b o) fun hj => (hJ b o hj).2.1
    lβ := h.lβ
    nd := h.nd
    iβ := fun b o hi i hb => hi.elim (fun hi => h.iβ b o hi i hb) fun hj => absurd (List.mem_of_getElem? hb) (hJ b o hj).2.2.1
    box := fun i g cs h1 h2 => by
      obtain ⟨k1, ob, k2, k3⟩ := h.box i g cs h1 h2
      exact ⟨k1, ob, k2, k3.mono0 hE rfl⟩
    κlt := h.κlt
    lγ := h.lγ
    row := fun t G e sz n h1 h2 => by
      rcases h.row t G e sz n h1 h2 with k | ⟨g, c, xs, k1, k2, k3, k4⟩
      · exact .inl k
      · exact .inr ⟨g, c, xs, k1, k2, k3, fun o ho => ho.elim (k4 o) fun hj => absurd rfl ((hJ g o hj).2.2.2 t G _ h1 k1)⟩
    gen := h.gen
    sep := h.sep }
end
def scal : V → Bool
  | .val _ => true
  | .tuple l => l.all fun v => match v with
    | .val _ => true
    | _ => false
  | _ => false
theorem scal_rep {M M' : Mp} {w w' : World} {v : V} {x : Value} (h : scal v = true) (hr : Rep M w v x) : Rep M' w' v x := by
  unfold scal at h
  split at h
  · exact hr
  · rename_i l
    obtain ⟨vs, rfl, hr⟩ := hr
    refine ⟨vs, rfl, ?_⟩
    generalize vs.toList = us at hr
    induction l generalizing us with
    | nil => exact hr
    | cons v l ih =>
      obtain ⟨x, r, rfl, h1, h2⟩ := hr
      simp only [List.all_cons, Bool.and_eq_true] at h
      refine ⟨x, r, rfl, ?_, ih h.2 r h2⟩
      have h3 := h.1
      split at h3
      · exact h1
      · cases h3
  · cases h
/-- A function that only reads, and tells numbers. -/
theorem Pure.lend {P : Program} {f : FuncId} {args args' : List V} {r : V} {m : Mem} (h : Pure P f args' r []) (hW : WkL (args.map (unref 0 m)) args') (hcl : cleanL args' = true) (hr : scal r = true) : Loc P f args m r m := by
  obtain ⟨hc, hres, h3⟩ := h
  refine ⟨hc, fun B I0 w0 M w vals hg hrl => ?_⟩
  have h1 : RepL (M.lend 0 m) w args' vals.toList := hW _ _ _ (RepL.map_imp (fun v x => hg.unref) hrl)
  have hr' : RepL ⟨[], [], M.allI 0 m, fun _ => none⟩ w args' vals.toList := RepL.clean (M := M.lend 0 m) (M' := ⟨[], [], M.allI 0 m, fun _ => none⟩) (fun _ _ h => h) _ _ hcl h1
  refine (h3 (M.allI 0 m) w vals (fun b o hI => hg.allI_lt hI) hr').mono fun e w' ⟨x, M1, he, h1, hx1⟩ => ?_
  exact ⟨x, M, he, hg.ext h1.below, hg.grow h1.below, scal_rep hr hx1⟩
theorem Good.lent {B : Nat} {I0 : Nat → Nat → Prop} {w0 w' : World} {M' : Mp} {m' : Mem} (hg : Good B I0 w0 M' m' w') : Good B I0 w0 ⟨[], [], M'.allI 0 m', fun _ => none⟩ ⟨[], []⟩ w' := by
  exact {
    below := hg.below
    sizeB := hg.sizeB
    i0 := fun b o hi => .inl (hg.i0 b o hi)
    i1 := fun b o hi => by
      rcases hi with hi | ⟨i, cs, _, h1, _, _⟩
      · exact hg.i1 b o hi
      · exact .inr (hg.βlt (List.mem_of_getElem? h1)).2
    ilt := fun b o hi => hg.allI_lt hi
    lβ := rfl
    nd := fun i j g h => by simp at h
    iβ := fun b o hi i h => by simp at h
    box := fun i g cs h => by simp at h
    κlt := fun i fam h => by cases h
    lγ := rfl
    row := fun t G e sz n h => by simp at h
    gen := fun t G x h => by simp at h
    sep := fun t t' G G' x x' h => by simp at h }
/-- Behind the run slices in boxes are as they are, from then on. -/
theorem Pure.ofU {P : Program} {D : Orc} {own : Nat → Bool} {f : FuncId} {F : F} {args : List V} {r : V} (hD : OOk P D) (hm : P.follows .mixedOrders = true) (hF : compF P own f = some F) (hn : args.length ≤ F.n)
    (h : wp P noY D F.c (argS args) ⟨[], []⟩ (Fin F.rs fun v m => keepN [] (unref 0 m v) r)) (hcl : r.isClean = true) : Pure P f args r [] := by
  have hca : callable P f = true := by
    unfold compF at hF
    split at hF
    · assumption
    · cases hF
  have hres : r.res = true := by
    cases r with
    | tuple l => 
      have hl : cleanL l = true := hcl
      clear h hcl
      unfold V.res
      induction l with
      | nil => rfl
      | cons v l ih =>
        simp only [cleanL, Bool.and_eq_true] at hl
        simp only [List.all_cons, Bool.and_eq_true]
        refine ⟨?_, ih hl.2⟩
        cases v <;> first | exact hl.1 | simp [V.isClean] at hl
    | row t sz xs => simp [V.isClean] at hcl
    | _ => exact hcl
  refine ⟨hca, hres, fun I w vals hI hr => ?_⟩
  refine (calls_sound hm hF hn (Good.start hI) hr YOk.no (wp_sound hD _ h)).2.mono fun en w' ⟨x, M', v, m', he, hE, hg, hx, hk⟩ => ?_
  have hx2 := keepN_rep hk ((hg.unref (k := 0) hx))
  refine ⟨x, ⟨[], [], M'.allI 0 m', fun _ => none⟩, he, ?_, Rep.clean (M := (M'.lend 0 m').sel []) (M' := ⟨[], [], M'.allI 0 m', fun _ => none⟩) (fun _ _ h => h) _ _ hcl hx2⟩
  exact hg.lent
section
variable {P : Program} {D : Orc} {own : Nat → Bool} {f : FuncId} {F : F} {args : List V}
/-- A function that writes to boxes that are there; slices in boxes of its own are as they are, from then on. -/
theorem Loc.ofU (hD : OOk P D) (hm : P.follows .mixedOrders = true) (hF : compF P own f = some F) {m m' : Mem} {r : V} (hn : args.length ≤ F.n) (hr : cleanL [r] = true ∨ ∃ l, r = .tuple l ∧ cleanL l = true) (k j : Nat) (hk : m.boxes.length ≤ k) (hj : m.tips.length ≤ j)
    (h : underX m.boxes.length m.tips.length m.boxes = true → wp P noY D F.c (argS args) m (Fin F.rs fun v m1 => keepN [] (unref k m1 v) r ∧ underX k j (m1.boxes.take k) = true ∧ m' = ⟨m1.boxes.take k, m1.tips.take j⟩)) : Loc P f args m r m' := by
  have hcl : callable P f = true := by
    unfold compF at hF
    split at hF
    · assumption
    · cases hF
  refine ⟨hcl, fun B I0 w0 M w vals hg hrl => ?_⟩
  refine (calls_sound hm hF hn hg hrl YOk.no (wp_sound hD _ (h hg.under))).2.mono fun e w' ⟨x, M', v, m1, he, hE, hg', hx, hv, hb, hm'⟩ => ?_
  have hgc := hg'.cut hb
  have hEc := Mp.cut_ext M' k j hE (by rw [hg.lβ]; exact hk) (by rw [hg.lγ]; exact hj)
  obtain ⟨hg2, hE2⟩ := hgc.addI (M'.newI k m1) (fun b o ⟨i, cs, k1, k2, k3, k4⟩ => by
    obtain ⟨k5, k6⟩ := hg'.βlt (List.mem_of_getElem? k2)
    refine ⟨k6, k5, fun hmem => ?_, fun t G x hG hx => ?_⟩
    · obtain ⟨i2, hi2, he2⟩ := List.getElem_of_mem hmem
      simp only [Mp.cut, List.length_take] at hi2
      simp only [Mp.cut, List.getElem_take] at he2
      have : M'.β[i2]? = some b := by rw [List.getElem?_eq_getElem (by omega), he2]
      have := hg'.nd i i2 b k2 this
      omega
    · simp only [Mp.cut] at hG
      have hG' : M'.γ[t]? = some G := by
        rw [List.getElem?_take] at hG
        split at hG
        · exact hG
        · cases hG
      intro e
      exact (hg'.gen t G x hG' hx).2.2 (by rw [e]; exact List.mem_of_getElem? k2))
  refine ⟨x, _, he, hEc.trans hE2, by rw [hm']; exact hg2, ?_⟩
  have hx' := keepN_rep hv (hg'.unref (k := k) hx)
  rcases hr with hr | ⟨l, rfl, hr⟩
  · simp only [cleanL, Bool.and_true] at hr
    refine Rep.clean (M := (M'.lend k m1).sel []) ?_ r x hr hx'
    exact fun _ _ h => h
  · obtain ⟨vs, rfl, hx'⟩ := hx'
    refine ⟨vs, rfl, RepL.clean (M := (M'.lend k m1).sel []) ?_ l _ hr hx'⟩
    exact fun _ _ h => h
end
end Go.Av

namespace Go.Av.Pl
structure Zo where
  st : Int
  rs : Int
  data : List UInt8
  la : Int
deriving DecidableEq
def zTakes (z : Zo) : Bool := decide (z.st = 0 ∨ z.st = 1 ∨ z.st = 2)
def zOk (z : Zo) (n : Int) : Bool := decide (1 ≤ n ∧ n ≤ 1048576 ∧ z.data.length ≤ n ∧ 0 ≤ z.la ∧ z.la ≤ z.data.length ∧ 0 ≤ z.rs ∧ z.rs ≤ 1073741824) &&
  (if z.st = 0 then decide (z.data.length = 0) else if zTakes z = true then decide (0 < z.data.length ∧ (z.data.length : Int) < n) else decide (z.st = 3))
def zRoom (z : Zo) (n : Int) : Int := if zOk z n = true ∧ zTakes z = true then n - z.data.length else 0
def zFill (k : Nat) (n some : Int) : Int := if k = 0 then 0 else if (k : Int) = n then 3 else some
end Go.Av.Pl
namespace Go.Av
open Enc (enc dec)
open Cel (cs dc)
open Go.Proofs Pl

instance : Cel Zo where
  sz := 4
  cs x := [enc x.st, enc x.rs, enc x.data, enc x.la]
  dc l := match l with
    | [a, b, c, d] => (dec a).bind fun a => (dec b).bind fun b => (dec c).bind fun c => (dec d).bind fun d => some ⟨a, b, c, d⟩
    | _ => none
  len _ := rfl
  ok l x h := by
    split at h
    · simp only [Option.bind_eq_some_iff] at h
      obtain ⟨a, ha, b, hb, c, hc, d, hd, h⟩ := h
      cases h
      exact wk_dec (wk_dec (wk_dec (wk_dec wk_nil hd) hc) hb) ha
    · cases h
  cl x := by simp [clean_cs]
  de x := by simp [decX_map]
instance : Enc Zo := encC
@[simp] theorem sz_zo : Cel.sz Zo = 4 := rfl
@[simp] theorem cs_zo (x : Zo) : cs x = [.val (.int .i64 x.st), .val (.int .i64 x.rs), .lit 1 (x.data.map cs), .val (.int .i64 x.la)] := rfl
@[simp] theorem enc_zo (x : Zo) : (enc x : V) = .agg [.val (.int .i64 x.st), .val (.int .i64 x.rs), .lit 1 (x.data.map cs), .val (.int .i64 x.la)] := rfl
@[simp] theorem dc_zo (a b c d : V) : (dc [a, b, c, d] : Option Zo) = (dec a).bind fun a => (dec b).bind fun b => (dec c).bind fun c => (dec d).bind fun d => some ⟨a, b, c, d⟩ := rfl
@[simp] theorem dec_zo (l : List V) : (dec (.agg l) : Option Zo) = dc l := rfl

theorem c_takes (z : Zo) : Pure Try.prog n_zone_takes [enc z] (enc (zTakes z)) [] := by
  refine Pure.ofC OOk.nil hm F_zone_takes_ok (by simp [F_zone_takes]) rfl ?_
  obtain ⟨a, b, c, d⟩ := z
  by_cases h0 : a = 0
  · simp [F_zone_takes, zTakes, h0]
  · by_cases h1 : a = 1
    · simp [F_zone_takes, zTakes, h1]
    · by_cases h2 : a = 2
      · simp [F_zone_takes, zTakes, h2]
      · simp [F_zone_takes, zTakes, h0, h1, h2]
@[simp] def sp_takes (z : Zo) : Option (V × List Tip) := some (enc (zTakes z), [])
theorem sp_takes_ok : EOk Try.prog n_zone_takes (sp1 sp_takes) := sp1_ok fun a r h => by cases h; exact c_takes a
def Dz1 : Orc := Orc.nil.add n_zone_takes (sp1 sp_takes)
theorem Dz1_ok : OOk Try.prog Dz1 := OOk.nil.add sp_takes_ok
theorem c_zCheck (z : Zo) (n : Int) : Pure Try.prog n_zone_Check [enc z, enc n] (enc (zOk z n)) [] := by
  refine Pure.ofC Dz1_ok hm F_zone_Check_ok (by simp [F_zone_Check]) rfl ?_
  obtain ⟨a, b, c, d⟩ := z
  by_cases g1 : n < 1
  · have : ¬ 1 ≤ n := by omega
    simp [F_zone_Check, Dz1, g1, zOk, this]
  by_cases g2 : 1048576 < n
  · have : ¬ n ≤ 1048576 := by omega
    simp [F_zone_Check, Dz1, g1, g2, zOk, this]
  by_cases g3 : n < c.length
  · have : ¬ (c.length : Int) ≤ n := by omega
    simp [F_zone_Check, Dz1, g1, g2, g3, zOk, this]
  by_cases g4 : d < 0
  · have : ¬ 0 ≤ d := by omega
    simp [F_zone_Check, Dz1, g1, g2, g3, g4, zOk, this]
  by_cases g5 : (c.length : Int) < d
  · have : ¬ d ≤ c.length := by omega
    simp [F_zone_Check, Dz1, g1, g2, g3, g4, g5, zOk, this]
  by_cases g6 : b < 0
  · have : ¬ 0 ≤ b := by omega
    simp [F_zone_Check, Dz1, g1, g2, g3, g4, g5, g6, zOk, this]
  by_cases g7 : 1073741824 < b
  · have : ¬ b ≤ 1073741824 := by omega
    simp [F_zone_Check, Dz1, g1, g2, g3, g4, g5, g6, g7, zOk, this]
  have e1 : 1 ≤ n := by omega
  have e2 : n ≤ 1048576 := by omega
  have e3 : (c.length : Int) ≤ n := by omega
  have e4 : 0 ≤ d := by omega
  have e5 : d ≤ c.length := by omega
  have e6 : 0 ≤ b := by omega
  have e7 : b ≤ 1073741824 := by omega
  by_cases h0 : a = 0
  · simp [F_zone_Check, Dz1, g1, g2, g3, g4, g5, g6, g7, zOk, e1, e2, e3, e4, e5, e6, e7, h0]
  · by_cases ht : zTakes ⟨a, b, c, d⟩ = true
    · by_cases hc : 0 < c.length
      · have hc' : c ≠ [] := by rintro rfl; simp at hc
        simp [F_zone_Check, Dz1, g1, g2, g3, g4, g5, g6, g7, zOk, e1, e2, e3, e4, e5, e6, e7, h0, ht, hc]
      · have hc' : c = [] := by simpa using hc
        simp [F_zone_Check, Dz1, g1, g2, g4, g6, g7, zOk, e1, e2, e4, e6, e7, h0, ht, hc', hc] at *
        try simp_all
    · have ht' : zTakes ⟨a, b, c, d⟩ = false := by simpa using ht
      simp [F_zone_Check, Dz1, g1, g2, g3, g4, g5, g6, g7, zOk, e1, e2, e3, e4, e5, e6, e7, h0, ht']
end Go.Av

namespace Go.Av
open Enc (enc dec)
open Cel (cs dc)
open Go.Proofs Pl

@[simp] def sp_zCheck (z : Zo) (n : Int) : Option (V × List Tip) := some (enc (zOk z n), [])
theorem sp_zCheck_ok : EOk Try.prog n_zone_Check (sp2 sp_zCheck) := sp2_ok fun a b r h => by cases h; exact c_zCheck a b
def Dz2 : Orc := Dz1.add n_zone_Check (sp2 sp_zCheck)
theorem Dz2_ok : OOk Try.prog Dz2 := Dz1_ok.add sp_zCheck_ok
theorem zOk_len {z : Zo} {n : Int} (h : zOk z n = true) : 1 ≤ n ∧ n ≤ 1048576 ∧ (z.data.length : Int) ≤ n := by
  simp only [zOk, Bool.and_eq_true, decide_eq_true_eq] at h
  exact ⟨h.1.1, h.1.2.1, h.1.2.2.1⟩
theorem c_zRoom (z : Zo) (n : Int) : Pure Try.prog n_zone_Room [enc z, enc n] (enc (zRoom z n)) [] := by
  refine Pure.ofC Dz2_ok hm F_zone_Room_ok (by simp [F_zone_Room]) rfl ?_
  by_cases h : zOk z n = true
  · obtain ⟨h1, h2, h3⟩ := zOk_len h
    have w1 := IntWalk.i64_in (n - z.data.length) (by omega)
    by_cases ht : zTakes z = true
    · simp [F_zone_Room, Dz2, Dz1, zRoom, h, ht, w1]
    · have ht' : zTakes z = false := by simpa using ht
      simp [F_zone_Room, Dz2, Dz1, zRoom, h, ht']
  · have h' : zOk z n = false := by simpa using h
    simp [F_zone_Room, Dz2, Dz1, zRoom, h']
theorem c_filled (z : Zo) (n some : Int) : Pure Try.prog n_zone_filled [enc z, enc n, enc some] (enc (zFill z.data.length n some)) [] := by
  refine Pure.ofC OOk.nil hm F_zone_filled_ok (by simp [F_zone_filled]) rfl ?_
  by_cases h : z.data.length = 0
  · simp [F_zone_filled, zFill, h]
  · by_cases h2 : (z.data.length : Int) = n
    · have : ¬ n = 0 := by omega
      simp [F_zone_filled, zFill, h, h2, this]
    · simp [F_zone_filled, zFill, h, h2]
@[simp] def sp_filled (z : Zo) (n s : Int) : Option (V × List Tip) := some (enc (zFill z.data.length n s), [])
theorem sp_filled_ok : EOk Try.prog n_zone_filled (sp3 sp_filled) := sp3_ok fun a b c r h => by cases h; exact c_filled a b c
def Dz3 : Orc := Orc.nil.add n_zone_filled (sp3 sp_filled)
theorem Dz3_ok : OOk Try.prog Dz3 := OOk.nil.add sp_filled_ok

/-- A zone's box. -/
def zoB (z : Zo) (t : Nat) (xs : List (List V)) : List V := [.val (.int .i64 z.st), .val (.int .i64 z.rs), .row t 1 xs, .val (.int .i64 z.la)]
/-- What is appended: of a box, and the size. -/
structure ApA (m : Mem) (b s : Nat) (ys : List (List V)) (l : List UInt8) (n : Int) : Prop where
  hb : m.boxes[b]? = some [.lit 1 ys]
  hd : decX ys = some l
  hs : m.boxes[s]? = some [.val (.int .i64 n)]
theorem decX_len {α : Type} [Cel α] : ∀ {xs : List (List V)} {l : List α}, decX xs = some l → xs.length = l.length
  | [], l, h => by cases h; rfl
  | e :: xs, l, h => by
    rw [decX_cons] at h
    simp only [Option.bind_eq_some_iff] at h
    obtain ⟨a, _, r, hr, h⟩ := h
    cases h
    simp [decX_len hr]
theorem c_ap1 (m : Mem) (p b s t : Nat) (z : Zo) (xs ys : List (List V)) (l : List UInt8) (n : Int) (hp : m.boxes[p]? = some (zoB z t xs)) (hx : decX xs = some z.data) (hA : ApA m b s ys l n) (hbp : p ≠ b) (hsp : p ≠ s) (ht : m.tips[t]? = some (5, 1, xs.length)) (hl : xs.length + ys.length ≤ 2 ^ 40) :
    Loc Try.prog n_zone_Append_1 [.ptr p 0, .ptr b 0, .ptr s 0] m (.tuple []) ⟨m.boxes.set p (zoB { z with st := zFill (xs.length + ys.length) n 1 } t (xs ++ ys)), m.tips.set t (5, 1, xs.length + ys.length)⟩ := by
  refine Loc.ofX Dz3_ok hm F_zone_Append_1_ok (by simp [F_zone_Append_1]) ?_
  have f1 : ∀ x, (m.boxes.set p x)[p]? = some x := fun x => List.getElem?_set_self (lt_of_some hp)
  have f2 : ∀ x, (m.boxes.set p x)[b]? = m.boxes[b]? := fun x => List.getElem?_set_ne hbp
  have f3 : ∀ x, (m.boxes.set p x)[s]? = m.boxes[s]? := fun x => List.getElem?_set_ne hsp
  obtain ⟨h1, h2, h3⟩ := hA
  have hyl : ys.length = l.length := decX_len h2
  obtain ⟨a, r, c, d⟩ := z
  have hxl : xs.length = c.length := decX_len hx
  simp only [zoB] at hp ⊢
  simp at hl ht hx
  simp [F_zone_Append_1, Dz3, hp, h1, h2, h3, ht, f1, f2, f3, hyl, hx, hxl, decX_append, decX_map]
  omega
theorem c_flush1 (m : Mem) (p t : Nat) (z : Zo) (xs : List (List V)) (hp : m.boxes[p]? = some (zoB z t xs)) :
    Loc Try.prog n_zone_Flush_1 [.ptr p 0] m (.tuple []) ⟨m.boxes.set p (zoB { z with la := xs.length } t xs), m.tips⟩ := by
  refine Loc.ofX OOk.nil hm F_zone_Flush_1_ok (by simp [F_zone_Flush_1]) ?_
  simp only [zoB] at hp ⊢
  simp [F_zone_Flush_1, hp]
theorem c_finish1 (m : Mem) (p t : Nat) (z : Zo) (xs : List (List V)) (hp : m.boxes[p]? = some (zoB z t xs)) :
    Loc Try.prog n_zone_Finish_1 [.ptr p 0] m (.tuple []) ⟨m.boxes.set p (zoB { z with st := 3 } t xs), m.tips⟩ := by
  refine Loc.ofX OOk.nil hm F_zone_Finish_1_ok (by simp [F_zone_Finish_1]) ?_
  simp only [zoB] at hp ⊢
  simp [F_zone_Finish_1, hp]
theorem c_close1 (m : Mem) (p t : Nat) (z : Zo) (xs : List (List V)) (hp : m.boxes[p]? = some (zoB z t xs)) :
    Loc Try.prog n_zone_Close_1 [.ptr p 0] m (.tuple []) ⟨m.boxes.set p (zoB { z with st := 2 } t xs), m.tips⟩ := by
  refine Loc.ofX OOk.nil hm F_zone_Close_1_ok (by simp [F_zone_Close_1]) ?_
  simp only [zoB] at hp ⊢
  simp [F_zone_Close_1, hp]
theorem c_reset1 (m : Mem) (p t : Nat) (z : Zo) (xs : List (List V)) (hp : m.boxes[p]? = some (zoB z t xs)) (hr : 0 ≤ z.rs ∧ z.rs < 1073741824) :
    Loc Try.prog n_zone_Reset_1 [.ptr p 0] m (.tuple []) ⟨m.boxes.set p [.val (.int .i64 0), .val (.int .i64 (z.rs + 1)), .lit 1 [], .val (.int .i64 0)], m.tips⟩ := by
  refine Loc.ofX OOk.nil hm F_zone_Reset_1_ok (by simp [F_zone_Reset_1]) ?_
  have w1 := IntWalk.i64_in (z.rs + 1) (by omega)
  simp only [zoB] at hp ⊢
  simp [F_zone_Reset_1, hp, w1]
theorem box_new (l bs : List (List V)) (a : List V) : (l ++ a :: bs)[l.length]? = some a := by simp
theorem box_new2 (l bs : List (List V)) (a b : List V) : (l ++ a :: b :: bs)[l.length + 1]? = some b := by simp
theorem box_set (l bs : List (List V)) (a x : List V) : (l ++ a :: bs).set l.length x = l ++ x :: bs := by simp
theorem box_set2 (l bs : List (List V)) (a b x : List V) : (l ++ a :: b :: bs).set (l.length + 1) x = l ++ a :: x :: bs := by
  rw [List.set_append_right _ _ (by omega)]; simp
theorem c_zdone (f : FuncId) (cap : List V) (z : Zo) (sp : List V → Mem → Option (V × Mem)) (he : EOkL Try.prog f sp) (m : Mem) (tip : Tip) (dv : V) (a' r' c' : Int) (xs : List (List V)) (hl : z.data.length ≤ 2 ^ 40)
    (hv : dv = .row m.tips.length 1 xs ∨ dv = .lit 1 xs) (hx : cleanX xs = true)
    (hsp : ∀ out, sp (.ptr m.boxes.length 0 :: cap) ⟨m.boxes ++ [zoB z m.tips.length (z.data.map cs), out], m.tips ++ [(5, 1, z.data.length)]⟩ = some (.tuple [], ⟨m.boxes ++ [[.val (.int .i64 a'), .val (.int .i64 r'), dv, .val (.int .i64 c')], out], m.tips ++ [tip]⟩)) :
    Loc Try.prog n_zone_done [enc z, .val (.bool true), .func f cap] m (.tuple [.agg [.val (.int .i64 a'), .val (.int .i64 r'), .lit 1 xs, .val (.int .i64 c')], .val (.int .i64 0)]) m := by
  refine Loc.ofC (OOk.nil.addL he) hm F_zone_done_ok (by simp [F_zone_done]) (.inr ⟨_, rfl, by simp [hx]⟩) m.boxes.length m.tips.length (Nat.le_refl _) (Nat.le_refl _) fun hu => ?_
  obtain ⟨a, b, c, d⟩ := z
  simp only [zoB] at hsp
  simp at hl hsp
  rcases hv with rfl | rfl
  · simp [F_zone_done, box_new, box_new2, box_set, box_set2, hsp, hu, hx]
    omega
  · simp [F_zone_done, box_new, box_new2, box_set, box_set2, hsp, hu, hx]
    omega
theorem c_zdone0 (v : V) (z : Zo) (m : Mem) (hl : z.data.length ≤ 2 ^ 40) :
    Loc Try.prog n_zone_done [enc z, .val (.bool false), v] m (.tuple [enc z, .val (.int .i64 30)]) m := by
  refine Loc.ofC OOk.nil hm F_zone_done_ok (by simp [F_zone_done]) (.inr ⟨[enc z, .val (.int .i64 30)], rfl, by simp [clean_cs]⟩) m.boxes.length m.tips.length (Nat.le_refl _) (Nat.le_refl _) fun hu => ?_
  obtain ⟨a, b, c, d⟩ := z
  simp at hl
  simp [F_zone_done, box_new, box_new2, box_set, box_set2, hu]
  omega
def sp_ap1 : List V → Mem → Option (V × Mem)
  | [.ptr p 0, .ptr b 0, .ptr s 0], m => match m.boxes[p]?, m.boxes[b]?, m.boxes[s]? with
    | some [.val (.int .i64 a), .val (.int .i64 r), .row t 1 xs, .val (.int .i64 c)], some [.lit 1 ys], some [.val (.int .i64 n)] =>
      if m.tips[t]? = some (5, 1, xs.length) ∧ xs.length + ys.length ≤ 2 ^ 40 ∧ p ≠ b ∧ p ≠ s ∧ (decX xs : Option (List UInt8)).isSome = true ∧ (decX ys : Option (List UInt8)).isSome = true then
        some (.tuple [], ⟨m.boxes.set p [.val (.int .i64 (zFill (xs.length + ys.length) n 1)), .val (.int .i64 r), .row t 1 (xs ++ ys), .val (.int .i64 c)], m.tips.set t (5, 1, xs.length + ys.length)⟩) else none
    | _, _, _ => none
  | _, _ => none
theorem sp_ap1_ok : EOkL Try.prog n_zone_Append_1 sp_ap1 := by
  intro args m v m' h
  unfold sp_ap1 at h
  split at h
  · split at h
    · rename_i hp hb hs
      split at h
      · rename_i hc
        cases h
        obtain ⟨k1, k2, k3, k4, k5, k6⟩ := hc
        obtain ⟨l, hl⟩ := Option.isSome_iff_exists.1 k5
        obtain ⟨l2, hl2⟩ := Option.isSome_iff_exists.1 k6
        exact c_ap1 m _ _ _ _ ⟨_, _, l, _⟩ _ _ l2 _ hp hl ⟨hb, hl2, hs⟩ k3 k4 k1 k2
      · cases h
    · cases h
  · cases h
end Go.Av

namespace Go.Av
open Enc (enc dec)
open Cel (cs dc)
open Go.Proofs Pl

def sp_flush1 : List V → Mem → Option (V × Mem)
  | [.ptr p 0], m => match m.boxes[p]? with
    | some [.val (.int .i64 a), .val (.int .i64 r), .row t 1 xs, .val (.int .i64 _)] => some (.tuple [], ⟨m.boxes.set p [.val (.int .i64 a), .val (.int .i64 r), .row t 1 xs, .val (.int .i64 xs.length)], m.tips⟩)
    | _ => none
  | _, _ => none
theorem sp_flush1_ok : EOkL Try.prog n_zone_Flush_1 sp_flush1 := by
  intro args m v m' h
  unfold sp_flush1 at h
  split at h
  · split at h
    · rename_i hp
      cases h
      exact c_flush1 m _ _ ⟨_, _, [], _⟩ _ hp
    · cases h
  · cases h
def sp_state1 (q : Int) : List V → Mem → Option (V × Mem)
  | [.ptr p 0], m => match m.boxes[p]? with
    | some [.val (.int .i64 _), .val (.int .i64 r), .row t 1 xs, .val (.int .i64 c)] => some (.tuple [], ⟨m.boxes.set p [.val (.int .i64 q), .val (.int .i64 r), .row t 1 xs, .val (.int .i64 c)], m.tips⟩)
    | _ => none
  | _, _ => none
theorem sp_finish1_ok : EOkL Try.prog n_zone_Finish_1 (sp_state1 3) := by
  intro args m v m' h
  unfold sp_state1 at h
  split at h
  · split at h
    · rename_i hp
      cases h
      exact c_finish1 m _ _ ⟨_, _, [], _⟩ _ hp
    · cases h
  · cases h
theorem sp_close1_ok : EOkL Try.prog n_zone_Close_1 (sp_state1 2) := by
  intro args m v m' h
  unfold sp_state1 at h
  split at h
  · split at h
    · rename_i hp
      cases h
      exact c_close1 m _ _ ⟨_, _, [], _⟩ _ hp
    · cases h
  · cases h
def sp_reset1 : List V → Mem → Option (V × Mem)
  | [.ptr p 0], m => match m.boxes[p]? with
    | some [.val (.int .i64 _), .val (.int .i64 r), .row _ 1 _, .val (.int .i64 _)] => if 0 ≤ r ∧ r < 1073741824 then some (.tuple [], ⟨m.boxes.set p [.val (.int .i64 0), .val (.int .i64 (r + 1)), .lit 1 [], .val (.int .i64 0)], m.tips⟩) else none
    | _ => none
  | _, _ => none
theorem sp_reset1_ok : EOkL Try.prog n_zone_Reset_1 sp_reset1 := by
  intro args m v m' h
  unfold sp_reset1 at h
  split at h
  · split at h
    · rename_i hp
      split at h
      · rename_i hr
        cases h
        exact c_reset1 m _ _ ⟨_, _, [], _⟩ _ hp hr
      · cases h
    · cases h
  · cases h
/-- What is done with a zone: by functions, and on what memory. -/
def zdo (f : FuncId) (cap : List V) (m : Mem) (z : Zo) : Option V :=
  if f = n_zone_Append_1 then match cap with
    | [.ptr b 0, .ptr s 0] => (match m.boxes[b]?, m.boxes[s]? with
      | some [.lit 1 ys], some [.val (.int .i64 n)] => if z.data.length + ys.length ≤ 2 ^ 40 ∧ (decX ys : Option (List UInt8)).isSome = true ∧ cleanX ys = true then
          some (.agg [.val (.int .i64 (zFill (z.data.length + ys.length) n 1)), .val (.int .i64 z.rs), .lit 1 (z.data.map cs ++ ys), .val (.int .i64 z.la)]) else none
      | _, _ => none)
    | _ => none
  else if f = n_zone_Flush_1 then (if cap = [] then some (enc { z with la := (z.data.length : Int) }) else none)
  else if f = n_zone_Finish_1 then (if cap = [] then some (enc { z with st := 3 }) else none)
  else if f = n_zone_Close_1 then (if cap = [] then some (enc { z with st := 2 }) else none)
  else if f = n_zone_Reset_1 then (if cap = [] ∧ 0 ≤ z.rs ∧ z.rs < 1073741824 then some (enc (⟨0, z.rs + 1, [], 0⟩ : Zo)) else none)
  else none
theorem decX_cs (l : List UInt8) : (decX (l.map cs) : Option (List UInt8)) = some l := decX_map l
theorem c_zdo (f : FuncId) (cap : List V) (m : Mem) (z : Zo) (r : V) (hl : z.data.length ≤ 2 ^ 40) (h : zdo f cap m z = some r) :
    Loc Try.prog n_zone_done [enc z, .val (.bool true), .func f cap] m (.tuple [r, .val (.int .i64 0)]) m := by
  unfold zdo at h
  split at h
  · rename_i hf
    subst hf
    split at h
    · rename_i b s
      split at h
      · rename_i ys n hb hs
        split at h
        · rename_i hc
          cases h
          refine c_zdone _ _ z sp_ap1 sp_ap1_ok m (5, 1, z.data.length + ys.length) (.row m.tips.length 1 (z.data.map cs ++ ys)) _ _ _ _ hl (.inl rfl) (by simp [clean_cs, hc.2.2]) fun out => ?_
          have hbl := lt_of_some hb
          have hsl := lt_of_some hs
          have f2 : ∀ x : List (List V), (m.boxes ++ x)[b]? = m.boxes[b]? := fun x => List.getElem?_append_left hbl
          have f3 : ∀ x : List (List V), (m.boxes ++ x)[s]? = m.boxes[s]? := fun x => List.getElem?_append_left hsl
          have n1 : ¬ m.boxes.length = b := by omega
          have n2 : ¬ m.boxes.length = s := by omega
          clear hbl hsl
          simp only [sp_ap1, zoB, box_new, f2, f3, hb, hs]
          rw [if_pos ⟨by simp, by simpa using hc.1, n1, n2, by rw [decX_cs]; rfl, hc.2.1⟩]
          simp [box_set]
        · cases h
      · cases h
    · cases h
  split at h
  · rename_i hf
    subst hf
    split at h
    · rename_i hc
      subst hc
      cases h
      refine c_zdone _ _ z sp_flush1 sp_flush1_ok m (5, 1, z.data.length) (.row m.tips.length 1 (z.data.map cs)) _ _ _ _ hl (.inl rfl) (by simp [clean_cs]) fun out => ?_
      simp only [sp_flush1, zoB, box_new, box_set]
      simp
    · cases h
  split at h
  · rename_i hf
    subst hf
    split at h
    · rename_i hc
      subst hc
      cases h
      refine c_zdone _ _ z (sp_state1 3) sp_finish1_ok m (5, 1, z.data.length) (.row m.tips.length 1 (z.data.map cs)) _ _ _ _ hl (.inl rfl) (by simp [clean_cs]) fun out => ?_
      simp only [sp_state1, zoB, box_new, box_set]
    · cases h
  split at h
  · rename_i hf
    subst hf
    split at h
    · rename_i hc
      subst hc
      cases h
      refine c_zdone _ _ z (sp_state1 2) sp_close1_ok m (5, 1, z.data.length) (.row m.tips.length 1 (z.data.map cs)) _ _ _ _ hl (.inl rfl) (by simp [clean_cs]) fun out => ?_
      simp only [sp_state1, zoB, box_new, box_set]
    · cases h
  split at h
  · rename_i hf
    subst hf
    split at h
    · rename_i hc
      obtain ⟨rfl, h1, h2⟩ := hc
      cases h
      refine c_zdone _ _ z sp_reset1 sp_reset1_ok m (5, 1, z.data.length) (.lit 1 []) _ _ _ _ hl (.inr rfl) rfl fun out => ?_
      simp only [sp_reset1, zoB, box_new, box_set]
      rw [if_pos ⟨h1, h2⟩]
    · cases h
  · cases h
def sp_zdone : List V → Mem → Option (V × Mem)
  | [a, .val (.bool may), fv], m => (dec a : Option Zo).bind fun z => if z.data.length ≤ 2 ^ 40 then (if may = true then (match fv with
      | .func f cap => (zdo f cap m z).map fun r => (.tuple [r, .val (.int .i64 0)], m)
      | _ => none) else some (.tuple [enc z, .val (.int .i64 30)], m)) else none
  | _, _ => none
theorem sp_zdone_ok : EOkL Try.prog n_zone_done sp_zdone := by
  intro args m v m' h
  unfold sp_zdone at h
  split at h
  · rename_i a may fv
    simp only [Option.bind_eq_some_iff] at h
    obtain ⟨z, hz, h⟩ := h
    split at h
    · rename_i hl
      split at h
      · rename_i hm
        subst hm
        split at h
        · simp only [Option.map_eq_some_iff] at h
          obtain ⟨r, hr, h⟩ := h
          cases h
          exact (c_zdo _ _ m z r hl hr).wk (wk_dec (WkL.refl _) hz)
        · cases h
      · rename_i hm
        have : may = false := by simpa using hm
        subst this
        cases h
        exact (c_zdone0 fv z m hl).wk (wk_dec (WkL.refl _) hz)
    · cases h
  · cases h
end Go.Av

namespace Go.Av.Pl
def zApp (z : Zo) (n : Int) (b : List UInt8) : Zo × Int := if zOk z n = false ∨ b = [] then (z, 1) else if (b.length : Int) ≤ zRoom z n then ({ z with data := z.data ++ b, st := zFill (z.data ++ b).length n 1 }, 0) else (z, 30)
def zFin (z : Zo) : Zo × Int := if zTakes z = true ∧ z.st ≠ 0 then ({ z with st := 3 }, 0) else (z, 30)
def zClo (z : Zo) : Zo × Int := if z.st = 1 then ({ z with st := 2 }, 0) else (z, 30)
def zRes (z : Zo) : Zo × Int := if (zTakes z = true ∨ z.st = 3) ∧ 0 ≤ z.rs ∧ z.rs < 1073741824 then (⟨0, z.rs + 1, [], 0⟩, 0) else (z, 30)
def zFlu (z : Zo) : Zo := { z with la := z.data.length }
end Go.Av.Pl
namespace Go.Av
open Enc (enc dec)
open Cel (cs dc)
open Go.Proofs Pl

@[simp] def sp_zRoom (z : Zo) (n : Int) : Option (V × List Tip) := some (enc (zRoom z n), [])
theorem sp_zRoom_ok : EOk Try.prog n_zone_Room (sp2 sp_zRoom) := sp2_ok fun a b r h => by cases h; exact c_zRoom a b
theorem sp_zclone_ok : EOk Try.prog n_bytes_Clone (sp1 sp_clone) := sp1_ok fun l r h => by
  simp only [sp_clone] at h
  split at h <;> cases h
  exact c_clone l (by assumption)
def Dz4 : Orc := ((Dz2.add n_zone_Room (sp2 sp_zRoom)).add n_bytes_Clone (sp1 sp_clone)).addL n_zone_done sp_zdone
theorem Dz4_ok : OOk Try.prog Dz4 := ((Dz2_ok.add sp_zRoom_ok).add sp_zclone_ok).addL sp_zdone_ok
theorem c_zAppend (z : Zo) (n : Int) (b : List UInt8) (hz : z.data.length ≤ 2 ^ 30) (hb : b.length ≤ 2 ^ 30) : Pure Try.prog n_zone_Append [enc z, enc n, enc b] (.tuple [enc (zApp z n b).1, enc (zApp z n b).2]) [] := by
  refine Pure.ofC Dz4_ok hm F_zone_Append_ok (by simp [F_zone_Append]) (by simp [V.res, V.res1]) ?_
  obtain ⟨a, r, c, d⟩ := z
  simp at hz hb
  by_cases h1 : zOk ⟨a, r, c, d⟩ n = true
  · by_cases h2 : b = []
    · simp [F_zone_Append, Dz4, Dz2, Dz1, zApp, h1, h2]
      omega
    · by_cases h3 : (b.length : Int) ≤ zRoom ⟨a, r, c, d⟩ n
      · have g1 : c.length + b.length ≤ 1099511627776 := by omega
        simp [F_zone_Append, Dz4, Dz2, Dz1, zApp, h1, h2, h3, sp_zdone, zdo, decX_cs, clean_cs, keepB, g1]
        omega
      · simp [F_zone_Append, Dz4, Dz2, Dz1, zApp, h1, h2, h3, sp_zdone, zdo, decX_cs, clean_cs, keepB]
        omega
  · have h1' : zOk ⟨a, r, c, d⟩ n = false := by simpa using h1
    simp [F_zone_Append, Dz4, Dz2, Dz1, zApp, h1']
    omega
theorem c_zReset (z : Zo) (hz : z.data.length ≤ 2 ^ 30) : Pure Try.prog n_zone_Reset [enc z] (.tuple [enc (zRes z).1, enc (zRes z).2]) [] := by
  refine Pure.ofC Dz4_ok hm F_zone_Reset_ok (by simp [F_zone_Reset]) (by simp [V.res, V.res1]) ?_
  obtain ⟨a, r, c, d⟩ := z
  simp at hz
  have g1 : c.length ≤ 1099511627776 := by omega
  by_cases h1 : zTakes ⟨a, r, c, d⟩ = true
  · by_cases h2 : 0 ≤ r
    · by_cases h3 : r < 1073741824
      · simp [F_zone_Reset, Dz4, Dz2, Dz1, zRes, h1, h2, h3, sp_zdone, zdo, decX_cs, g1]
      · simp [F_zone_Reset, Dz4, Dz2, Dz1, zRes, h1, h2, h3, sp_zdone, zdo, decX_cs, g1]
    · simp [F_zone_Reset, Dz4, Dz2, Dz1, zRes, h1, h2, sp_zdone, zdo, decX_cs, g1]
  · have h1' : zTakes ⟨a, r, c, d⟩ = false := by simpa using h1
    by_cases h0 : a = 3
    · by_cases h2 : 0 ≤ r
      · by_cases h3 : r < 1073741824
        · simp [F_zone_Reset, Dz4, Dz2, Dz1, zRes, h0, h2, h3, sp_zdone, zdo, decX_cs, g1]
        · simp [F_zone_Reset, Dz4, Dz2, Dz1, zRes, h0, h2, h3, sp_zdone, zdo, decX_cs, g1]
      · simp [F_zone_Reset, Dz4, Dz2, Dz1, zRes, h0, h2, sp_zdone, zdo, decX_cs, g1]
    · simp [F_zone_Reset, Dz4, Dz2, Dz1, zRes, h1', h0, sp_zdone, zdo, decX_cs, g1]
theorem c_zFinish (z : Zo) (hz : z.data.length ≤ 2 ^ 30) : Pure Try.prog n_zone_Finish [enc z] (.tuple [enc (zFin z).1, enc (zFin z).2]) [] := by
  refine Pure.ofC Dz4_ok hm F_zone_Finish_ok (by simp [F_zone_Finish]) (by simp [V.res, V.res1]) ?_
  obtain ⟨a, r, c, d⟩ := z
  simp at hz
  have g1 : c.length ≤ 1099511627776 := by omega
  by_cases h1 : zTakes ⟨a, r, c, d⟩ = true
  · by_cases h2 : a = 0
    · subst h2
      simp [F_zone_Finish, Dz4, Dz2, Dz1, zFin, h1, sp_zdone, zdo, decX_cs, g1, keepB]
    · simp [F_zone_Finish, Dz4, Dz2, Dz1, zFin, h1, h2, sp_zdone, zdo, decX_cs, g1, keepB]
  · have h1' : zTakes ⟨a, r, c, d⟩ = false := by simpa using h1
    simp [F_zone_Finish, Dz4, Dz2, Dz1, zFin, h1', sp_zdone, zdo, decX_cs, g1, keepB]
theorem c_zClose (z : Zo) (hz : z.data.length ≤ 2 ^ 30) : Pure Try.prog n_zone_Close [enc z] (.tuple [enc (zClo z).1, enc (zClo z).2]) [] := by
  refine Pure.ofC Dz4_ok hm F_zone_Close_ok (by simp [F_zone_Close]) (by simp [V.res, V.res1]) ?_
  obtain ⟨a, r, c, d⟩ := z
  simp at hz
  have g1 : c.length ≤ 1099511627776 := by omega
  by_cases h2 : a = 1
  · subst h2
    simp [F_zone_Close, Dz4, zClo, sp_zdone, zdo, decX_cs, g1]
  · simp [F_zone_Close, Dz4, zClo, h2, sp_zdone, zdo, decX_cs, g1]
theorem c_zFlush (z : Zo) (hz : z.data.length ≤ 2 ^ 30) : Pure Try.prog n_zone_Flush [enc z] (enc (zFlu z)) [] := by
  refine Pure.ofC Dz4_ok hm F_zone_Flush_ok (by simp [F_zone_Flush]) (by simp [V.res, V.res1]) ?_
  obtain ⟨a, r, c, d⟩ := z
  simp at hz
  have g1 : c.length ≤ 1099511627776 := by omega
  simp [F_zone_Flush, Dz4, zFlu, sp_zdone, zdo, decX_cs, g1]
end Go.Av

namespace Go.Av.Pl
structure Rec where
  kind : Int
  seq : Int
  body : List UInt8
deriving DecidableEq
def Rec.zero : Rec := ⟨0, 0, []⟩
end Go.Av.Pl
namespace Go.Av
open Enc (enc dec)
open Cel (cs dc)
open Go.Proofs Pl

instance : Cel Rec where
  sz := 3
  cs x := [enc x.kind, enc x.seq, enc x.body]
  dc l := match l with
    | [a, b, c] => (dec a).bind fun a => (dec b).bind fun b => (dec c).bind fun c => some ⟨a, b, c⟩
    | _ => none
  len _ := rfl
  ok l x h := by
    split at h
    · simp only [Option.bind_eq_some_iff] at h
      obtain ⟨a, ha, b, hb, c, hc, h⟩ := h
      cases h
      exact wk_dec (wk_dec (wk_dec wk_nil hc) hb) ha
    · cases h
  cl x := by simp [clean_cs]
  de x := by simp [decX_map]
instance : Enc Rec := encC
@[simp] theorem sz_rec : Cel.sz Rec = 3 := rfl
@[simp] theorem cs_rec (x : Rec) : cs x = [.val (.int .i64 x.kind), .val (.int .i64 x.seq), .lit 1 (x.body.map cs)] := rfl
@[simp] theorem enc_rec (x : Rec) : (enc x : V) = .agg [.val (.int .i64 x.kind), .val (.int .i64 x.seq), .lit 1 (x.body.map cs)] := rfl
@[simp] theorem dc_rec (a b c : V) : (dc [a, b, c] : Option Rec) = (dec a).bind fun a => (dec b).bind fun b => (dec c).bind fun c => some ⟨a, b, c⟩ := rfl
@[simp] theorem dec_rec (l : List V) : (dec (.agg l) : Option Rec) = dc l := rfl

theorem c_r05_Same (a b : Rec) : Pure Try.prog n_r05_Same [enc a, enc b] (enc (decide (a = b))) [] := by
  refine Pure.ofC OOk.nil hm F_r05_Same_ok (by simp [F_r05_Same]) rfl ?_
  obtain ⟨a1, a2, a3⟩ := a
  obtain ⟨b1, b2, b3⟩ := b
  by_cases h1 : a1 = b1 <;> by_cases h2 : a2 = b2 <;> by_cases h3 : a3 = b3 <;> simp [F_r05_Same, h1, h2, h3]
@[simp] def sp_rsame (a b : Rec) : Option (V × List Tip) := some (enc (decide (a = b)), [])
theorem sp_rsame_ok : EOk Try.prog n_r05_Same (sp2 sp_rsame) := sp2_ok fun a b r h => by cases h; exact c_r05_Same a b
def D31 : Orc := Orc.nil.add n_r05_Same (sp2 sp_rsame)
theorem D31_ok : OOk Try.prog D31 := OOk.nil.add sp_rsame_ok
def RecAllI (a b : List Rec) (k : Nat) (s : Nat → V) (m : Mem) : Prop :=
  ∃ (i : Nat), i + k = a.length ∧ a.take i = b.take i ∧ s 0 = .lit 3 (a.map cs) ∧ s 1 = .lit 3 (b.map cs) ∧ s 5 = .val (.int .i64 i)
theorem c_r05_All (a b : List Rec) (ha : a.length ≤ 2 ^ 40) : Pure Try.prog n_r05_All [enc a, enc b] (enc (decide (a = b))) [] := by
  refine Pure.ofC D31_ok hm F_r05_All_ok (by simp [F_r05_All]) rfl ?_
  by_cases h4 : a.length = b.length
  · simp [F_r05_All, h4]
    refine wp_loop (RecAllI a b) a.length (IW.of ⟨0, by simp, by simp, by simp, by simp, by simp⟩) fun k s m ⟨i, hik, heq, s0, s1, s5⟩ => ?_
    by_cases hi : i < a.length
    · have hg : a[i]? = some a[i] := List.getElem?_eq_getElem hi
      have hic : i < b.length := by omega
      have hg' : b[i]? = some b[i] := List.getElem?_eq_getElem hic
      have w1 := IntWalk.i64_in ((i : Int) + 1) (by omega)
      have t1 : a.take (i + 1) = a.take i ++ [a[i]] := by rw [List.take_add_one, hg]; rfl
      have t2 : b.take (i + 1) = b.take i ++ [b[i]] := by rw [List.take_add_one, hg']; rfl
      by_cases hx : a[i] = b[i]
      · simp [F_r05_All_L0, D31, s0, s1, s5, hi, hic, hg, hg', w1, ← hx, ← h4]
        refine ⟨k - 1, by omega, IW.of (show RecAllI _ _ _ _ _ from ⟨i + 1, by omega, by rw [t1, t2, heq, hx], by simpa using s0, by simpa using s1, by simp⟩)⟩
      · have e : ¬ a = b := by
          rintro rfl
          exact hx rfl
        simp [F_r05_All_L0, D31, s0, s1, s5, hi, hic, hg, hg', w1, hx, ← h4, e]
    · have e : a = b := by
        rw [List.take_of_length_le (by omega), List.take_of_length_le (by omega)] at heq
        exact heq
      subst e
      simp [F_r05_All_L0, D31, s0, s1, s5, hi]
  · have e : ¬ a = b := fun e => h4 (by rw [e])
    have h4' : ¬ (a.length : Int) = b.length := by omega
    simp [F_r05_All, h4', e]
theorem under_cs (k j : Nat) : ∀ l : List UInt8, underX k j (l.map cs) = true
  | [] => rfl
  | a :: l => by simp only [List.map_cons, underX, under_cs k j l]; rfl
theorem underX_app {k j : Nat} : ∀ {a b : List (List V)}, underX k j (a ++ b) = (underX k j a && underX k j b)
  | [], b => rfl
  | x :: a, b => by simp only [List.cons_append, underX, underX_app (a := a), Bool.and_assoc]
/-- A box of a number. -/
def boxI (m : Mem) (p : Nat) : Option Int := match m.boxes[p]? with
  | some [.val (.int .i64 n)] => some n
  | _ => none
theorem boxI_some {m : Mem} {p : Nat} {b : Int} (h : boxI m p = some b) : m.boxes[p]? = some [.val (.int .i64 b)] := by
  unfold boxI at h
  split at h
  · cases h; assumption
  · cases h
@[simp] theorem boxI_of {m : Mem} {p : Nat} {b : Int} (h : m.boxes[p]? = some [.val (.int .i64 b)]) : boxI m p = some b := by simp [boxI, h]
end Go.Av

namespace Go.Av.Pl
structure Dv where
  size : Int
  zones : List Zo
  left : Int
  down : Bool
  done : Int
deriving DecidableEq
def dOk (d : Dv) : Bool := !(d.zones.any fun z => !zOk z d.size) && decide (0 < d.zones.length ∧ d.zones.length ≤ 64 ∧ 0 < d.size ∧ d.size ≤ 1048576)
def zIdx (pr : Zo → Bool) (l : List Zo) : Int := match l.findIdx? pr with
  | some i => i
  | none => -1
/-- How many zones are in a state. -/
def stN (q : Int) (l : List Zo) : Nat := l.countP fun z => decide (z.st = q)
end Go.Av.Pl
namespace Go.Av
open Enc (enc dec)
open Cel (cs dc)
open Go.Proofs Pl

instance : Cel Dv where
  sz := 5
  cs x := [enc x.size, enc x.zones, enc x.left, enc x.down, enc x.done]
  dc l := match l with
    | [a, b, c, d, e] => (dec a).bind fun a => (dec b).bind fun b => (dec c).bind fun c => (dec d).bind fun d => (dec e).bind fun e => some ⟨a, b, c, d, e⟩
    | _ => none
  len _ := rfl
  ok l x h := by
    split at h
    · simp only [Option.bind_eq_some_iff] at h
      obtain ⟨a, ha, b, hb, c, hc, d, hd, e, he, h⟩ := h
      cases h
      exact wk_dec (wk_dec (wk_dec (wk_dec (wk_dec wk_nil he) hd) hc) hb) ha
    · cases h
  cl x := by simp [clean_cs]
  de x := by simp [decX_map]
instance : Enc Dv := encC
@[simp] theorem cs_dv (x : Dv) : cs x = [.val (.int .i64 x.size), .lit 4 (x.zones.map cs), .val (.int .i64 x.left), .val (.bool x.down), .val (.int .i64 x.done)] := rfl
@[simp] theorem enc_dv (x : Dv) : (enc x : V) = .agg [.val (.int .i64 x.size), .lit 4 (x.zones.map cs), .val (.int .i64 x.left), .val (.bool x.down), .val (.int .i64 x.done)] := rfl
@[simp] theorem dc_dv (a b c d e : V) : (dc [a, b, c, d, e] : Option Dv) = (dec a).bind fun a => (dec b).bind fun b => (dec c).bind fun c => (dec d).bind fun d => (dec e).bind fun e => some ⟨a, b, c, d, e⟩ := rfl
@[simp] theorem dec_dv (l : List V) : (dec (.agg l) : Option Dv) = dc l := rfl

theorem zIdx_nonneg (pr : Zo → Bool) (l : List Zo) : decide (0 ≤ zIdx pr l) = l.any pr := by
  unfold zIdx
  cases h : l.findIdx? pr with
  | none =>
    have h1 := List.findIdx?_eq_none_iff.1 h
    have : l.any pr = false := by
      rw [List.any_eq_false]
      intro x hx
      simpa using h1 x hx
    rw [this]; rfl
  | some i =>
    obtain ⟨hi, hp, _⟩ := List.findIdx?_eq_some_iff_getElem.1 h
    rw [List.any_eq_true.2 ⟨l[i], List.getElem_mem hi, hp⟩]
    simp
def ZIdxI (m0 : Mem) (l : List Zo) (f : FuncId) (cap : List V) (pr : Zo → Bool) (k : Nat) (s : Nat → V) (m : Mem) : Prop :=
  ∃ (i : Nat), i + k = l.length ∧ (∀ j (hj : j < l.length), j < i → pr l[j] = false) ∧ s 0 = .lit 4 (l.map cs) ∧ s 1 = .func f cap ∧ s 7 = .val (.int .i64 l.length) ∧ s 8 = .val (.int .i64 i) ∧ m = m0
theorem c_zIndexF (f : FuncId) (cap : List V) (sp : List V → Mem → Option (V × Mem)) (he : EOkL Try.prog f sp) (m : Mem) (l : List Zo) (pr : Zo → Bool) (hl : l.length ≤ 2 ^ 40) (hsp : ∀ z, sp (enc z :: cap) m = some (.val (.bool (pr z)), m)) :
    Loc Try.prog n_slices_IndexFunc_Zone [enc l, .func f cap] m (enc (zIdx pr l)) m := by
  refine Loc.ofC (OOk.nil.addL he) hm F_slices_IndexFunc_Zone_ok (by simp [F_slices_IndexFunc_Zone]) (.inl rfl) m.boxes.length m.tips.length (Nat.le_refl _) (Nat.le_refl _) fun hu => ?_
  simp at hsp
  simp [F_slices_IndexFunc_Zone]
  refine wp_loop (ZIdxI m l f cap pr) l.length (IW.of ⟨0, by omega, by simp, by simp, by simp, by simp, by simp, rfl⟩) fun k s m' ⟨i, hik, hno, h0, h1, h7, h8, hm'⟩ => ?_
  subst hm'
  by_cases hi : i < l.length
  · have hg : l[i]? = some l[i] := List.getElem?_eq_getElem hi
    have w1 := IntWalk.i64_in ((i : Int) + 1) (by omega)
    by_cases hx : pr l[i] = true
    · have e : zIdx pr l = i := by
        unfold zIdx
        rw [List.findIdx?_eq_some_iff_getElem.2 ⟨hi, by simpa using hx, fun j hj => by simpa using hno j (by omega) hj⟩]
      simp [F_slices_IndexFunc_Zone_L0, h0, h1, h7, h8, hi, hg, hsp, hx, hu, e]
    · have hx' : pr l[i] = false := by simpa using hx
      simp [F_slices_IndexFunc_Zone_L0, h0, h1, h7, h8, hi, hg, hsp, hx', w1]
      refine ⟨k - 1, by omega, IW.of (show ZIdxI m' l f cap pr _ _ _ from ⟨i + 1, by omega, fun j hj hji => ?_, by simpa using h0, by simpa using h1, by simpa using h7, by simp, rfl⟩)⟩
      by_cases hj' : j = i
      · subst hj'; exact hx'
      · exact hno j hj (by omega)
  · have e : zIdx pr l = -1 := by
      unfold zIdx
      rw [List.findIdx?_eq_none_iff.2]
      intro x hx
      obtain ⟨j, hj, rfl⟩ := List.getElem_of_mem hx
      simpa using hno j hj (by omega)
    simp [F_slices_IndexFunc_Zone_L0, h0, h1, h7, h8, hi, hu, e]

/-- The number that a box begins with. -/
def boxH (m : Mem) (p : Nat) : Option Int := match m.boxes[p]? with
  | some (.val (.int .i64 n) :: _) => some n
  | _ => none
theorem boxH_some {m : Mem} {p : Nat} {n : Int} (h : boxH m p = some n) : ∃ r, m.boxes[p]? = some (.val (.int .i64 n) :: r) := by
  unfold boxH at h
  split at h
  · cases h; exact ⟨_, by assumption⟩
  · cases h
theorem isObj_int (k : IntKind) (n : Int) (r : List V) : isObj (.val (.int k n) :: r) = false := by cases r <;> rfl
theorem c_check1 (m : Mem) (p : Nat) (n : Int) (z : Zo) (hp : boxH m p = some n) : Loc Try.prog n_dev_Check_1 [enc z, .ptr p 0] m (enc (!zOk z n)) m := by
  refine Loc.ofC Dz2_ok hm F_dev_Check_1_ok (by simp [F_dev_Check_1]) (.inl rfl) m.boxes.length m.tips.length (Nat.le_refl _) (Nat.le_refl _) fun hu => ?_
  obtain ⟨r, hp⟩ := boxH_some hp
  have hpl : p < m.boxes.length := lt_of_some hp
  have f1 : ∀ (b : List (List V)), (m.boxes ++ b)[p]? = m.boxes[p]? := fun b => List.getElem?_append_left hpl
  clear hpl
  simp [F_dev_Check_1, Dz2, f1, hp, hu, isObj_int]
theorem c_first1 (m : Mem) (p q r : Nat) (a n b : Int) (z : Zo) (hp : boxI m p = some a) (hq : boxH m q = some n) (hr : boxI m r = some b) :
    Loc Try.prog n_log_first_1 [enc z, .ptr p 0, .ptr q 0, .ptr r 0] m (enc (decide (z.st = a) && decide (b ≤ zRoom z n))) m := by
  refine Loc.ofC Dz4_ok hm F_log_first_1_ok (by simp [F_log_first_1]) (.inl rfl) m.boxes.length m.tips.length (Nat.le_refl _) (Nat.le_refl _) fun hu => ?_
  have hp := boxI_some hp
  have hr := boxI_some hr
  obtain ⟨t, hq⟩ := boxH_some hq
  have f1 : ∀ (b : List (List V)), (m.boxes ++ b)[p]? = m.boxes[p]? := fun b => List.getElem?_append_left (lt_of_some hp)
  have f2 : ∀ (b : List (List V)), (m.boxes ++ b)[q]? = m.boxes[q]? := fun b => List.getElem?_append_left (lt_of_some hq)
  have f3 : ∀ (b : List (List V)), (m.boxes ++ b)[r]? = m.boxes[r]? := fun b => List.getElem?_append_left (lt_of_some hr)
  by_cases h : z.st = a
  · obtain ⟨x, _, _, _⟩ := z
    simp only at h
    subst h
    simp [F_log_first_1, Dz4, f1, f2, f3, hp, hq, hr, hu, isObj_int]
  · simp [F_log_first_1, Dz4, f1, f2, f3, hp, hq, hr, hu, isObj_int, h]
def sp_check1 : List V → Mem → Option (V × Mem)
  | [a, .ptr p 0], m => (dec a : Option Zo).bind fun z => (boxH m p).map fun n => (.val (.bool (!zOk z n)), m)
  | _, _ => none
theorem sp_check1_ok : EOkL Try.prog n_dev_Check_1 sp_check1 := by
  intro args m v m' h
  unfold sp_check1 at h
  split at h
  · simp only [Option.bind_eq_some_iff, Option.map_eq_some_iff] at h
    obtain ⟨z, hz, n, hn, h⟩ := h
    cases h
    exact (c_check1 m _ n z hn).wk (wk_dec (WkL.refl _) hz)
  · cases h
def sp_first1 : List V → Mem → Option (V × Mem)
  | [x, .ptr p 0, .ptr q 0, .ptr r 0], m => (dec x : Option Zo).bind fun z => (boxI m p).bind fun a => (boxH m q).bind fun n => (boxI m r).map fun b => (.val (.bool (decide (z.st = a) && decide (b ≤ zRoom z n))), m)
  | _, _ => none
theorem sp_first1_ok : EOkL Try.prog n_log_first_1 sp_first1 := by
  intro args m v m' h
  unfold sp_first1 at h
  split at h
  · simp only [Option.bind_eq_some_iff, Option.map_eq_some_iff] at h
    obtain ⟨z, hz, a, ha, n, hn, b, hb, h⟩ := h
    cases h
    exact (c_first1 m _ _ _ a n b z ha hn hb).wk (wk_dec (WkL.refl _) hz)
  · cases h
/-- What a closure asks of a zone. -/
def zPred (f : FuncId) (cap : List V) (m : Mem) : Option (Zo → Bool) :=
  if f = n_dev_Check_1 then match cap with
    | [.ptr p 0] => (boxH m p).map fun n z => !zOk z n
    | _ => none
  else if f = n_log_first_1 then match cap with
    | [.ptr p 0, .ptr q 0, .ptr r 0] => (boxI m p).bind fun a => (boxH m q).bind fun n => (boxI m r).map fun b z => decide (z.st = a) && decide (b ≤ zRoom z n)
    | _ => none
  else none
def sp_zIdxF : List V → Mem → Option (V × Mem)
  | [a, .func f cap], m => (dec a : Option (List Zo)).bind fun l => (zPred f cap m).bind fun pr => if l.length ≤ 2 ^ 40 then some (.val (.int .i64 (zIdx pr l)), m) else none
  | _, _ => none
theorem sp_zIdxF_ok : EOkL Try.prog n_slices_IndexFunc_Zone sp_zIdxF := by
  intro args m v m' h
  unfold sp_zIdxF at h
  split at h
  · rename_i a f cap
    simp only [Option.bind_eq_some_iff] at h
    obtain ⟨l, hl, pr, hpr, h⟩ := h
    split at h
    · rename_i hll
      cases h
      unfold zPred at hpr
      split at hpr
      · rename_i hf
        subst hf
        split at hpr
        · simp only [Option.map_eq_some_iff] at hpr
          obtain ⟨n, hn, rfl⟩ := hpr
          refine (c_zIndexF _ _ sp_check1 sp_check1_ok m l _ hll fun z => ?_).wk (wk_dec (WkL.refl _) hl)
          simp only [sp_check1, Enc.de, Option.bind_some, hn, Option.map_some]
        · cases hpr
      split at hpr
      · rename_i hf
        subst hf
        split at hpr
        · simp only [Option.bind_eq_some_iff, Option.map_eq_some_iff] at hpr
          obtain ⟨a, ha, n, hn, b, hb, rfl⟩ := hpr
          refine (c_zIndexF _ _ sp_first1 sp_first1_ok m l _ hll fun z => ?_).wk (wk_dec (WkL.refl _) hl)
          simp only [sp_first1, Enc.de, Option.bind_some, ha, hn, hb, Option.map_some]
        · cases hpr
      · cases hpr
    · cases h
  · cases h
def De1 : Orc := Orc.nil.addL n_slices_IndexFunc_Zone sp_zIdxF
theorem De1_ok : OOk Try.prog De1 := OOk.nil.addL sp_zIdxF_ok
theorem c_zContF (m : Mem) (f : FuncId) (cap : List V) (pr : Zo → Bool) (hpr : zPred f cap m = some pr) (l : List Zo) (hl : l.length ≤ 2 ^ 40) :
    Loc Try.prog n_slices_ContainsFunc_Zone [enc l, .func f cap] m (enc (l.any pr)) m := by
  refine Loc.ofC De1_ok hm F_slices_ContainsFunc_Zone_ok (by simp [F_slices_ContainsFunc_Zone]) (.inl rfl) m.boxes.length m.tips.length (Nat.le_refl _) (Nat.le_refl _) fun hu => ?_
  have e := zIdx_nonneg pr l
  simp [F_slices_ContainsFunc_Zone, De1, sp_zIdxF, hpr, decX_map, hl, hu, e]
def sp_zContF : List V → Mem → Option (V × Mem)
  | [a, .func f cap], m => (dec a : Option (List Zo)).bind fun l => (zPred f cap m).bind fun pr => if l.length ≤ 2 ^ 40 then some (.val (.bool (l.any pr)), m) else none
  | _, _ => none
theorem sp_zContF_ok : EOkL Try.prog n_slices_ContainsFunc_Zone sp_zContF := by
  intro args m v m' h
  unfold sp_zContF at h
  split at h
  · simp only [Option.bind_eq_some_iff] at h
    obtain ⟨l, hl, pr, hpr, h⟩ := h
    split at h
    · rename_i hll
      cases h
      exact (c_zContF m _ _ pr hpr l hll).wk (wk_dec (WkL.refl _) hl)
    · cases h
  · cases h
def De2 : Orc := De1.addL n_slices_ContainsFunc_Zone sp_zContF
theorem De2_ok : OOk Try.prog De2 := De1_ok.addL sp_zContF_ok
theorem c_dCheck (d : Dv) (hl : d.zones.length ≤ 2 ^ 40) : Pure Try.prog n_dev_Check [enc d] (enc (dOk d)) [] := by
  refine Pure.ofC De2_ok hm F_dev_Check_ok (by simp [F_dev_Check]) rfl ?_
  obtain ⟨s, l, a, b, c⟩ := d
  simp only at hl
  cases h : l.any (fun z => !zOk z s) with
  | true => simp [F_dev_Check, De2, De1, sp_zContF, zPred, boxH, decX_map, hl, dOk, h]
  | false =>
    by_cases h1 : 0 < l.length
    · by_cases h2 : (l.length : Int) ≤ 64
      · have h2' : l.length ≤ 64 := by omega
        by_cases h3 : 0 < s
        · simp [F_dev_Check, De2, De1, sp_zContF, zPred, boxH, decX_map, hl, dOk, h, h1, h2, h2', h3]
        · simp [F_dev_Check, De2, De1, sp_zContF, zPred, boxH, decX_map, hl, dOk, h, h1, h2, h2', h3]
      · have h2' : ¬ l.length ≤ 64 := by omega
        simp [F_dev_Check, De2, De1, sp_zContF, zPred, boxH, decX_map, hl, dOk, h, h1, h2, h2']
    · have h1' : l = [] := by simpa using h1
      subst h1'
      simp [F_dev_Check, De2, De1, sp_zContF, zPred, boxH, dOk]
theorem c_logFirst (d : Dv) (a b : Int) (hl : d.zones.length ≤ 2 ^ 40) : Pure Try.prog n_log_first [enc d, enc a, enc b] (enc (zIdx (fun z => decide (z.st = a) && decide (b ≤ zRoom z d.size)) d.zones)) [] := by
  refine Pure.ofC De1_ok hm F_log_first_ok (by simp [F_log_first]) rfl ?_
  simp [F_log_first, De1, sp_zIdxF, zPred, boxH, boxI, decX_map, hl]
end Go.Av

namespace Go.Av
open Enc (enc dec)
open Cel (cs dc)
open Go.Proofs Pl

theorem stN_succ (q : Int) (l : List Zo) (i : Nat) (hi : i < l.length) : stN q (l.take (i + 1)) = stN q (l.take i) + (if l[i].st = q then 1 else 0) := by
  have hg : l[i]? = some l[i] := List.getElem?_eq_getElem hi
  unfold stN
  rw [List.take_add_one, hg, List.countP_append]
  simp [List.countP_cons]
theorem stN_le (q : Int) (l : List Zo) : stN q l ≤ l.length := List.countP_le_length
def OpenI (l : List Zo) (q : Int) (k : Nat) (s : Nat → V) (m : Mem) : Prop :=
  ∃ (i : Nat), i + k = l.length ∧ s 6 = .lit 4 (l.map cs) ∧ s 7 = .val (.int .i64 l.length) ∧ s 8 = .val (.int .i64 i) ∧ s 2 = .val (.int .i64 (stN q (l.take i) : Nat))
theorem c_dOpen (d : Dv) (hl : d.zones.length ≤ 2 ^ 40) : Pure Try.prog n_dev_Open [enc d] (enc (stN 1 d.zones : Int)) [] := by
  refine Pure.ofC OOk.nil hm F_dev_Open_ok (by simp [F_dev_Open]) rfl ?_
  obtain ⟨sz, l, a, b, c⟩ := d
  simp only at hl ⊢
  simp [F_dev_Open]
  refine wp_loop (OpenI l 1) l.length (IW.of ⟨0, by omega, by simp, by simp, by simp, by simp [stN]⟩) fun k s m ⟨i, hik, h6, h7, h8, h2⟩ => ?_
  by_cases hi : i < l.length
  · have hg : l[i]? = some l[i] := List.getElem?_eq_getElem hi
    have w1 := IntWalk.i64_in ((i : Int) + 1) (by omega)
    have h3 := stN_le 1 (l.take i)
    have h4 : (l.take i).length ≤ i := by simp; omega
    have w2 := IntWalk.i64_in ((stN 1 (l.take i) : Int) + 1) (by omega)
    have e := stN_succ 1 l i hi
    by_cases hx : l[i].st = 1
    · simp only [hx, if_true] at e
      simp [F_dev_Open_L0, h6, h7, h8, h2, hi, hg, hx, w1, w2]
      exact ⟨k - 1, by omega, IW.of (show OpenI l 1 _ _ _ from ⟨i + 1, by omega, by simpa using h6, by simpa using h7, by simp, by simp [e]⟩)⟩
    · simp only [hx, if_false, Nat.add_zero] at e
      simp [F_dev_Open_L0, h6, h7, h8, h2, hi, hg, hx, w1]
      exact ⟨k - 1, by omega, IW.of (show OpenI l 1 _ _ _ from ⟨i + 1, by omega, by simpa using h6, by simpa using h7, by simp, by simp [e, h2]⟩)⟩
  · have e : l.take i = l := List.take_of_length_le (by omega)
    rw [e] at h2
    simp [F_dev_Open_L0, h6, h7, h8, h2, hi]
theorem c_lEmpty (d : Dv) (hl : d.zones.length ≤ 2 ^ 40) : Pure Try.prog n_log_Empty [enc d] (enc (stN 0 d.zones : Int)) [] := by
  refine Pure.ofC OOk.nil hm F_log_Empty_ok (by simp [F_log_Empty]) rfl ?_
  obtain ⟨sz, l, a, b, c⟩ := d
  simp only at hl ⊢
  simp [F_log_Empty]
  refine wp_loop (OpenI l 0) l.length (IW.of ⟨0, by omega, by simp, by simp, by simp, by simp [stN]⟩) fun k s m ⟨i, hik, h6, h7, h8, h2⟩ => ?_
  by_cases hi : i < l.length
  · have hg : l[i]? = some l[i] := List.getElem?_eq_getElem hi
    have w1 := IntWalk.i64_in ((i : Int) + 1) (by omega)
    have h3 := stN_le 0 (l.take i)
    have h4 : (l.take i).length ≤ i := by simp; omega
    have w2 := IntWalk.i64_in ((stN 0 (l.take i) : Int) + 1) (by omega)
    have e := stN_succ 0 l i hi
    by_cases hx : l[i].st = 0
    · simp only [hx, if_true] at e
      simp [F_log_Empty_L0, h6, h7, h8, h2, hi, hg, hx, w1, w2]
      exact ⟨k - 1, by omega, IW.of (show OpenI l 0 _ _ _ from ⟨i + 1, by omega, by simpa using h6, by simpa using h7, by simp, by simp [e]⟩)⟩
    · simp only [hx, if_false, Nat.add_zero] at e
      simp [F_log_Empty_L0, h6, h7, h8, h2, hi, hg, hx, w1]
      exact ⟨k - 1, by omega, IW.of (show OpenI l 0 _ _ _ from ⟨i + 1, by omega, by simpa using h6, by simpa using h7, by simp, by simp [e, h2]⟩)⟩
  · have e : l.take i = l := List.take_of_length_le (by omega)
    rw [e] at h2
    simp [F_log_Empty_L0, h6, h7, h8, h2, hi]
def dNew (n s : Int) : Dv := if n < 1 ∨ 64 < n ∨ s < 1 ∨ 1048576 < s then ⟨0, [], 0, false, 0⟩ else ⟨s, List.replicate n.toNat ⟨0, 0, [], 0⟩, -1, false, 0⟩
def dNewE (n s : Int) : Int := if n < 1 ∨ 64 < n ∨ s < 1 ∨ 1048576 < s then 1 else 0
theorem c_dNew (n s : Int) : Pure Try.prog n_dev_New [enc n, enc s] (.tuple [enc (dNew n s), enc (dNewE n s)]) [] := by
  refine Pure.ofC OOk.nil hm F_dev_New_ok (by simp [F_dev_New]) (by simp [V.res, V.res1]) ?_
  by_cases h1 : n < 1
  · simp [F_dev_New, h1, dNew, dNewE]
  by_cases h2 : 64 < n
  · simp [F_dev_New, h1, h2, dNew, dNewE]
  by_cases h3 : s < 1
  · simp [F_dev_New, h1, h2, h3, dNew, dNewE]
  by_cases h4 : 1048576 < s
  · simp [F_dev_New, h1, h2, h3, h4, dNew, dNewE]
  simp [F_dev_New, h1, h2, h3, h4, dNew, dNewE]
  omega
/-- The commands' functions, by kinds. -/
def doesM : List (Int × V) := [(1, .func n_dev_command_append []), (2, .func n_dev_command_reset []), (3, .func n_dev_command_finish []), (4, .func n_dev_command_close [])]
theorem c_does (m : Mem) : ∃ kvs, (∀ k, mpAt kvs k = mpAt doesM k) ∧ Loc Try.prog n_dev_does [] m (.ref .map m.boxes.length) ⟨m.boxes ++ [mpV kvs], m.tips⟩ := by
  refine ⟨mpPut (mpPut (mpPut (mpPut [] 1 (.func n_dev_command_append [])) 2 (.func n_dev_command_reset [])) 3 (.func n_dev_command_finish [])) 4 (.func n_dev_command_close []), fun k => ?_, ?_⟩
  · rfl
  · refine Loc.ofX OOk.nil hm F_dev_does_ok (by simp [F_dev_does]) ?_
    simp [F_dev_does]
end Go.Av

namespace Go.Av
open Enc (enc dec)
open Cel (cs dc)
open Go.Proofs Pl

/-- The cells of zones. -/
def zC (l : List Zo) : List V := (l.map cs).flatten
theorem cs4 (z : Zo) : (cs z : List V).length = 4 := rfl
theorem zC_nil : zC [] = [] := rfl
theorem zC_cons (z : Zo) (l : List Zo) : zC (z :: l) = cs z ++ zC l := rfl
theorem zC_app (a b : List Zo) : zC (a ++ b) = zC a ++ zC b := by simp [zC]
theorem zC_length : ∀ (l : List Zo), (zC l).length = l.length * 4
  | [] => rfl
  | z :: l => by rw [zC_cons, List.length_append, zC_length l, cs4, List.length_cons]; omega
theorem zC_split (l : List Zo) (i : Nat) (hi : i < l.length) : zC l = zC (l.take i) ++ (cs l[i] ++ zC (l.drop (i + 1))) := by
  have : l = l.take i ++ l[i] :: l.drop (i + 1) := by simp
  rw [← zC_cons, ← zC_app]
  exact congrArg zC this
theorem zC_take_len (l : List Zo) (i : Nat) (hi : i < l.length) : (zC (l.take i)).length = i * 4 := by rw [zC_length, List.length_take, Nat.min_eq_left (by omega)]
theorem zC_drop (l : List Zo) (i k : Nat) (hi : i < l.length) : (zC l).drop (i * 4 + k) = (cs l[i] ++ zC (l.drop (i + 1))).drop k := by
  rw [zC_split l i hi, ← zC_take_len l i hi, List.drop_append, List.drop_eq_nil_of_le (by omega), Nat.add_sub_cancel_left]
  rfl
theorem zC_set (l : List Zo) (i : Nat) (hi : i < l.length) (z : Zo) : (zC l).take (i * 4) ++ cs z ++ (zC l).drop (i * 4 + 4) = zC (l.set i z) := by
  rw [zC_drop l i 4 hi]
  have h1 : (zC l).take (i * 4) = zC (l.take i) := by rw [zC_split l i hi, ← zC_take_len l i hi, List.take_left']; rfl
  have h2 : (cs l[i] ++ zC (l.drop (i + 1))).drop 4 = zC (l.drop (i + 1)) := by rw [← cs4 l[i], List.drop_left']; rfl
  rw [h1, h2, List.append_assoc, ← zC_cons, ← zC_app, List.set_eq_take_append_cons_drop, if_pos hi]
theorem zC_set2 (l : List Zo) (i : Nat) (hi : i < l.length) : (zC l).take (i * 4 + 2) ++ [.lit 1 (l[i].data.map cs)] ++ (zC l).drop (i * 4 + 2 + 1) = zC l := by
  have h3 : (zC l)[i * 4 + 2]? = some (.lit 1 (l[i].data.map cs)) := by
    have := congrArg (·[0]?) (zC_drop l i 2 hi)
    simpa using this
  have hlt := lt_of_some h3
  have h4 : (zC l)[i * 4 + 2] = .lit 1 (l[i].data.map cs) := by
    rw [List.getElem?_eq_getElem hlt] at h3
    exact Option.some.inj h3
  rw [List.append_assoc, ← h4]
  simp
theorem chunk_zC (l : List Zo) : chunkV 4 l.length (zC l) = l.map cs := by
  have := chunkV_of (sz := 4) (l.map cs) (by intro e he; obtain ⟨z, _, rfl⟩ := List.mem_map.1 he; rfl) []
  simpa [zC] using this

/-- Of zones in a box. -/
def rdZ (m : Mem) : V → Option (List Zo)
  | .ref (.sli 0 4 n) b => (m.boxes[b]?).bind fun c => if c.length = n * 4 then decX (chunkV 4 n (c.map V.top1)) else none
  | _ => none
def rdD (m : Mem) : V → Option Dv
  | .agg [a, z, b, c, d] => (dec a).bind fun a => (rdZ m z).bind fun z => (dec b).bind fun b => (dec c).bind fun c => (dec d).bind fun d => some ⟨a, z, b, c, d⟩
  | _ => none
theorem zC_top1 : ∀ l : List Zo, (zC l).map V.top1 = zC l
  | [] => rfl
  | z :: l => by
    rw [zC_cons, List.map_append, zC_top1 l]
    rfl
theorem rdZ_of {m : Mem} {b : Nat} {l : List Zo} {n : Nat} (hn : n = l.length) (h : m.boxes[b]? = some (zC l)) : rdZ m (.ref (.sli 0 4 n) b) = some l := by
  subst hn
  simp only [rdZ, h, Option.bind_some, zC_length, if_true, zC_top1, chunk_zC, decX_map]
theorem rdZ_unref {m : Mem} {v : V} {l : List Zo} (h : rdZ m v = some l) : dec (unref1 0 m v) = some l := by
  unfold rdZ at h
  split at h
  · rename_i n b
    simp only [Option.bind_eq_some_iff] at h
    obtain ⟨c, hc, h⟩ := h
    split at h
    · rename_i hl
      have ho : isObj c = false := by
        unfold isObj
        split
        · simp at hl; omega
        · rfl
      simp only [unref1, hc]
      rw [if_pos ⟨Nat.zero_le _, ho, by omega⟩, List.drop_zero]
      exact h
    · cases h
  · cases h
theorem unref1_nr (m : Mem) (v : V) (h : ∀ k b, v ≠ .ref k b) : unref1 0 m v = v := by
  unfold unref1
  split
  · exact absurd rfl (h _ _)
  · rfl
theorem dec_int_nr {v : V} {n : Int} (h : dec v = some n) (k : Rk) (b : Nat) : v ≠ .ref k b := by rintro rfl; cases h
theorem dec_bool_nr {v : V} {n : Bool} (h : dec v = some n) (k : Rk) (b : Nat) : v ≠ .ref k b := by rintro rfl; cases h
theorem rdD_unref {m : Mem} {v : V} {d : Dv} (h : rdD m v = some d) : dec (unref 0 m v) = some d := by
  unfold rdD at h
  split at h
  · rename_i a z b c e
    simp only [Option.bind_eq_some_iff] at h
    obtain ⟨a', ha, z', hz, b', hb, c', hc, e', he, h⟩ := h
    simp only [unref, unrefA, List.map_cons, List.map_nil, unref1_nr m a (dec_int_nr ha), unref1_nr m b (dec_int_nr hb), unref1_nr m c (dec_bool_nr hc), unref1_nr m e (dec_int_nr he), dec_dv, dc_dv, ha, hb, hc, he, rdZ_unref hz, Option.bind_some]
    exact h
  · cases h
/-- Functions that read such a device. -/
def sp_rd {α : Type} [Enc α] (f : Dv → α) : List V → Mem → Option (V × Mem)
  | [v], m => (rdD m v).bind fun d => if d.zones.length ≤ 2 ^ 40 then some (enc (f d), m) else none
  | _, _ => none
theorem sp_rd_ok {α : Type} [Enc α] {n : FuncId} {f : Dv → α} (hs : ∀ a : α, scal (enc a) = true) (h : ∀ d : Dv, d.zones.length ≤ 2 ^ 40 → Pure Try.prog n [enc d] (enc (f d)) []) : EOkL Try.prog n (sp_rd f) := by
  intro args m v m' hh
  unfold sp_rd at hh
  split at hh
  · simp only [Option.bind_eq_some_iff] at hh
    obtain ⟨d, hd, hh⟩ := hh
    split at hh
    · rename_i hl
      cases hh
      exact Pure.lend (h d hl) (wk_dec (WkL.refl _) (rdD_unref hd)) (by simp [clean_cs]) (hs _)
    · cases hh
  · cases hh
theorem sp_openL_ok : EOkL Try.prog n_dev_Open (sp_rd fun d => (stN 1 d.zones : Int)) := sp_rd_ok (fun _ => rfl) c_dOpen
theorem sp_checkL_ok : EOkL Try.prog n_dev_Check (sp_rd dOk) := sp_rd_ok (fun _ => rfl) c_dCheck

/-- Zones copied to a box. -/
theorem c_zClone (m : Mem) (l : List Zo) (hne : l ≠ []) (hl : l.length ≤ 2 ^ 40) : Loc Try.prog n_slices_Clone_Zone [enc l] m (.ref (.sli 0 4 l.length) m.boxes.length) ⟨m.boxes ++ [zC l], m.tips⟩ := by
  refine Loc.ofX OOk.nil hm F_slices_Clone_Zone_ok (by simp [F_slices_Clone_Zone]) ?_
  obtain ⟨z, r, rfl⟩ := List.exists_cons_of_ne_nil hne
  simp at hl
  simp [F_slices_Clone_Zone, zC]
  omega
def sp_zClone : List V → Mem → Option (V × Mem)
  | [v], m => (dec v : Option (List Zo)).bind fun l => if l ≠ [] ∧ l.length ≤ 2 ^ 40 then some (.ref (.sli 0 4 l.length) m.boxes.length, ⟨m.boxes ++ [zC l], m.tips⟩) else none
  | _, _ => none
theorem sp_zClone_ok : EOkL Try.prog n_slices_Clone_Zone sp_zClone := by
  intro args m v m' h
  unfold sp_zClone at h
  split at h
  · simp only [Option.bind_eq_some_iff] at h
    obtain ⟨l, hl, h⟩ := h
    split at h
    · rename_i hc
      cases h
      exact (c_zClone m l hc.1 hc.2).wk (wk_dec (WkL.refl _) hl)
    · cases h
  · cases h
end Go.Av

namespace Go.Av.Pl
/-- What a command does to a zone. -/
def dCmd (k : Int) (d : Dv) (z : Zo) (b : List UInt8) : Zo × Int :=
  if k = 1 then (if z.st ≠ 1 ∧ 3 ≤ stN 1 d.zones then (z, 30) else zApp z d.size b) else if k = 2 then zRes z else if k = 3 then zFin z else zClo z
end Go.Av.Pl
namespace Go.Av
open Enc (enc dec)
open Cel (cs dc)
open Go.Proofs Pl

theorem Mem.le_app (m : Mem) (bs : List (List V)) (t : List Tip) : m.le ⟨m.boxes ++ bs, t⟩ := fun b cs h => by
  rw [List.getElem?_append_left (lt_of_some h)]; exact h
theorem rdZ_le {m m1 : Mem} (h : m.le m1) {v : V} {l : List Zo} (hr : rdZ m v = some l) : rdZ m1 v = some l := by
  unfold rdZ at hr ⊢
  split at hr
  · rename_i n b
    simp only [Option.bind_eq_some_iff] at hr
    obtain ⟨c, hc, hr⟩ := hr
    simp only [h b c hc, Option.bind_some]
    exact hr
  · cases hr
theorem rdD_le {m m1 : Mem} (h : m.le m1) {v : V} {d : Dv} (hr : rdD m v = some d) : rdD m1 v = some d := by
  unfold rdD at hr ⊢
  split at hr
  · simp only [Option.bind_eq_some_iff] at hr
    obtain ⟨a, ha, z, hz, r⟩ := hr
    simp only [ha, rdZ_le h hz, Option.bind_some, Option.bind_eq_some_iff]
    exact r
  · cases hr
theorem dec_int_eq {v : V} {n : Int} (h : dec v = some n) : v = .val (.int .i64 n) := by
  cases v with
  | val x => cases x with
    | int k i => cases k <;> first | (cases h; rfl) | cases h
    | _ => cases h
  | _ => cases h
theorem dec_bool_eq {v : V} {n : Bool} (h : dec v = some n) : v = .val (.bool n) := by
  cases v with
  | val x => cases x with
    | bool b => cases h; rfl
    | _ => cases h
  | _ => cases h
/-- A device's box. -/
def dvAt (m : Mem) (p : Nat) : Option Dv := (m.boxes[p]?).bind fun c => rdD m (.agg c)
theorem dvAt_some {m : Mem} {p : Nat} {d : Dv} (h : dvAt m p = some d) : ∃ z, m.boxes[p]? = some [.val (.int .i64 d.size), z, .val (.int .i64 d.left), .val (.bool d.down), .val (.int .i64 d.done)] ∧ rdZ m z = some d.zones ∧ rdD m (.agg [.val (.int .i64 d.size), z, .val (.int .i64 d.left), .val (.bool d.down), .val (.int .i64 d.done)]) = some d := by
  unfold dvAt at h
  simp only [Option.bind_eq_some_iff] at h
  obtain ⟨c, hc, h⟩ := h
  have h0 := h
  unfold rdD at h
  split at h
  · rename_i e
    cases e
    simp only [Option.bind_eq_some_iff] at h
    obtain ⟨a, ha, z, hz, b, hb, c', hc', e, he, h⟩ := h
    cases h
    have e1 := dec_int_eq ha
    have e2 := dec_int_eq hb
    have e3 := dec_bool_eq hc'
    have e4 := dec_int_eq he
    subst e1 e2 e3 e4
    exact ⟨_, hc, hz, h0⟩
  · cases h
theorem dvAt_le {m m1 : Mem} (h : m.le m1) {p : Nat} {d : Dv} (hr : dvAt m p = some d) : dvAt m1 p = some d := by
  unfold dvAt at hr ⊢
  simp only [Option.bind_eq_some_iff] at hr
  obtain ⟨c, hc, hr⟩ := hr
  simp only [h p c hc, Option.bind_some]
  exact rdD_le h hr
@[simp] def sp_zAppend (z : Zo) (n : Int) (b : List UInt8) : Option (V × List Tip) := if z.data.length ≤ 2 ^ 30 ∧ b.length ≤ 2 ^ 30 then some (.tuple [enc (zApp z n b).1, enc (zApp z n b).2], []) else none
theorem sp_zAppend_ok : EOk Try.prog n_zone_Append (sp3 sp_zAppend) := sp3_ok fun z n b r h => by
  simp only [sp_zAppend] at h
  split at h
  · rename_i hc
    cases h
    exact c_zAppend z n b hc.1 hc.2
  · cases h
@[simp] def sp_zUn (f : Zo → Zo × Int) (z : Zo) : Option (V × List Tip) := if z.data.length ≤ 2 ^ 30 then some (.tuple [enc (f z).1, enc (f z).2], []) else none
theorem sp_zUn_ok {n : FuncId} {f : Zo → Zo × Int} (hc : ∀ z : Zo, z.data.length ≤ 2 ^ 30 → Pure Try.prog n [enc z] (.tuple [enc (f z).1, enc (f z).2]) []) : EOk Try.prog n (sp1 (sp_zUn f)) := sp1_ok fun z r h => by
  simp only [sp_zUn] at h
  split at h
  · cases h
    exact hc z (by assumption)
  · cases h
def Dh1 : Orc := (Orc.nil.add n_zone_Append (sp3 sp_zAppend)).addL n_dev_Open (sp_rd fun d => (stN 1 d.zones : Int))
theorem Dh1_ok : OOk Try.prog Dh1 := (OOk.nil.add sp_zAppend_ok).addL sp_openL_ok
theorem c_capp (m : Mem) (p : Nat) (c : Rec) (z : Zo) (d : Dv) (hd : dvAt m p = some d) (hl : d.zones.length ≤ 2 ^ 40) (hz : z.data.length ≤ 2 ^ 30) (hb : c.body.length ≤ 2 ^ 30) :
    Loc Try.prog n_dev_command_append [enc c, .ptr p 0, enc z] m (.tuple [enc (dCmd 1 d z c.body).1, enc (dCmd 1 d z c.body).2]) m := by
  refine Loc.ofC Dh1_ok hm F_dev_command_append_ok (by simp [F_dev_command_append]) (.inr ⟨_, rfl, by simp [clean_cs]⟩) m.boxes.length m.tips.length (Nat.le_refl _) (Nat.le_refl _) fun hu => ?_
  obtain ⟨zv, hp, hzv, hrd⟩ := dvAt_some hd
  have hpl : p < m.boxes.length := lt_of_some hp
  have f1 : ∀ (b : List (List V)), (m.boxes ++ b)[p]? = m.boxes[p]? := fun b => List.getElem?_append_left hpl
  have f2 : ∀ (b : List (List V)) (t : List Tip), rdD ⟨m.boxes ++ b, t⟩ (.agg [.val (.int .i64 d.size), zv, .val (.int .i64 d.left), .val (.bool d.down), .val (.int .i64 d.done)]) = some d := fun b t => rdD_le (Mem.le_app m b t) hrd
  clear hpl
  obtain ⟨k, n, b⟩ := c
  obtain ⟨x, r, y, la⟩ := z
  simp at hz hb hl
  by_cases h1 : x = 1
  · subst h1
    simp [F_dev_command_append, Dh1, f1, f2, hp, hu, box_new, box_new2, box_set, sp_rd, hl, hz, hb, dCmd, decX_cs, clean_cs, isObj_int]
  · by_cases h2 : 3 ≤ (stN 1 d.zones : Int)
    · have h2' : 3 ≤ stN 1 d.zones := by omega
      simp [F_dev_command_append, Dh1, f1, f2, hp, hu, box_new, box_new2, box_set, sp_rd, hl, hz, hb, dCmd, decX_cs, clean_cs, isObj_int, h1, h2, h2']
    · have h2' : ¬ 3 ≤ stN 1 d.zones := by omega
      simp [F_dev_command_append, Dh1, f1, f2, hp, hu, box_new, box_new2, box_set, sp_rd, hl, hz, hb, dCmd, decX_cs, clean_cs, isObj_int, h1, h2, h2']
theorem c_creset (m : Mem) (v : V) (c : Rec) (z : Zo) (hz : z.data.length ≤ 2 ^ 30) : Loc Try.prog n_dev_command_reset [enc c, v, enc z] m (.tuple [enc (zRes z).1, enc (zRes z).2]) m := by
  refine Loc.ofC (OOk.nil.add (sp_zUn_ok c_zReset)) hm F_dev_command_reset_ok (by simp [F_dev_command_reset]) (.inr ⟨_, rfl, by simp [clean_cs]⟩) m.boxes.length m.tips.length (Nat.le_refl _) (Nat.le_refl _) fun hu => ?_
  obtain ⟨k, n, b⟩ := c
  obtain ⟨x, r, y, la⟩ := z
  simp at hz
  simp [F_dev_command_reset, hu, box_new, box_new2, box_set, hz, decX_cs, clean_cs, isObj_int]
theorem c_cfinish (m : Mem) (v : V) (c : Rec) (z : Zo) (hz : z.data.length ≤ 2 ^ 30) : Loc Try.prog n_dev_command_finish [enc c, v, enc z] m (.tuple [enc (zFin z).1, enc (zFin z).2]) m := by
  refine Loc.ofC (OOk.nil.add (sp_zUn_ok c_zFinish)) hm F_dev_command_finish_ok (by simp [F_dev_command_finish]) (.inr ⟨_, rfl, by simp [clean_cs]⟩) m.boxes.length m.tips.length (Nat.le_refl _) (Nat.le_refl _) fun hu => ?_
  obtain ⟨k, n, b⟩ := c
  obtain ⟨x, r, y, la⟩ := z
  simp at hz
  simp [F_dev_command_finish, hu, box_new, box_new2, box_set, hz, decX_cs, clean_cs, isObj_int]
theorem c_cclose (m : Mem) (v : V) (c : Rec) (z : Zo) (hz : z.data.length ≤ 2 ^ 30) : Loc Try.prog n_dev_command_close [enc c, v, enc z] m (.tuple [enc (zClo z).1, enc (zClo z).2]) m := by
  refine Loc.ofC (OOk.nil.add (sp_zUn_ok c_zClose)) hm F_dev_command_close_ok (by simp [F_dev_command_close]) (.inr ⟨_, rfl, by simp [clean_cs]⟩) m.boxes.length m.tips.length (Nat.le_refl _) (Nat.le_refl _) fun hu => ?_
  obtain ⟨k, n, b⟩ := c
  obtain ⟨x, r, y, la⟩ := z
  simp at hz
  simp [F_dev_command_close, hu, box_new, box_new2, box_set, hz, decX_cs, clean_cs, isObj_int]
def sp_cmd (k : Int) : List V → Mem → Option (V × Mem)
  | [c, .ptr p 0, z], m => (dec c : Option Rec).bind fun c => (dec z : Option Zo).bind fun z => (dvAt m p).bind fun d => if d.zones.length ≤ 2 ^ 40 ∧ z.data.length ≤ 2 ^ 30 ∧ c.body.length ≤ 2 ^ 30 then
      some (.tuple [enc (dCmd k d z c.body).1, enc (dCmd k d z c.body).2], m) else none
  | _, _ => none
theorem sp_cmd_ok {n : FuncId} {k : Int} (hc : ∀ (m : Mem) (p : Nat) (c : Rec) (z : Zo) (d : Dv), dvAt m p = some d → d.zones.length ≤ 2 ^ 40 → z.data.length ≤ 2 ^ 30 → c.body.length ≤ 2 ^ 30 →
    Loc Try.prog n [enc c, .ptr p 0, enc z] m (.tuple [enc (dCmd k d z c.body).1, enc (dCmd k d z c.body).2]) m) : EOkL Try.prog n (sp_cmd k) := by
  intro args m v m' h
  unfold sp_cmd at h
  split at h
  · rename_i c p z
    simp only [Option.bind_eq_some_iff] at h
    obtain ⟨c', hc', z', hz', d, hd, h⟩ := h
    split at h
    · rename_i hb
      cases h
      have h1 := hc m p c' z' d hd hb.1 hb.2.1 hb.2.2
      refine h1.wk (wk_dec ?_ hc')
      intro M w us hr
      obtain ⟨x, r, rfl, k1, k2⟩ := hr
      exact ⟨x, r, rfl, k1, wk_dec (WkL.refl _) hz' M w r k2⟩
    · cases h
  · cases h
theorem sp_capp_ok : EOkL Try.prog n_dev_command_append (sp_cmd 1) := sp_cmd_ok c_capp
theorem sp_cres_ok : EOkL Try.prog n_dev_command_reset (sp_cmd 2) := sp_cmd_ok fun m p c z d _ _ hz _ => c_creset m (.ptr p 0) c z hz
theorem sp_cfin_ok : EOkL Try.prog n_dev_command_finish (sp_cmd 3) := sp_cmd_ok fun m p c z d _ _ hz _ => c_cfinish m (.ptr p 0) c z hz
theorem sp_cclo_ok : EOkL Try.prog n_dev_command_close (sp_cmd 4) := sp_cmd_ok fun m p c z d _ _ hz _ => c_cclose m (.ptr p 0) c z hz
end Go.Av

namespace Go.Av
open Enc (enc dec)
open Cel (cs dc)
open Go.Proofs Pl

theorem underL_app {k j : Nat} : ∀ {a b : List V}, underL k j (a ++ b) = (underL k j a && underL k j b)
  | [], b => rfl
  | x :: a, b => by simp only [List.cons_append, underL, underL_app (a := a), Bool.and_assoc]
theorem zC_under (k j : Nat) : ∀ l : List Zo, underL k j (zC l) = true
  | [] => rfl
  | z :: l => by
    rw [zC_cons, underL_app, zC_under k j l]
    simp [under_cs]
theorem zC_obj (l : List Zo) : isObj (zC l) = false := by
  cases l with
  | nil => rfl
  | cons z l => rfl
/-- A device in two boxes. -/
structure DB (m : Mem) (p zb : Nat) (d : Dv) : Prop where
  hp : m.boxes[p]? = some [.val (.int .i64 d.size), .ref (.sli 0 4 d.zones.length) zb, .val (.int .i64 d.left), .val (.bool d.down), .val (.int .i64 d.done)]
  hz : m.boxes[zb]? = some (zC d.zones)
theorem DB.at {m : Mem} {p zb : Nat} {d : Dv} (h : DB m p zb d) : dvAt m p = some d := by
  unfold dvAt
  rw [h.hp, Option.bind_some]
  unfold rdD
  simp only [rdZ_of rfl h.hz, Option.bind_some, dec_int, dec_bool]
theorem DB.app {m : Mem} {p zb : Nat} {d : Dv} (h : DB m p zb d) (bs : List (List V)) (t : List Tip) : DB ⟨m.boxes ++ bs, t⟩ p zb d := ⟨Mem.le_app m bs t _ _ h.hp, Mem.le_app m bs t _ _ h.hz⟩
/-- What may be in a device. -/
structure DSm (d : Dv) : Prop where
  n : d.zones.length ≤ 2 ^ 40
  z : ∀ z ∈ d.zones, z.data.length ≤ 2 ^ 30
def doesK : List (Int × V) := mpPut (mpPut (mpPut (mpPut [] 1 (.func n_dev_command_append [])) 2 (.func n_dev_command_reset [])) 3 (.func n_dev_command_finish [])) 4 (.func n_dev_command_close [])
def sp_does : List V → Mem → Option (V × Mem)
  | [], m => some (.ref .map m.boxes.length, ⟨m.boxes ++ [mpV doesK], m.tips⟩)
  | _, _ => none
theorem sp_does_ok : EOkL Try.prog n_dev_does sp_does := by
  intro args m v m' h
  unfold sp_does at h
  split at h
  · cases h
    refine Loc.ofX OOk.nil hm F_dev_does_ok (by simp [F_dev_does]) ?_
    simp [F_dev_does, doesK]
  · cases h
section
variable {q : Bool} {D : Orc} {x x' : V} {args : List V} {m : Mem} {F : V → Mem → Prop}
@[congr] theorem callrW_congr (h : NF x = x') : callrW q D x args m F = callrW q D x' args m F := by rw [← h]; rfl
@[simp] theorem callrW_func {f : FuncId} {cap : List V} : callrW q D (.func f cap) args m F = ((q = false ∧ D.isLoc f = true) ∧ goWp (D.loc f (args ++ cap) m) fun v m' => (m' = m ∧ ∀ m1, m.le m1 → D.loc f (args ++ cap) m1 = some (v, m1)) ∧ F v m') := Eq.trans rfl rfl
end
@[simp] theorem addL_loc (D : Orc) (n : FuncId) (sp : List V → Mem → Option (V × Mem)) : (D.addL n sp).loc n = sp := if_pos rfl
@[simp] theorem addL_isLoc (D : Orc) (n : FuncId) (sp : List V → Mem → Option (V × Mem)) : (D.addL n sp).isLoc n = true := if_pos rfl
theorem sp_cmd_at {k : Int} {m : Mem} {p : Nat} {d : Dv} (h : dvAt m p = some d) {a b : Int} {c : List UInt8} {z : Zo} (hn : d.zones.length ≤ 2 ^ 40) (hz : z.data.length ≤ 2 ^ 30) (hb : c.length ≤ 2 ^ 30) :
    sp_cmd k [.agg [.val (.int .i64 a), .val (.int .i64 b), .lit 1 (c.map cs)], .ptr p 0, .agg [.val (.int .i64 z.st), .val (.int .i64 z.rs), .lit 1 (z.data.map cs), .val (.int .i64 z.la)]] m = some (.tuple [enc (dCmd k d z c).1, enc (dCmd k d z c).2], m) := by
  have h1 := Enc.de (⟨a, b, c⟩ : Rec)
  have h2 := Enc.de z
  rw [enc_rec] at h1
  rw [enc_zo] at h2
  simp only [sp_cmd, h1, h2, h, Option.bind_some]
  rw [if_pos ⟨hn, hz, hb⟩]
theorem c_dDone1 (k : Int) (fid : FuncId) (hk5 : ¬ k = 5) (hk : mpAt doesK k = some (.func fid [])) (he : EOkL Try.prog fid (sp_cmd k)) (hf : ¬ 160 = fid) (m : Mem) (p zb : Nat) (d : Dv) (h : DB m p zb d) (hpz : zb ≠ p) (hs : DSm d) (i : Nat) (b : List UInt8) (hi : i < d.zones.length) (hb : b.length ≤ 2 ^ 30) (z' : Zo) (hc : dCmd k d d.zones[i] b = (z', 0)) :
    Loc Try.prog n_dev_done [.ptr p 0, enc (⟨k, i, b⟩ : Rec)] m (.val (.int .i64 0)) ⟨m.boxes.set zb (zC (d.zones.set i z')), m.tips⟩ := by
  refine Loc.ofC ((OOk.nil.addL sp_does_ok).addL he) hm F_dev_done_ok (by simp [F_dev_done]) (.inl rfl) m.boxes.length m.tips.length (Nat.le_refl _) (Nat.le_refl _) fun hu => ?_
  have hzl := lt_of_some h.hz
  have f1 : ∀ (b : List (List V)), (m.boxes ++ b)[p]? = m.boxes[p]? := fun b => List.getElem?_append_left (lt_of_some h.hp)
  have f2 : ∀ (b : List (List V)), (m.boxes ++ b)[zb]? = m.boxes[zb]? := fun b => List.getElem?_append_left (lt_of_some h.hz)
  have f3 : ∀ (b : List (List V)) (x : List V), (m.boxes ++ b).set zb x = m.boxes.set zb x ++ b := fun b x => List.set_append_left zb x hzl
  have f4 : ∀ (b : List (List V)) (x : List V), (m.boxes.set zb x ++ b).take m.boxes.length = m.boxes.set zb x := fun b x => by rw [← (List.length_set : (m.boxes.set zb x).length = m.boxes.length), List.take_left']; rfl
  have hU := underX_set (p := zb) hu (zC_under m.boxes.length m.tips.length (d.zones.set i z'))
  have g0 := zC_drop d.zones i 0 hi
  have g1 := zC_set d.zones i hi z'
  have g2 : i * 4 + 4 ≤ (zC d.zones).length := by rw [zC_length]; omega
  have hp := h.hp
  have hz := h.hz
  have hiI : (i : Int) < d.zones.length := by omega
  have hzd := hs.z _ (List.getElem_mem hi)
  have hB : ∀ (bs : List (List V)) (t : List Tip) (m1 : Mem), (⟨m.boxes ++ bs, t⟩ : Mem).le m1 → sp_cmd k [.agg [.val (.int .i64 k), .val (.int .i64 i), .lit 1 (b.map cs)], .ptr p 0, .agg [.val (.int .i64 d.zones[i].st), .val (.int .i64 d.zones[i].rs), .lit 1 (d.zones[i].data.map cs), .val (.int .i64 d.zones[i].la)]] m1 = some (.tuple [enc z', .val (.int .i64 0)], m1) := fun bs t m1 hle => by
    rw [sp_cmd_at (dvAt_le hle (h.app bs t).at) hs.n hzd hb, hc]
    rfl
  have hB0 := fun bs t => hB bs t ⟨m.boxes ++ bs, t⟩ (Mem.le_refl _)
  simp at g0 g1 hB hB0
  clear hzl
  simp [F_dev_done, f1, f2, f3, f4, hp, hz, box_new, box_new2, box_set, sp_does, hf, hk, hk5, hi, hiI, zC_obj, g0, g1, g2, hB0, hU]
  exact fun m1 hle => hB _ _ m1 hle
end Go.Av

namespace Go.Av.Pl
def dLeft (d : Dv) : Int := if 0 < d.left then d.left - 1 else d.left
/-- A device behind a command that was done. -/
def dDid (d : Dv) (zs : List Zo) : Dv := ⟨d.size, zs, dLeft d, d.down, d.done + 1⟩
end Go.Av.Pl
namespace Go.Av
open Enc (enc dec)
open Cel (cs dc)
open Go.Proofs Pl

theorem oneL {P : Program} {n : FuncId} {A : List V} {M M' : Mem} {v : V} (h : Loc P n A M v M') : ∃ sp, EOkL P n sp ∧ sp A M = some (v, M') := by
  classical
  refine ⟨fun args m => if args = A ∧ m = M then some (v, M') else none, fun args m v1 m1 h1 => ?_, if_pos ⟨rfl, rfl⟩⟩
  simp only at h1
  split at h1
  · rename_i hc
    obtain ⟨rfl, rfl⟩ := hc
    cases h1
    exact h
  · cases h1
def dvB (d : Dv) (zb : Nat) : List V := [.val (.int .i64 d.size), .ref (.sli 0 4 d.zones.length) zb, .val (.int .i64 d.left), .val (.bool d.down), .val (.int .i64 d.done)]
theorem c_do1 (k : Int) (fid : FuncId) (hk5 : ¬ k = 5) (hk : mpAt doesK k = some (.func fid [])) (he : EOkL Try.prog fid (sp_cmd k)) (hf : ¬ 160 = fid) (m : Mem) (p zb eb cb : Nat) (d : Dv) (h : DB m p zb d) (hpz : zb ≠ p) (hpe : p ≠ eb) (hpc : p ≠ cb) (hze : zb ≠ eb) (hs : DSm d) (i : Nat) (b : List UInt8)
    (hi : i < d.zones.length) (hb : b.length ≤ 2 ^ 30) (z' : Zo) (hc : dCmd k d d.zones[i] b = (z', 0)) (hE : m.boxes[eb]? = some [.val (.int .i64 0)]) (hC : m.boxes[cb]? = some (cs (⟨k, i, b⟩ : Rec)))
    (hok : dOk d = true) (hd : d.down = false) (hl : ¬ d.left = 0) (hll : -(2 ^ 62) ≤ d.left ∧ d.left ≤ 2 ^ 62) (hdn : 0 ≤ d.done ∧ d.done ≤ 2 ^ 62) :
    Loc Try.prog n_dev_Do_1 [.ptr p 0, .ptr eb 0, .ptr cb 0] m (.tuple []) ⟨(m.boxes.set p (dvB (dDid d d.zones) zb)).set zb (zC (d.zones.set i z')), m.tips⟩ := by
  have hpl := lt_of_some h.hp
  have f0 : ∀ (x y : List V), (m.boxes.set p x).set p y = m.boxes.set p y := fun x y => List.set_set ..
  have f1 : ∀ (x : List V), (m.boxes.set p x)[p]? = some x := fun x => List.getElem?_set_self hpl
  have f2 : ∀ (x : List V), (m.boxes.set p x)[zb]? = m.boxes[zb]? := fun x => List.getElem?_set_ne (Ne.symm hpz)
  have f3 : ∀ (x : List V), (m.boxes.set p x)[eb]? = m.boxes[eb]? := fun x => List.getElem?_set_ne hpe
  have f4 : ∀ (x : List V), (m.boxes.set p x)[cb]? = m.boxes[cb]? := fun x => List.getElem?_set_ne hpc
  have f5 : ∀ (x y : List V), ((m.boxes.set p x).set zb y)[eb]? = m.boxes[eb]? := fun x y => by rw [List.getElem?_set_ne hze, f3]
  have f6 : ∀ (x y : List V), ((m.boxes.set p x).set zb y).set eb [.val (.int .i64 0)] = (m.boxes.set p x).set zb y := fun x y => setC_self (by rw [f5, hE])
  have hDB : DB ⟨m.boxes.set p (dvB (dDid d d.zones) zb), m.tips⟩ p zb (dDid d d.zones) := ⟨f1 _, by rw [f2]; exact h.hz⟩
  obtain ⟨sp, hsp, e⟩ := oneL (c_dDone1 k fid hk5 hk he hf _ p zb (dDid d d.zones) hDB hpz ⟨hs.n, hs.z⟩ i b hi hb z' hc)
  refine Loc.ofX ((OOk.nil.addL sp_checkL_ok).addL hsp) hm F_dev_Do_1_ok (by simp [F_dev_Do_1]) ?_
  have hp := h.hp
  have hz := h.hz
  have g1 : rdD m (.agg [.val (.int .i64 d.size), .ref (.sli 0 4 d.zones.length) zb, .val (.int .i64 d.left), .val (.bool d.down), .val (.int .i64 d.done)]) = some d := by
    have := h.at
    unfold dvAt at this
    rwa [hp] at this
  have w1 := IntWalk.i64_in (d.left - 1) (by omega)
  have w2 := IntWalk.i64_in (d.done + 1) (by omega)
  clear hpl
  simp only [dvB, dDid, dLeft, hd] at e hp g1 ⊢
  simp at e hC
  have hsn := hs.n
  by_cases hlp : 0 < d.left
  · simp [hlp] at e
    simp [F_dev_Do_1, f0, f1, f2, f3, f4, f5, f6, hp, hE, hC, g1, hsn, sp_rd, hok, hl, hlp, w1, w2, e]
  · simp [hlp] at e
    simp [F_dev_Do_1, f0, f1, f2, f3, f4, f5, f6, hp, hE, hC, g1, hsn, sp_rd, hok, hl, hlp, w1, w2, e]
theorem c_limit1 (m : Mem) (p lb : Nat) (d : Dv) (zb : Nat) (n : Int) (hp : m.boxes[p]? = some (dvB d zb)) (hL : m.boxes[lb]? = some [.val (.int .i64 n)]) :
    Loc Try.prog n_dev_Limit_1 [.ptr p 0, .ptr lb 0] m (.tuple []) ⟨m.boxes.set p (dvB { d with left := n } zb), m.tips⟩ := by
  refine Loc.ofX OOk.nil hm F_dev_Limit_1_ok (by simp [F_dev_Limit_1]) ?_
  simp only [dvB] at hp ⊢
  simp [F_dev_Limit_1, hp, hL]
end Go.Av

namespace Go.Av
open Enc (enc dec)
open Cel (cs dc)
open Go.Proofs Pl

def zeroDv : List V := [.val (.int .i64 0), .lit 4 [], .val (.int .i64 0), .val (.bool false), .val (.int .i64 0)]
def Dk1 : Orc := (Orc.nil.add n_bytes_Clone (sp1 sp_clone)).addL n_slices_Clone_Zone sp_zClone
theorem Dk1_ok : OOk Try.prog Dk1 := (OOk.nil.add sp_zclone_ok).addL sp_zClone_ok
def OwnI (M0 : Mem) (L n : Nat) (fv : V) (k : Nat) (s : Nat → V) (m : Mem) : Prop :=
  ∃ (i : Nat), i + k = n ∧ s 1 = fv ∧ s 2 = .ptr L 0 ∧ s 4 = .ptr (L + 1) 0 ∧ s 12 = .val (.int .i64 n) ∧ s 13 = .val (.int .i64 i) ∧ m = M0
theorem box_new3 (l bs : List (List V)) (a b c : List V) : (l ++ a :: b :: c :: bs)[l.length + 2]? = some c := by simp
theorem box_set3 (l bs : List (List V)) (a b c x : List V) : (l ++ a :: b :: c :: bs).set (l.length + 2) x = l ++ a :: b :: x :: bs := by
  rw [List.set_append_right _ _ (by omega)]; simp
theorem c_own (f : FuncId) (cap : List V) (sp : List V → Mem → Option (V × Mem)) (he : EOkL Try.prog f sp) (hf1 : ¬ n_bytes_Clone = f) (hf2 : ¬ n_slices_Clone_Zone = f) (m : Mem) (d d' : Dv) (hs : DSm d) (hne : d.zones ≠ []) (hln : d'.zones.length = d.zones.length)
    (hsp : sp (.ptr m.boxes.length 0 :: cap) ⟨m.boxes ++ [dvB d (m.boxes.length + 2), zeroDv, zC d.zones], m.tips⟩ = some (.tuple [], ⟨m.boxes ++ [dvB d' (m.boxes.length + 2), zeroDv, zC d'.zones], m.tips⟩)) :
    Loc Try.prog n_dev_own [enc d, .func f cap] m (enc d') m := by
  refine Loc.ofU (Dk1_ok.addL he) hm F_dev_own_ok (by simp [F_dev_own]) (.inl (by simp [clean_cs])) m.boxes.length m.tips.length (Nat.le_refl _) (Nat.le_refl _) fun hu => ?_
  have hsn := hs.n
  have hun : unref1 m.boxes.length ⟨m.boxes ++ [dvB d' (m.boxes.length + 2), dvB d' (m.boxes.length + 2), zC d'.zones], m.tips⟩ (.ref (.sli 0 4 d'.zones.length) (m.boxes.length + 2)) = .lit 4 (d'.zones.map cs) := by
    simp only [unref1, box_new3]
    rw [if_pos ⟨by omega, zC_obj _, by rw [zC_length]; omega⟩, zC_top1, List.drop_zero, chunk_zC]
  simp [F_dev_own, Dk1, hf1, hf2, box_new, box_new2, box_set, sp_zClone, hsn, hne, decX_map]
  refine wp_loop (OwnI ⟨m.boxes ++ [dvB d (m.boxes.length + 2), zeroDv, zC d.zones], m.tips⟩ m.boxes.length d.zones.length (.func f cap)) d.zones.length (IW.of ⟨0, by omega, by simp, by simp, by simp, by simp, by simp, rfl⟩) fun k s m' ⟨i, hik, s1, s2, s4, s12, s13, hm'⟩ => ?_
  subst hm'
  by_cases hi : i < d.zones.length
  · have hiI : (i : Int) < d.zones.length := by omega
    have w1 := IntWalk.i64_in ((i : Int) + 1) (by omega)
    have g0 := zC_drop d.zones i 2 hi
    have g1 := zC_set2 d.zones i hi
    have g2 : i * 4 + 2 + 1 ≤ (zC d.zones).length := by rw [zC_length]; omega
    have hzd := hs.z _ (List.getElem_mem hi)
    have hzd' : d.zones[i].data.length ≤ 140737488355328 := by omega
    simp at g0 g1
    simp [F_dev_own_L0, hf1, hf2, s1, s2, s4, s12, s13, dvB, box_new, box_new3, box_set3, hi, hiI, w1, g0, g1, g2, zC_obj, hzd', decX_cs, clean_cs]
    exact ⟨k - 1, by omega, IW.of (show OwnI _ _ _ _ _ _ _ from ⟨i + 1, by omega, by simpa using s1, by simpa using s2, by simpa using s4, by simpa using s12, by simp, rfl⟩)⟩
  · have hiI : ¬ (i : Int) < d.zones.length := by omega
    simp only [dvB, zeroDv] at hsp hun
    simp [F_dev_own_L0, hf1, hf2, s1, s2, s4, s12, s13, dvB, zeroDv, box_new, box_new2, box_set2, hi, hiI, hsp, hu]
    have hv : ∀ (k : Nat) (m : Mem) (x : Value), unref1 k m (.val x) = .val x := fun _ _ _ => rfl
    simp only [unref, unrefA, List.map_cons, List.map_nil, hun, hv]
    simp [wkL, wk1]
theorem dCmd_len (k : Int) (d : Dv) (zs : List Zo) (i : Nat) (z : Zo) : (dDid d (zs.set i z)).zones.length = zs.length := by simp [dDid]
/-- What a command must find to be done. -/
structure CmdOk (k : Int) (d : Dv) (i : Nat) (b : List UInt8) (hi : i < d.zones.length) (z' : Zo) : Prop where
  hb : b.length ≤ 2 ^ 30
  hc : dCmd k d d.zones[i] b = (z', 0)
  ok : dOk d = true
  hd : d.down = false
  hl : ¬ d.left = 0
  hll : -(2 ^ 62) ≤ d.left ∧ d.left ≤ 2 ^ 62
  hdn : 0 ≤ d.done ∧ d.done ≤ 2 ^ 62
theorem dOk_sm {d : Dv} (h : dOk d = true) : DSm d ∧ d.zones ≠ [] := by
  simp only [dOk, Bool.and_eq_true, Bool.not_eq_true', decide_eq_true_eq, List.any_eq_false] at h
  refine ⟨⟨by omega, fun z hz => ?_⟩, List.ne_nil_of_length_pos h.2.1⟩
  have h1 := h.1 z hz
  have h2 : zOk z d.size = true := by simpa using h1
  have := zOk_len h2
  omega
theorem c_dDo (k : Int) (fid : FuncId) (hk5 : ¬ k = 5) (hk : mpAt doesK k = some (.func fid [])) (he : EOkL Try.prog fid (sp_cmd k)) (hf : ¬ 160 = fid) (d : Dv) (i : Nat) (b : List UInt8) (hi : i < d.zones.length) (z' : Zo) (h : CmdOk k d i b hi z') :
    Pure Try.prog n_dev_Do [enc d, enc (⟨k, i, b⟩ : Rec)] (.tuple [enc (dDid d (d.zones.set i z')), .val (.int .i64 0)]) [] := by
  obtain ⟨hs, hne⟩ := dOk_sm h.ok
  have key : ∃ sp, EOkL Try.prog n_dev_own sp ∧ sp [enc d, .func n_dev_Do_1 [.ptr 3 0, .ptr 1 0]] ⟨[cs d, cs (⟨k, i, b⟩ : Rec), zeroDv, [.val (.int .i64 0)]], []⟩ = some (enc (dDid d (d.zones.set i z')), ⟨[cs d, cs (⟨k, i, b⟩ : Rec), zeroDv, [.val (.int .i64 0)]], []⟩) := by
    have hDB : DB ⟨[cs d, cs (⟨k, i, b⟩ : Rec), zeroDv, [.val (.int .i64 0)], dvB d 6, zeroDv, zC d.zones], []⟩ 4 6 d := ⟨rfl, rfl⟩
    obtain ⟨sp1, h1, e1⟩ := oneL (c_do1 k fid hk5 hk he hf _ 4 6 3 1 d hDB (by decide) (by decide) (by decide) (by decide) hs i b hi h.hb z' h.hc rfl rfl h.ok h.hd h.hl h.hll h.hdn)
    refine oneL (c_own n_dev_Do_1 [.ptr 3 0, .ptr 1 0] sp1 h1 (by decide) (by decide) _ d _ hs hne (dCmd_len k d d.zones i z') ?_)
    have e2 : dvB (dDid d d.zones) 6 = dvB (dDid d (d.zones.set i z')) 6 := by simp [dvB, dDid, dLeft]
    rw [e2] at e1
    exact e1
  obtain ⟨sp, hsp, e⟩ := key
  refine Pure.ofC (OOk.nil.addL hsp) hm F_dev_Do_ok (by simp [F_dev_Do]) (by simp [V.res, V.res1]) ?_
  simp [zeroDv] at e
  simp [F_dev_Do, e, keepB]
theorem c_dLimit (d : Dv) (n : Int) (hs : DSm d) (hne : d.zones ≠ []) : Pure Try.prog n_dev_Limit [enc d, enc n] (enc { d with left := n }) [] := by
  have key : ∃ sp, EOkL Try.prog n_dev_own sp ∧ sp [enc d, .func n_dev_Limit_1 [.ptr 1 0]] ⟨[cs d, [.val (.int .i64 n)], zeroDv], []⟩ = some (enc { d with left := n }, ⟨[cs d, [.val (.int .i64 n)], zeroDv], []⟩) := by
    obtain ⟨sp1, h1, e1⟩ := oneL (c_limit1 ⟨[cs d, [.val (.int .i64 n)], zeroDv, dvB d 5, zeroDv, zC d.zones], []⟩ 3 1 d 5 n rfl rfl)
    exact oneL (c_own n_dev_Limit_1 [.ptr 1 0] sp1 h1 (by decide) (by decide) _ d { d with left := n } hs hne rfl e1)
  obtain ⟨sp, hsp, e⟩ := key
  refine Pure.ofC (OOk.nil.addL hsp) hm F_dev_Limit_ok (by simp [F_dev_Limit]) (by simp [V.res, V.res1]) ?_
  simp [zeroDv] at e
  simp [F_dev_Limit, e]
end Go.Av
