/-
  DvN: Numbers and compact codes of functions.
  SnA: Contracts of package le.
  AvY: Contracts on the memory that is there.
  AvTh: A new slice that a function answers, written to from then on: it lies in a box.
  AvBo: Slices that are written, lent to a function that only reads; and, behind a run, as they are.
  DvA: Contracts of package zone.
  DvB: Contracts of package zone, second part: zones with which something is done.
  DvC: Contracts of package zone, third part.
  DvD: Contracts of package zone, last part.
  SnBx: Records, their likeness; and facts of boxes.
  DvE: Contracts of package dev, first part: what is read.
  DvF: Contracts of package dev, second part: counts, a new one, commands.
  DvG: Contracts of package dev, third part: devices whose zones lie in a box.
  DvH: Contracts of package dev, fourth part: the commands.
  DvI: Contracts of package dev, fifth part: a command done.
  DvJ: Contracts of package dev, sixth part: a device in memory of its own.
  DvK: Contracts of package dev, seventh part: own, Limit, Do.
  SnB: Contracts of package le: Take, size, Pack, Unpack.
  SnC: Contracts of package le: letters, Pack, Unpack.
  SnD: Contracts of package le: Pack, Unpack.
  SnPk: Numbers by a form: as contracts are asked.
  SnE: Contracts of the reference of chapter 1.
  SnF: Contracts of the reference of chapter 1: Pack, Unpack.
  PlA: Sums, by numbers: no Go here.
  SnG: Contracts of package crc, and of the reference of chapter 2.
  DvL: Contracts of package record: what is written; of package log: where it may be.
  DvM: Contracts of package log: a record appended.
  DvO: Contracts of package log: records appended.
  DvP: Contracts of package space, as far as the law asks.
  DvNb: Numbers and compact codes of functions.
  DvNg: Numbers and compact codes of functions.
  PlB: Extents: no Go here.
  SnH: Contracts of package extent, and of the reference of chapter 7.
  SnI: Contracts of package extent, and of the reference of chapter 7: bytes.
  SnJ: Contracts of package extent, and of the reference of chapter 7: what bytes are.
  SnK: What bytes are, by the reference of chapter 7.
  SnL: Contracts of package extmap, and of the reference of chapter 8: which maps may be.
-/
import Derived.Test.YthjmodhemglgbaaBD
import Derived.Test.YthjmodhemglgbaaRows
import Derived.IntWalk
import Derived.Laws.Bits64
import Derived.Laws.StandIn
import Derived.Lib.Bytealg
import Derived.Laws.RangeString
set_option linter.unusedSimpArgs false
set_option linter.unusedVariables false

namespace Go.Av
open Go.Proofs

@[simp] abbrev n_w13_SpaceHolds : FuncId := 3
@[simp] abbrev n_w13_awake : FuncId := 17
def F_w13_awake : F := ⟨(.seq (.ops [⟨(some 0), none, (.mov (.c (.bool false)))⟩]) (.seq (.ops [⟨(some 4), none, (.call 38 [(.c (.int .i64 64))])⟩, ⟨(some 3), none, (.mov (.t 4))⟩, ⟨(some 5), none, (.ext (.t 3) 0)⟩, ⟨(some 6), none, (.ext (.t 3) 1)⟩, ⟨(some 1), none, (.mov (.t 5))⟩, ⟨(some 2), none, (.mov (.t 6))⟩]) (.seq (.ops [⟨(some 7), none, (.call 21 [(.c (.int .i64 10000)), (.c (.int .i64 8192))])⟩, ⟨(some 8), none, (.bin .eql (.t 7) (.c (.int .i64 3)))⟩, ⟨(some 9), none, (.mov (.t 8))⟩, ⟨(some 10), (some (9, true)), (.call 21 [(.c (.int .i64 5)), (.c (.int .i64 8191))])⟩, ⟨(some 11), (some (9, true)), (.bin .eql (.t 10) (.c (.int .i64 0)))⟩, ⟨(some 12), none, (.pick (.t 9) (.t 11) (.c (.bool false)))⟩, ⟨(some 13), none, (.mov (.t 12))⟩, ⟨(some 14), (some (13, true)), (.call 41 [(.c (.int .i64 64))])⟩, ⟨(some 15), (some (13, true)), (.bin .eql (.t 14) (.c (.int .i64 2526)))⟩, ⟨(some 16), none, (.pick (.t 13) (.t 15) (.c (.bool false)))⟩, ⟨(some 17), none, (.mov (.t 16))⟩, ⟨(some 18), (some (17, true)), (.call 41 [(.c (.int .i64 0))])⟩, ⟨(some 19), (some (17, true)), (.bin .eql (.t 18) (.c (.int .i64 0)))⟩, ⟨(some 20), none, (.pick (.t 17) (.t 19) (.c (.bool false)))⟩, ⟨(some 21), none, (.mov (.t 20))⟩, ⟨(some 22), (some (21, true)), (.mov (.t 1))⟩, ⟨(some 23), (some (21, true)), (.bin .eql (.t 22) (.c (.int .i64 16665)))⟩, ⟨(some 24), none, (.pick (.t 21) (.t 23) (.c (.bool false)))⟩, ⟨(some 25), none, (.mov (.t 24))⟩, ⟨(some 26), (some (25, true)), (.mov (.t 2))⟩, ⟨(some 27), (some (25, true)), (.bin .eql (.t 26) (.c (.int .i64 6)))⟩, ⟨(some 28), none, (.pick (.t 25) (.t 27) (.c (.bool false)))⟩, ⟨(some 29), none, (.mov (.t 28))⟩, ⟨(some 30), (some (29, true)), (.call 57 [(.c (.int .i64 64)), (.c (.int .i64 8192))])⟩, ⟨(some 31), (some (29, true)), (.bin .eql (.t 30) (.c (.int .i64 15)))⟩, ⟨(some 32), none, (.pick (.t 29) (.t 31) (.c (.bool false)))⟩, ⟨(some 33), none, (.mov (.t 32))⟩, ⟨(some 34), (some (33, true)), (.call 58 [(.c (.int .i64 64)), (.c (.int .i64 8192))])⟩, ⟨(some 35), (some (33, true)), (.bin .eql (.t 34) (.c (.int .i64 6)))⟩, ⟨(some 36), none, (.pick (.t 33) (.t 35) (.c (.bool false)))⟩, ⟨(some 37), none, (.mov (.t 36))⟩, ⟨(some 38), (some (37, true)), (.call 59 [(.c (.int .i64 15)), (.c (.int .i64 8192)), (.c (.int .i64 64))])⟩, ⟨(some 39), (some (37, true)), (.bin .eql (.t 38) (.c (.int .i64 0)))⟩, ⟨(some 40), none, (.pick (.t 37) (.t 39) (.c (.bool false)))⟩, ⟨(some 41), none, (.mov (.t 40))⟩, ⟨(some 42), (some (41, true)), (.call 59 [(.c (.int .i64 14)), (.c (.int .i64 8192)), (.c (.int .i64 64))])⟩, ⟨(some 43), (some (41, true)), (.bin .eql (.t 42) (.c (.int .i64 130)))⟩, ⟨(some 44), none, (.pick (.t 41) (.t 43) (.c (.bool false)))⟩, ⟨(some 45), none, (.mov (.t 44))⟩, ⟨(some 46), (some (45, true)), (.call 60 [(.c (.int .i64 15)), (.c (.int .i64 64))])⟩, ⟨(some 47), (some (45, true)), (.bin .eql (.t 46) (.c (.int .i64 49)))⟩, ⟨(some 48), none, (.pick (.t 45) (.t 47) (.c (.bool false)))⟩, ⟨(some 49), none, (.mov (.t 48))⟩, ⟨(some 50), none, (.pick (.t 49) (.c (.bool true)) (.c (.bool false)))⟩, ⟨(some 51), none, (.mov (.t 50))⟩, ⟨(some 52), none, (.pick (.t 51) (.c (.bool true)) (.c (.bool false)))⟩, ⟨(some 0), none, (.mov (.t 52))⟩]) .ret))), 53, [(.tmp 0)]⟩
theorem F_w13_awake_ok : compF Try.prog (fun _ => true) 17 = some F_w13_awake := by kernel_rfl
@[simp] abbrev n_dev_New : FuncId := 18
@[simp] abbrev n_log_Append : FuncId := 19
@[simp] abbrev n_log_Empty : FuncId := 20
@[simp] abbrev n_space_Takes : FuncId := 21
def F_space_Takes : F := ⟨(.seq (.ops [⟨(some 4), none, (.mov (.c (.int .i64 0)))⟩]) (.seq (.seq (.ops [⟨(some 5), none, (.mov (.t 1))⟩, ⟨(some 6), none, (.call 63 [(.t 5)])⟩, ⟨(some 7), none, (.un .not (.t 6))⟩]) (.cond (.t 7) (.seq (.ops [⟨(some 4), none, (.mov (.c (.int .i64 0)))⟩]) .ret) .skip)) (.seq (.ops [⟨(some 8), none, (.mov (.t 0))⟩, ⟨(some 9), none, (.mm true (.t 8) (.c (.int .i64 0)))⟩, ⟨(some 10), none, (.mov (.t 1))⟩, ⟨(some 11), none, (.call 37 [(.c (.int .i64 4096))])⟩, ⟨(some 12), none, (.bin .sub (.t 10) (.t 11))⟩, ⟨(some 13), none, (.bin .quo (.t 9) (.t 12))⟩, ⟨(some 14), none, (.bin .add (.t 13) (.c (.int .i64 1)))⟩, ⟨(some 4), none, (.mov (.t 14))⟩]) .ret))), 15, [(.tmp 4)]⟩
theorem F_space_Takes_ok : compF Try.prog (fun _ => true) 21 = some F_space_Takes := by kernel_rfl
@[simp] abbrev n_record_Size : FuncId := 37
def F_record_Size : F := ⟨(.seq (.ops [⟨(some 2), none, (.mov (.c (.int .i64 0)))⟩]) (.seq (.seq (.ops [⟨(some 3), none, (.mov (.t 0))⟩, ⟨(some 4), none, (.bin .lss (.t 3) (.c (.int .i64 0)))⟩, ⟨(some 5), none, (.mov (.t 4))⟩, ⟨(some 6), (some (5, false)), (.mov (.t 0))⟩, ⟨(some 7), (some (5, false)), (.bin .gtr (.t 6) (.c (.int .i64 4096)))⟩, ⟨(some 8), none, (.pick (.t 5) (.c (.bool true)) (.t 7))⟩]) (.cond (.t 8) (.seq (.ops [⟨(some 2), none, (.mov (.c (.int .i64 0)))⟩]) .ret) .skip)) (.seq (.ops [⟨(some 9), none, (.mov (.t 0))⟩, ⟨(some 10), none, (.bin .add (.c (.int .i64 16)) (.t 9))⟩, ⟨(some 11), none, (.bin .add (.t 10) (.c (.int .i64 4)))⟩, ⟨(some 2), none, (.mov (.t 11))⟩]) .ret))), 12, [(.tmp 2)]⟩
theorem F_record_Size_ok : compF Try.prog (fun _ => true) 37 = some F_record_Size := by kernel_rfl
@[simp] abbrev n_space_Snap : FuncId := 38
def F_space_Snap : F := ⟨(.seq (.ops [⟨(some 2), none, (.mov (.c (.int .i64 0)))⟩, ⟨(some 3), none, (.mov (.c (.int .i64 0)))⟩]) (.seq (.seq (.ops [⟨(some 6), none, (.mov (.t 0))⟩, ⟨(some 7), none, (.call 95 [(.t 6)])⟩, ⟨(some 8), none, (.un .not (.t 7))⟩]) (.cond (.t 8) (.seq (.ops [⟨(some 2), none, (.mov (.c (.int .i64 0)))⟩, ⟨(some 3), none, (.mov (.c (.int .i64 0)))⟩]) .ret) .skip)) (.seq (.ops [⟨(some 9), none, (.mov (.t 0))⟩, ⟨(some 10), none, (.call 96 [(.t 9)])⟩, ⟨(some 11), none, (.bin .add (.c (.int .i64 4016)) (.t 10))⟩, ⟨(some 12), none, (.mov (.t 0))⟩, ⟨(some 13), none, (.call 96 [(.t 12)])⟩, ⟨(some 14), none, (.bin .add (.c (.int .i64 8)) (.t 13))⟩, ⟨(some 15), none, (.bin .mul (.c (.int .i64 4)) (.t 14))⟩, ⟨(some 16), none, (.bin .add (.t 11) (.t 15))⟩, ⟨(some 4), none, (.mov (.t 16))⟩]) (.seq (.ops [⟨(some 17), none, (.mov (.t 4))⟩, ⟨(some 18), none, (.bin .add (.t 17) (.c (.int .i64 4096)))⟩, ⟨(some 19), none, (.bin .sub (.t 18) (.c (.int .i64 1)))⟩, ⟨(some 20), none, (.bin .quo (.t 19) (.c (.int .i64 4096)))⟩, ⟨(some 5), none, (.mov (.t 20))⟩]) (.seq (.ops [⟨(some 21), none, (.mov (.t 4))⟩, ⟨(some 22), none, (.mov (.t 5))⟩, ⟨(some 23), none, (.call 37 [(.c (.int .i64 0))])⟩, ⟨(some 24), none, (.bin .mul (.t 22) (.t 23))⟩, ⟨(some 25), none, (.bin .add (.t 21) (.t 24))⟩, ⟨(some 26), none, (.call 37 [(.c (.int .i64 2))])⟩, ⟨(some 27), none, (.bin .add (.t 25) (.t 26))⟩, ⟨(some 28), none, (.mov (.t 5))⟩, ⟨(some 29), none, (.bin .add (.t 28) (.c (.int .i64 1)))⟩, ⟨(some 2), none, (.mov (.t 27))⟩, ⟨(some 3), none, (.mov (.t 29))⟩]) .ret))))), 30, [(.tmp 2), (.tmp 3)]⟩
theorem F_space_Snap_ok : compF Try.prog (fun _ => true) 38 = some F_space_Snap := by kernel_rfl
@[simp] abbrev n_space_Change : FuncId := 41
def F_space_Change : F := ⟨(.seq (.ops [⟨(some 2), none, (.mov (.c (.int .i64 0)))⟩]) (.seq (.seq (.ops [⟨(some 3), none, (.mov (.t 0))⟩, ⟨(some 4), none, (.call 95 [(.t 3)])⟩, ⟨(some 5), none, (.un .not (.t 4))⟩]) (.cond (.t 5) (.seq (.ops [⟨(some 2), none, (.mov (.c (.int .i64 0)))⟩]) .ret) .skip)) (.seq (.ops [⟨(some 6), none, (.mov (.t 0))⟩, ⟨(some 7), none, (.bin .mul (.t 6) (.c (.int .i64 39)))⟩, ⟨(some 8), none, (.bin .add (.c (.int .i64 10)) (.t 7))⟩, ⟨(some 9), none, (.mm true (.t 8) (.c (.int .i64 1009)))⟩, ⟨(some 10), none, (.call 37 [(.t 9)])⟩, ⟨(some 2), none, (.mov (.t 10))⟩]) .ret))), 11, [(.tmp 2)]⟩
theorem F_space_Change_ok : compF Try.prog (fun _ => true) 41 = some F_space_Change := by kernel_rfl
@[simp] abbrev n_space_Zones : FuncId := 57
def F_space_Zones : F := ⟨(.seq (.ops [⟨(some 4), none, (.mov (.c (.int .i64 0)))⟩]) (.seq (.ops [⟨(some 8), none, (.mov (.t 0))⟩, ⟨(some 9), none, (.mov (.t 1))⟩, ⟨(some 10), none, (.call 58 [(.t 8), (.t 9)])⟩, ⟨(some 5), none, (.mov (.t 10))⟩]) (.seq (.seq (.ops [⟨(some 11), none, (.mov (.t 5))⟩, ⟨(some 12), none, (.bin .eql (.t 11) (.c (.int .i64 0)))⟩]) (.cond (.t 12) (.seq (.ops [⟨(some 4), none, (.mov (.c (.int .i64 0)))⟩]) .ret) .skip)) (.seq (.ops [⟨(some 14), none, (.mov (.t 0))⟩, ⟨(some 15), none, (.call 38 [(.t 14)])⟩, ⟨(some 13), none, (.mov (.t 15))⟩, ⟨(some 16), none, (.ext (.t 13) 0)⟩, ⟨(some 17), none, (.ext (.t 13) 1)⟩, ⟨(some 6), none, (.mov (.t 16))⟩, ⟨(some 7), none, (.mov (.t 17))⟩]) (.seq (.ops [⟨(some 18), none, (.mov (.t 5))⟩, ⟨(some 19), none, (.bin .add (.c (.int .i64 3)) (.t 18))⟩, ⟨(some 20), none, (.mov (.t 6))⟩, ⟨(some 21), none, (.mov (.t 1))⟩, ⟨(some 22), none, (.call 21 [(.t 20), (.t 21)])⟩, ⟨(some 23), none, (.bin .add (.t 19) (.t 22))⟩, ⟨(some 24), none, (.bin .add (.t 23) (.c (.int .i64 1)))⟩, ⟨(some 4), none, (.mov (.t 24))⟩]) .ret))))), 25, [(.tmp 4)]⟩
theorem F_space_Zones_ok : compF Try.prog (fun _ => true) 57 = some F_space_Zones := by kernel_rfl
@[simp] abbrev n_space_Need : FuncId := 58
def F_space_Need : F := ⟨(.seq (.ops [⟨(some 3), none, (.box (.t 1))⟩, ⟨(some 4), none, (.mov (.c (.int .i64 0)))⟩]) (.seq (.seq (.ops [⟨(some 8), none, (.mov (.t 0))⟩, ⟨(some 9), none, (.call 95 [(.t 8)])⟩, ⟨(some 10), none, (.un .not (.t 9))⟩, ⟨(some 11), none, (.mov (.t 10))⟩, ⟨(some 12), (some (11, false)), (.ld (.t 3) none)⟩, ⟨(some 13), (some (11, false)), (.call 63 [(.t 12)])⟩, ⟨(some 14), (some (11, false)), (.un .not (.t 13))⟩, ⟨(some 15), none, (.pick (.t 11) (.c (.bool true)) (.t 14))⟩]) (.cond (.t 15) (.seq (.ops [⟨(some 4), none, (.mov (.c (.int .i64 0)))⟩]) .ret) .skip)) (.seq (.ops [⟨(some 16), none, (.mkf 115 [(.t 3)])⟩, ⟨(some 5), none, (.mov (.t 16))⟩]) (.seq (.ops [⟨(some 18), none, (.mov (.t 0))⟩, ⟨(some 19), none, (.call 38 [(.t 18)])⟩, ⟨(some 17), none, (.mov (.t 19))⟩, ⟨(some 20), none, (.ext (.t 17) 0)⟩, ⟨(some 21), none, (.ext (.t 17) 1)⟩, ⟨(some 6), none, (.mov (.t 20))⟩, ⟨(some 7), none, (.mov (.t 21))⟩]) (.seq (.ops [⟨(some 22), none, (.mov (.t 5))⟩, ⟨(some 23), none, (.mov (.t 0))⟩, ⟨(some 24), none, (.call 41 [(.t 23)])⟩, ⟨(some 25), none, (.callv (.t 22) [(.t 24)])⟩, ⟨(some 26), none, (.mov (.t 5))⟩, ⟨(some 27), none, (.mov (.t 6))⟩, ⟨(some 28), none, (.callv (.t 26) [(.t 27)])⟩, ⟨(some 29), none, (.bin .add (.t 25) (.t 28))⟩, ⟨(some 4), none, (.mov (.t 29))⟩]) .ret))))), 30, [(.tmp 4)]⟩
theorem F_space_Need_ok : compF Try.prog (fun _ => true) 58 = some F_space_Need := by kernel_rfl
@[simp] abbrev n_space_Check : FuncId := 59
def F_space_Check : F := ⟨(.seq (.ops [⟨(some 6), none, (.mov (.c (.int .i64 0)))⟩]) (.seq (.seq (.ops [⟨(some 8), none, (.mov (.t 2))⟩, ⟨(some 9), none, (.mov (.t 1))⟩, ⟨(some 10), none, (.call 57 [(.t 8), (.t 9)])⟩, ⟨(some 7), none, (.mov (.t 10))⟩]) (.seq (.ops [⟨(some 11), none, (.mov (.t 7))⟩, ⟨(some 12), none, (.bin .eql (.t 11) (.c (.int .i64 0)))⟩, ⟨(some 13), none, (.mov (.t 12))⟩, ⟨(some 14), (some (13, false)), (.mov (.t 0))⟩, ⟨(some 15), (some (13, false)), (.mov (.t 7))⟩, ⟨(some 16), (some (13, false)), (.bin .lss (.t 14) (.t 15))⟩, ⟨(some 17), none, (.pick (.t 13) (.c (.bool true)) (.t 16))⟩, ⟨(some 18), none, (.mov (.t 17))⟩, ⟨(some 19), (some (18, false)), (.mov (.t 0))⟩, ⟨(some 20), (some (18, false)), (.bin .gtr (.t 19) (.c (.int .i64 64)))⟩, ⟨(some 21), none, (.pick (.t 18) (.c (.bool true)) (.t 20))⟩]) (.cond (.t 21) (.seq (.ops [⟨(some 6), none, (.mov (.c (.int .i64 130)))⟩]) .ret) .skip))) (.seq (.ops [⟨(some 6), none, (.mov (.c (.int .i64 0)))⟩]) .ret))), 22, [(.tmp 6)]⟩
theorem F_space_Check_ok : compF Try.prog (fun _ => true) 59 = some F_space_Check := by kernel_rfl
@[simp] abbrev n_space_Bound : FuncId := 60
def F_space_Bound : F := ⟨(.seq (.ops [⟨(some 4), none, (.mov (.c (.int .i64 0)))⟩]) (.seq (.ops [⟨(some 8), none, (.mov (.t 1))⟩, ⟨(some 9), none, (.call 38 [(.t 8)])⟩, ⟨(some 7), none, (.mov (.t 9))⟩, ⟨(some 10), none, (.ext (.t 7) 0)⟩, ⟨(some 11), none, (.ext (.t 7) 1)⟩, ⟨(some 5), none, (.mov (.t 10))⟩, ⟨(some 6), none, (.mov (.t 11))⟩]) (.seq (.seq (.ops [⟨(some 12), none, (.mov (.t 6))⟩, ⟨(some 13), none, (.bin .eql (.t 12) (.c (.int .i64 0)))⟩]) (.cond (.t 13) (.seq (.ops [⟨(some 4), none, (.mov (.c (.int .i64 0)))⟩]) .ret) .skip)) (.seq (.ops [⟨(some 14), none, (.mov (.t 6))⟩, ⟨(some 15), none, (.bin .add (.t 14) (.c (.int .i64 1)))⟩, ⟨(some 16), none, (.mov (.t 0))⟩, ⟨(some 17), none, (.call 116 [(.t 16), (.c (.int .i64 0)), (.c (.int .i64 1073741824))])⟩, ⟨(some 18), none, (.bin .add (.t 15) (.t 17))⟩, ⟨(some 19), none, (.bin .mul (.c (.int .i64 2)) (.t 18))⟩, ⟨(some 20), none, (.bin .add (.t 19) (.c (.int .i64 5)))⟩, ⟨(some 4), none, (.mov (.t 20))⟩]) .ret)))), 21, [(.tmp 4)]⟩
theorem F_space_Bound_ok : compF Try.prog (fun _ => true) 60 = some F_space_Bound := by kernel_rfl
@[simp] abbrev n_space_may : FuncId := 63
def F_space_may : F := ⟨(.seq (.ops [⟨(some 2), none, (.mov (.c (.bool false)))⟩]) (.seq (.ops [⟨(some 3), none, (.mov (.t 0))⟩, ⟨(some 4), none, (.call 116 [(.t 3), (.c (.int .i64 8192)), (.c (.int .i64 1048576))])⟩, ⟨(some 5), none, (.mov (.t 0))⟩, ⟨(some 6), none, (.bin .eql (.t 4) (.t 5))⟩, ⟨(some 2), none, (.mov (.t 6))⟩]) .ret)), 7, [(.tmp 2)]⟩
theorem F_space_may_ok : compF Try.prog (fun _ => true) 63 = some F_space_may := by kernel_rfl
@[simp] abbrev n_space_some : FuncId := 95
def F_space_some : F := ⟨(.seq (.ops [⟨(some 2), none, (.mov (.c (.bool false)))⟩]) (.seq (.ops [⟨(some 3), none, (.mov (.t 0))⟩, ⟨(some 4), none, (.call 116 [(.t 3), (.c (.int .i64 1)), (.c (.int .i64 64))])⟩, ⟨(some 5), none, (.mov (.t 0))⟩, ⟨(some 6), none, (.bin .eql (.t 4) (.t 5))⟩, ⟨(some 2), none, (.mov (.t 6))⟩]) .ret)), 7, [(.tmp 2)]⟩
theorem F_space_some_ok : compF Try.prog (fun _ => true) 95 = some F_space_some := by kernel_rfl
@[simp] abbrev n_space_mapped : FuncId := 96
def F_space_mapped : F := ⟨(.seq (.ops [⟨(some 2), none, (.mov (.c (.int .i64 0)))⟩]) (.seq (.ops [⟨(some 3), none, (.mov (.t 0))⟩, ⟨(some 4), none, (.bin .mul (.t 3) (.c (.int .i64 39)))⟩, ⟨(some 5), none, (.bin .add (.c (.int .i64 3)) (.t 4))⟩, ⟨(some 2), none, (.mov (.t 5))⟩]) .ret)), 6, [(.tmp 2)]⟩
theorem F_space_mapped_ok : compF Try.prog (fun _ => true) 96 = some F_space_mapped := by kernel_rfl
@[simp] abbrev n_space_Need_1 : FuncId := 115
def F_space_Need_1 : F := ⟨(.seq (.ops [⟨(some 3), none, (.mov (.c (.int .i64 0)))⟩]) (.seq (.ops [⟨(some 4), none, (.mov (.t 0))⟩, ⟨(some 5), none, (.ld (.t 1) none)⟩, ⟨(some 6), none, (.call 21 [(.t 4), (.t 5)])⟩, ⟨(some 3), none, (.mov (.t 6))⟩]) .ret)), 7, [(.tmp 3)]⟩
theorem F_space_Need_1_ok : compF Try.prog (fun _ => true) 115 = some F_space_Need_1 := by kernel_rfl
@[simp] abbrev n_space_held_int : FuncId := 116
def F_space_held_int : F := ⟨(.seq (.ops [⟨(some 6), none, (.mov (.c (.int .i64 0)))⟩]) (.seq (.ops [⟨(some 7), none, (.mov (.t 0))⟩, ⟨(some 8), none, (.mov (.t 1))⟩, ⟨(some 9), none, (.mm true (.t 7) (.t 8))⟩, ⟨(some 10), none, (.mov (.t 2))⟩, ⟨(some 11), none, (.mm false (.t 9) (.t 10))⟩, ⟨(some 6), none, (.mov (.t 11))⟩]) .ret)), 12, [(.tmp 6)]⟩
theorem F_space_held_int_ok : compF Try.prog (fun _ => true) 116 = some F_space_held_int := by kernel_rfl
@[simp] abbrev n_record_Check : FuncId := 52
@[simp] abbrev n_record_Write : FuncId := 53
@[simp] abbrev n_dev_Check : FuncId := 46
@[simp] abbrev n_dev_Check_1 : FuncId := 102
@[simp] abbrev n_dev_Do : FuncId := 50
@[simp] abbrev n_dev_Do_1 : FuncId := 107
@[simp] abbrev n_dev_Limit : FuncId := 61
@[simp] abbrev n_dev_Limit_1 : FuncId := 117
@[simp] abbrev n_dev_own : FuncId := 106
@[simp] abbrev n_dev_done : FuncId := 108
@[simp] abbrev n_dev_Open : FuncId := 156
@[simp] abbrev n_dev_does : FuncId := 160
@[simp] abbrev n_log_one : FuncId := 62
@[simp] abbrev n_log_Place : FuncId := 100
@[simp] abbrev n_log_first : FuncId := 155
@[simp] abbrev n_log_first_1 : FuncId := 186
@[simp] abbrev n_slices_ContainsFunc_Zone : FuncId := 101
@[simp] abbrev n_slices_IndexFunc_Zone : FuncId := 157
@[simp] abbrev n_slices_Clone_Zone : FuncId := 159
@[simp] abbrev n_zone_Check : FuncId := 103
@[simp] abbrev n_zone_takes : FuncId := 158
@[simp] abbrev n_zone_Room : FuncId := 187
@[simp] abbrev n_zone_done : FuncId := 166
@[simp] abbrev n_zone_filled : FuncId := 168
@[simp] abbrev n_zone_Flush : FuncId := 161
@[simp] abbrev n_zone_Flush_1 : FuncId := 192
@[simp] abbrev n_zone_Append : FuncId := 203
@[simp] abbrev n_zone_Append_1 : FuncId := 211
@[simp] abbrev n_zone_Reset : FuncId := 204
@[simp] abbrev n_zone_Reset_1 : FuncId := 212
@[simp] abbrev n_zone_Finish : FuncId := 205
@[simp] abbrev n_zone_Finish_1 : FuncId := 213
@[simp] abbrev n_zone_Close : FuncId := 206
@[simp] abbrev n_zone_Close_1 : FuncId := 214
@[simp] abbrev n_dev_command_append : FuncId := 188
@[simp] abbrev n_dev_command_reset : FuncId := 189
@[simp] abbrev n_dev_command_finish : FuncId := 190
@[simp] abbrev n_dev_command_close : FuncId := 191
end Go.Av

namespace Go.Av
open Enc (enc dec)
open Cel (cs dc)
open Go.Proofs

def mayB (v : Nat) (w : Int) : Bool := decide ((w = 1 ∨ w = 2 ∨ w = 4) ∧ v < 256 ^ w.toNat ∨ w = 8)
def leB (v w : Nat) : List UInt8 := (List.range w).map fun i => UInt8.ofNat (v / 256 ^ i)

theorem shr_eq (v k : Nat) : Int.fdiv (v : Int) (2 ^ k) = ((v / 2 ^ k : Nat) : Int) := by
  have h : (0 : Int) ≤ 2 ^ k := Int.le_of_lt (Int.pow_pos (by decide))
  rw [Int.fdiv_eq_ediv_of_nonneg _ h, Int.natCast_ediv]
  simp
theorem shr_lt (v w : Nat) : (((v / 256 ^ w : Nat) : Int) = 0) ↔ v < 256 ^ w := by
  have hp : 0 < 256 ^ w := Nat.pos_of_ne_zero (by simp)
  rw [← Nat.div_eq_zero_iff_lt hp]
  omega
/-- A shift by whole bytes. -/
theorem shr_bytes (v k : Nat) (hk : k ≤ 8) : (v : Int).fdiv (2 ^ min (IntKind.i64.wrap (8 * (k : Int))).toNat IntKind.u64.bits) = ((v / 256 ^ k : Nat) : Int) := by
  rw [IntWalk.i64_in _ (by omega), show (8 * (k : Int)).toNat = 8 * k by omega, Nat.min_eq_left (show 8 * k ≤ IntKind.u64.bits by show 8 * k ≤ 64; omega), shr_eq, Nat.pow_mul]

theorem c_le_may (v : Nat) (w : Int) : Pure Try.prog n_le_may [enc v, enc w] (enc (mayB v w)) [] := by
  refine Pure.ofC OOk.nil hm F_le_may_ok (by simp [F_le_may]) rfl ?_
  have key : ∀ k : Nat, k ≤ 4 → 0 ≤ IntKind.i64.wrap (8 * (k : Int)) ∧ decide ((v : Int).fdiv (2 ^ min (IntKind.i64.wrap (8 * (k : Int))).toNat IntKind.u64.bits) = 0) = decide (v < 256 ^ k) := fun k hk =>
    ⟨by rw [IntWalk.i64_in _ (by omega)]; omega, by rw [shr_bytes v k (by omega), decide_eq_decide]; exact shr_lt v k⟩
  have k1 := key 1
  have k2 := key 2
  have k4 := key 4
  simp at k1 k2 k4
  simp [F_le_may]
  by_cases h1 : w = 1
  · subst h1; simp [mayB]; exact k1
  · by_cases h2 : w = 2
    · subst h2; simp [mayB]; exact k2
    · by_cases h4 : w = 4
      · subst h4; simp [mayB]; exact k4
      · simp [mayB, h1, h2, h4]

theorem c_clone (l : List UInt8) (hl : l.length ≤ 140737488355328) : Pure Try.prog n_bytes_Clone [enc l] (.row 0 1 (l.map cs)) [(5, 1, l.length)] := by
  refine Pure.lit_cases l (fun h => ?_) (fun h => ?_) (fun x t h => ?_)
  · subst h
    refine Pure.ofR OOk.nil hm F_bytes_Clone_ok (by simp [F_bytes_Clone]) (by simp [V.res, V.res1]) ?_
    simp [F_bytes_Clone]
  · subst h
    refine Pure.ofR OOk.nil hm F_bytes_Clone_ok (by simp [F_bytes_Clone]) (by simp [V.res, V.res1]) ?_
    simp [F_bytes_Clone]
  · subst h
    refine Pure.ofR OOk.nil hm F_bytes_Clone_ok (by simp [F_bytes_Clone]) (by simp [V.res, V.res1]) ?_
    simp [F_bytes_Clone]
    simpa using hl
@[simp] def sp_may (v : Nat) (w : Int) : Option (V × List Tip) := some (enc (mayB v w), [])
@[simp] def sp_clone (l : List UInt8) : Option (V × List Tip) := if l.length ≤ 140737488355328 then some (.row 0 1 (l.map cs), [(5, 1, l.length)]) else none
def D1 : Orc := (Orc.nil.add n_le_may (sp2 sp_may)).add n_bytes_Clone (sp1 sp_clone)
theorem D1_ok : OOk Try.prog D1 := by
  refine (OOk.nil.add (sp2_ok fun v w r h => ?_)).add (sp1_ok fun l r h => ?_)
  · cases h; exact c_le_may v w
  · simp only [sp_clone] at h
    split at h <;> cases h
    exact c_clone l (by assumption)

def bytesPut (b : List UInt8) (v : Nat) (w : Int) : List UInt8 := if mayB v w = true then b ++ leB v w.toNat else []
def errPut (v : Nat) (w : Int) : Int := if mayB v w = true then 0 else 10
theorem leB_succ (v i : Nat) : leB v (i + 1) = leB v i ++ [UInt8.ofNat (v / 256 ^ i)] := by simp [leB, List.range_succ]
theorem leB_zero (v : Nat) : leB v 0 = [] := rfl
theorem leB_length (v i : Nat) : (leB v i).length = i := by simp [leB]
theorem wrap_u8_nat (n : Nat) : IntKind.u8.wrap (n : Int) = ((UInt8.ofNat n).toNat : Int) := by
  rw [IntKind.wrap_u8]
  simp
theorem mayB_cases {v : Nat} {w : Int} (h : mayB v w = true) : ∃ n : Nat, w = n ∧ n ≤ 8 ∧ (n = 1 ∨ n = 2 ∨ n = 4 ∨ n = 8) := by
  simp [mayB] at h
  exact ⟨w.toNat, by omega, by omega, by omega⟩

theorem c_le_Put (b : List UInt8) (v : Nat) (w : Int) (hb : b.length ≤ 2 ^ 40) : Pure Try.prog n_le_Put [enc b, enc v, enc w] (.tuple [.row 0 1 ((bytesPut b v w).map cs), enc (errPut v w)]) [(5, 1, (bytesPut b v w).length)] := by
  refine Pure.ofR D1_ok hm F_le_Put_ok (by simp [F_le_Put]) (by simp [V.res, V.res1]) ?_
  simp [F_le_Put, D1]
  refine ⟨fun h => by simp [bytesPut, errPut, h], fun h => ⟨by omega, ?_⟩⟩
  obtain ⟨n, rfl, hn, _⟩ := mayB_cases h
  have e1 : bytesPut b v n = b ++ leB v n := by simp [bytesPut, h]
  have e2 : errPut v n = 0 := by simp [errPut, h]
  rw [e1, e2]
  refine wp_loop (fun k s m => ∃ i, i + k = n ∧ s 15 = .val (.int .i64 n) ∧ s 16 = .val (.int .i64 i) ∧ s 1 = .val (.int .u64 (v / 256 ^ i : Nat)) ∧ s 8 = .row 1 1 ((b ++ leB v i).map cs) ∧ m = ⟨[], [(5, 1, 0), (5, 1, b.length + i)]⟩)
    n (IW.of ⟨0, by omega, by simp, by simp, by simp, by simp [leB_zero], by simp⟩) fun k s m ⟨i, hik, h15, h16, h1, h8, hm⟩ => ?_
  subst hm
  simp [F_le_Put_L0, h15, h16, h1, h8, leB_length, -Int.natCast_ediv, -Int.natCast_pow]
  refine ⟨fun hlt => ⟨by omega, k - 1, by omega, IW.of ⟨i + 1, by omega, by simpa using h15, ?_, ?_, ?_, ?_⟩⟩, fun hge => ?_⟩
  · simp; rw [IntWalk.i64_in _ (by omega)]
  · simp [-Int.natCast_ediv, -Int.natCast_pow]
    rw [show min 8 IntKind.u64.bits = 8 from rfl, shr_eq, Nat.div_div_eq_div_mul, show (2 : Nat) ^ 8 = 256 from rfl, ← Nat.pow_succ]
  · simp [leB_succ, wrap_u8_nat, -Int.natCast_ediv, -Int.natCast_pow]
  · simp [Nat.add_assoc]
  · obtain rfl : i = n := by omega
    simp
end Go.Av

namespace Go.Av
open Enc (enc dec)
open Cel (cs dc)
open Go.RowKit

mutual
theorem Rep.under {M : Mp} {w : World} : ∀ (v : V) (x : Value), Rep M w v x → v.under M.β.length M.γ.length = true
  | .val _, _, _ => rfl
  | .agg l, x, h => by
    obtain ⟨vs, rfl, h⟩ := h
    exact RepL.under l _ h
  | .lit sz xs, x, h => by
    rcases h with ⟨rfl, _⟩ | ⟨ad, c, h0, h1, h2, h3, h4⟩
    · rfl
    · exact RepX.under xs _ _ h4
  | .full sz xs, x, h => by
    rcases h with ⟨rfl, _⟩ | ⟨ad, h0, h2, h3, h4⟩
    · rfl
    · exact RepX.under xs _ _ h4
  | .emp _, _, _ => rfl
  | .any, _, _ => rfl
  | .anyc, _, _ => rfl
  | .row t sz xs, x, h => by
    obtain ⟨G, h4, h⟩ := h
    have ht : t < M.γ.length := (List.getElem?_eq_some_iff.1 h4).1
    simp only [V.under, ht, decide_true, Bool.true_and]
    rcases h with ⟨rfl, _⟩ | ⟨g, c, h0, h1, h2, h3, h5⟩
    · rfl
    · exact RepX.under xs _ _ h3
  | .ptr b off, x, h => by
    obtain ⟨g, rfl, h⟩ := h
    simpa [V.under] using (List.getElem?_eq_some_iff.1 h).1
  | .yld b, x, h => by
    obtain ⟨g, rfl, h⟩ := h
    simpa [V.under] using (List.getElem?_eq_some_iff.1 h).1
  | .ref k b, x, h => by
    obtain ⟨g, c, rfl, h0, h⟩ := h
    simpa [V.under] using (List.getElem?_eq_some_iff.1 h).1
  | .eptr cs, x, h => by
    obtain ⟨ad, rfl, h1, h⟩ := h
    exact RepC.under cs _ _ h
  | .func f cap, x, h => by
    obtain ⟨vs, rfl, h⟩ := h
    exact RepL.under cap _ h
  | .iface t v, x, h => by
    obtain ⟨y, rfl, h⟩ := h
    exact Rep.under v _ h
  | .tuple l, x, h => by
    obtain ⟨vs, rfl, h⟩ := h
    exact RepL.under l _ h
  | .alts _, _, _ => rfl
  | .buf a b c d e, x, h => by
    obtain ⟨g, c, rfl, _, _, _, h, _⟩ := h
    simpa [V.under] using (List.getElem?_eq_some_iff.1 h).1
theorem RepL.under {M : Mp} {w : World} : ∀ (l : List V) (m : List Value), RepL M w l m → underL M.β.length M.γ.length l = true
  | [], _, _ => rfl
  | v :: l, m, h => by
    obtain ⟨x, m', rfl, h1, h2⟩ := h
    simp only [underL, Rep.under v x h1, RepL.under l m' h2]; rfl
theorem RepC.under {M : Mp} {w : World} : ∀ (l : List V) (b o : Nat), RepC M w l b o → underL M.β.length M.γ.length l = true
  | [], _, _, _ => rfl
  | v :: l, b, o, h => by
    obtain ⟨⟨x, h1, h2, h3, h4⟩, h⟩ := h
    simp only [underL, Rep.under v x h4, RepC.under l b _ h]; rfl
theorem RepX.under {M : Mp} {w : World} : ∀ (l : List (List V)) (b o : Nat), RepX M w l b o → underX M.β.length M.γ.length l = true
  | [], _, _, _ => rfl
  | e :: l, b, o, h => by
    simp only [underX, RepC.under e b o h.1, RepX.under l b _ h.2]; rfl
end
theorem underX_iff {k j : Nat} : ∀ {l : List (List V)}, underX k j l = true ↔ ∀ e ∈ l, underL k j e = true
  | [] => by simp [underX]
  | e :: l => by simp [underX, underX_iff (l := l)]
theorem underX_set {k j p : Nat} {l : List (List V)} {c : List V} (h : underX k j l = true) (hc : underL k j c = true) : underX k j (l.set p c) = true := by
  rw [underX_iff] at h ⊢
  intro e he
  rcases List.mem_or_eq_of_mem_set he with he | rfl
  · exact h e he
  · exact hc
theorem Good.under {B : Nat} {I0 : Nat → Nat → Prop} {w0 : World} {M : Mp} {m : Mem} {w : World} (h : Good B I0 w0 M m w) : underX m.boxes.length m.tips.length m.boxes = true := by
  rw [underX_iff]
  intro e he
  obtain ⟨i, hi, rfl⟩ := List.getElem_of_mem he
  have hβ : M.β[i]? = some (M.β[i]'(by rw [h.lβ]; exact hi)) := List.getElem?_eq_getElem _
  obtain ⟨_, ob, _, hb⟩ := h.box i _ _ hβ (List.getElem?_eq_getElem hi)
  rw [← h.lβ, ← h.lγ]
  rcases hb with ⟨_, vs, T, _, _, hr, _⟩ | ⟨_, str, pos, _, hc⟩ | ⟨fam, st, _, _, hc⟩ | ⟨_, es, c, _, _, hr⟩ | ⟨_, hc⟩
  · exact RepL.under _ _ hr
  · rw [hc]; simp [underL, V.under]
  · rw [hc]; cases st <;> simp [St.v, underL, V.under]
  · exact RepL.under _ _ hr
  · rw [hc]; rfl
section
variable {P : Program} {D : Orc} {own : Nat → Bool} {f : FuncId} {F : F} {args : List V}
/-- A function that writes to boxes that are there; its answer is clean. -/
theorem Loc.ofC (hD : OOk P D) (hm : P.follows .mixedOrders = true) (hF : compF P own f = some F) {m m' : Mem} {r : V} (hn : args.length ≤ F.n) (hr : cleanL [r] = true ∨ ∃ l, r = .tuple l ∧ cleanL l = true) (k j : Nat) (hk : m.boxes.length ≤ k) (hj : m.tips.length ≤ j)
    (h : underX m.boxes.length m.tips.length m.boxes = true → wp P noY D F.c (argS args) m (Fin F.rs fun v m1 => keepN [] v r ∧ underX k j (m1.boxes.take k) = true ∧ m' = ⟨m1.boxes.take k, m1.tips.take j⟩)) : Loc P f args m r m' := by
  have hcl : callable P f = true := by
    unfold compF at hF
    split at hF
    · assumption
    · cases hF
  refine ⟨hcl, fun B I0 w0 M w vals hg hrl => ?_⟩
  refine (calls_sound hm hF hn hg hrl YOk.no (wp_sound hD _ (h hg.under))).2.mono fun e w' ⟨x, M', v, m1, he, hE, hg', hx, hv, hb, hm'⟩ => ?_
  refine ⟨x, M'.cut k j, he, Mp.cut_ext M' k j hE (by rw [hg.lβ]; exact hk) (by rw [hg.lγ]; exact hj), by rw [hm']; exact hg'.cut hb, ?_⟩
  have hx' := keepN_rep hv hx
  rcases hr with hr | ⟨l, rfl, hr⟩
  · simp only [cleanL, Bool.and_true] at hr
    exact Rep.clean (M := M'.sel []) (M' := M'.cut k j) (fun _ _ h => h) r x hr hx'
  · obtain ⟨vs, rfl, hx'⟩ := hx'
    exact ⟨vs, rfl, RepL.clean (M := M'.sel []) (M' := M'.cut k j) (fun _ _ h => h) l _ hr hx'⟩
end
/-- A box of the caller's, below those of one's own. -/
theorem box_facts {l : List (List V)} {p : Nat} (h : p < l.length) :
    (∀ (b : List (List V)), (l ++ b)[p]? = l[p]?) ∧ (∀ (b : List (List V)) (y : List V), (l ++ b).set p y = l.set p y ++ b) ∧ (∀ (b : List (List V)) (y : List V), (l.set p y ++ b)[p]? = some y) ∧ (∀ (c y : List V) (b : List (List V)), (l.set p y ++ c :: b)[l.length]? = some c) ∧
    (∀ (c y z : List V) (b : List (List V)), (l.set p y ++ c :: b).set l.length z = l.set p y ++ z :: b) ∧ (∀ (y z : List V) (b : List (List V)), (l.set p y ++ b).set p z = l.set p z ++ b) ∧ (∀ (y : List V) (b : List (List V)), (l.set p y ++ b).take l.length = l.set p y) := by
  refine ⟨fun b => List.getElem?_append_left h, fun b y => List.set_append_left p y h, fun b y => ?_, fun c y b => ?_, fun c y z b => ?_, fun y z b => ?_, fun y b => ?_⟩
  · rw [List.getElem?_append_left (by simpa using h), List.getElem?_set_self h]
  · rw [List.getElem?_append_right (by simp)]; simp
  · rw [List.set_append_right _ _ (by simp)]; simp
  · rw [List.set_append_left _ _ (by simpa using h), List.set_set]
  · rw [← (List.length_set : (l.set p y).length = l.length), List.take_left']
    rfl
@[simp] theorem sepV_ptr {b o b' o' : Nat} : sepV (.ptr b o) (.ptr b' o') = (b ≠ b') := by
  refine propext ⟨fun h => h b o b' o' rfl rfl, fun h c d c' d' e e' => ?_⟩
  cases e; cases e'; exact h
section
variable {α : Type} [Cel α]
theorem row_dec {M : Mp} {w : World} {x : Value} {t sz : Nat} {xs : List (List V)} {l : List α} (hz : sz = Cel.sz α) (h : decX xs = some l) (hr : Rep M w (.row t sz xs) x) : Rep M w (.row t sz (l.map cs)) x := by
  obtain ⟨G, h4, hr⟩ := hr
  refine ⟨G, h4, ?_⟩
  rcases hr with ⟨rfl, rfl⟩ | ⟨g, c, rfl, h1, h2, h3, h5⟩
  · cases h; exact .inl ⟨rfl, rfl⟩
  · obtain ⟨i1, i2⟩ := RepX.of_dc h h3
    refine .inr ⟨g, c, by rw [i2, List.length_map], by simpa [← i2] using h1, ?_, i1, by rw [List.length_map, ← i2]; exact h5⟩
    intro e he
    obtain ⟨a, _, rfl⟩ := List.mem_map.1 he
    rw [Cel.len, hz]
/-- A row's elements, as plain ones. -/
theorem IW.rowSlot {I : (Nat → V) → Mem → Prop} {s : Nat → V} {m : Mem} {d t sz : Nat} {xs : List (List V)} (l : List α) (hs : s d = .row t sz xs) (hd : decX xs = some l) (hz : sz = Cel.sz α) (h : I (put (some d) (.row t sz (l.map cs)) s) m) : IW I s m :=
  ⟨_, m, Wkn.slot (fun M w x hr => by rw [hs] at hr; exact row_dec hz hd hr), h⟩
end
theorem Loc.wk {P : Program} {f : FuncId} {args args' : List V} {m m' : Mem} {r : V} (h : WkL args args') (hl : Loc P f args' m r m') : Loc P f args m r m' :=
  ⟨hl.1, fun B I0 w0 M w vals hg hr => hl.2 B I0 w0 M w vals hg (h M w vals.toList hr)⟩
theorem WkL.refl : ∀ l : List V, WkL l l := fun _ _ _ _ h => h
/-- The run up to a place. -/
theorem wp_seqC {P : Program} {Y : YRel} {D : Orc} {a b : C} {s : Nat → V} {m : Mem} {Q : Exit → (Nat → V) → Mem → Prop} (R : (Nat → V) → Mem → Prop) (h : wp P Y D a s m (seqQ R Q)) (h2 : ∀ s' m', R s' m' → wp P Y D b s' m' Q) : wp P Y D (.seq a b) s m Q :=
  wp_seq_cut R h h2
section
variable {P : Program} {D : Orc} {own : Nat → Bool} {f : FuncId} {F : F} {args : List V}
/-- A function that calls a 'yield' that is at hand; what is left is all that is there. -/
theorem LocY.ofX {Y : YRel} (hD : OOk P D) (hm : P.follows .mixedOrders = true) (hF : compF P own f = some F) {m m' : Mem} {r : V} (hn : args.length ≤ F.n)
    (h : wp P Y D F.c (argS args) m (Fin F.rs fun v m1 => v = r ∧ m1 = m')) : LocY P Y f args m r m' := by
  have hcl : callable P f = true := by
    unfold compF at hF
    split at hF
    · assumption
    · cases hF
  refine ⟨hcl, fun B I0 w0 M w vals hY hg hrl => ?_⟩
  refine (calls_sound hm hF hn hg hrl hY (wp_sound hD _ h)).2.mono fun e w' ⟨x, M', v, m1, he, hE, hg', hx, hv, hm'⟩ => ?_
  subst hv hm'
  exact ⟨x, M', he, hE, hg', hx⟩
theorem Loc.ofX (hD : OOk P D) (hm : P.follows .mixedOrders = true) (hF : compF P own f = some F) {m m' : Mem} {r : V} (hn : args.length ≤ F.n)
    (h : wp P noY D F.c (argS args) m (Fin F.rs fun v m1 => v = r ∧ m1 = m')) : Loc P f args m r m' := (LocY.ofX hD hm hF hn h).loc
end
/-- What an iterator's calls of 'yield' do, one behind the other. -/
inductive YRun (Y : YRel) (L : Nat) (K : Mem → Prop) : List (List V) → Mem → Mem → Prop
  | done {m : Mem} : YRun Y L K [] m m
  | stop {a : List V} {r : List (List V)} {m m1 : Mem} (h : Y L a m (.val (.bool false)) m1) : YRun Y L K (a :: r) m m1
  | next {a : List V} {r : List (List V)} {m m1 m2 : Mem} (h : Y L a m (.val (.bool true)) m1) (hk : K m1) (h2 : YRun Y L K r m1 m2) : YRun Y L K (a :: r) m m2
end Go.Av

namespace Go.Av
open Enc (enc dec)
open Cel (cs dc)
open Go.RowKit

end Go.Av

namespace Go.Av
open Go.RowKit

/-- What a slice in a box reads as, from a box on. -/
def unref1 (k : Nat) (m : Mem) : V → V
  | .ref (.sli off sz n) b => match m.boxes[b]? with
    | some cs => if k ≤ b ∧ isObj cs = false ∧ off + n * sz ≤ cs.length then .lit sz (chunkV sz n ((cs.map V.top1).drop off)) else .ref (.sli off sz n) b
    | none => .ref (.sli off sz n) b
  | .buf off sz n lc b => match m.boxes[b]? with
    | some cs => if k ≤ b ∧ isObj cs = false ∧ off + n * sz ≤ cs.length then .lit sz (chunkV sz n ((cs.map V.top1).drop off)) else .buf off sz n lc b
    | none => .buf off sz n lc b
  | v => v
def unrefA (k : Nat) (m : Mem) : V → V
  | .agg l => .agg (l.map (unref1 k m))
  | v => unref1 k m v
def unref (k : Nat) (m : Mem) : V → V
  | .tuple l => .tuple (l.map (unrefA k m))
  | v => unrefA k m v
/-- The cells of the boxes from one on, besides those that stay. -/
def Mp.newI (M : Mp) (k : Nat) (m : Mem) (b o : Nat) : Prop := ∃ (i : Nat) (cs : List V), k ≤ i ∧ M.β[i]? = some b ∧ m.boxes[i]? = some cs ∧ o < cs.length ∧ isObj cs = false
def Mp.allI (M : Mp) (k : Nat) (m : Mem) (b o : Nat) : Prop := M.I b o ∨ M.newI k m b o
def Mp.lend (M : Mp) (k : Nat) (m : Mem) : Mp := { M with I := M.allI k m }
theorem Mp.lend_ext (M : Mp) (k : Nat) (m : Mem) (w : World) : Ext M (M.lend k m) w w := ⟨fun _ _ h => h, fun _ G h => ⟨G, h, fun _ h => h⟩, fun _ _ h => ⟨.inl h, rfl⟩, fun _ _ => rfl, fun _ _ => rfl⟩
section
variable {B : Nat} {I0 : Nat → Nat → Prop} {w0 w : World} {M : Mp} {m : Mem} {k : Nat}
theorem Good.allI_lt (h : Good B I0 w0 M m w) {b o : Nat} (hI : M.allI k m b o) : b < w.heap.size := by
  rcases hI with hI | ⟨i, cs, _, h1, _⟩
  · exact h.ilt b o hI
  · exact (h.βlt (List.mem_of_getElem? h1)).1
theorem Good.lendC (h : Good B I0 w0 M m w) {i g : Nat} {cs : List V} (hk : k ≤ i) (hi : M.β[i]? = some g) (hb : m.boxes[i]? = some cs) (hno : isObj cs = false) : RepC (M.lend k m) w (cs.map V.top1) g 0 := by
  obtain ⟨hB, ob, hh, hbr⟩ := h.box i g cs hi hb
  obtain ⟨vs, T, rfl, hle, hl, ho⟩ := hbr.cells hno
  refine RepC.of_get fun j v hj => ?_
  rw [List.getElem?_map, Option.map_eq_some_iff] at hj
  obtain ⟨v0, hj, rfl⟩ := hj
  obtain ⟨x, hx, hr⟩ := hl.get hj
  have hjl := lt_of_some hj
  refine ⟨x, .inr ⟨i, cs, hk, hi, hb, by simpa using hjl, hno⟩, ?_, ho x (List.mem_of_getElem? hx), (Rep.mono (Mp.lend_ext M k m w) _ _ hr).top1⟩
  simp only [World.cell?, hh, Nat.zero_add]
  rw [List.getElem?_take, if_pos hjl] at hx
  simpa using hx
theorem Good.unref1 (h : Good B I0 w0 M m w) {v : V} {x : Value} (hr : Rep M w v x) : Rep (M.lend k m) w (unref1 k m v) x := by
  unfold Av.unref1
  split
  · rename_i off sz n b
    split
    · rename_i cs hb
      split
      · rename_i hc
        obtain ⟨g, c, rfl, hcc, hβ⟩ := hr
        have hC := h.lendC hc.1 hβ hb hc.2.1
        obtain ⟨f1, f2⟩ := chunkV_flat sz n ((cs.map V.top1).drop off) (by simp; omega)
        refine .inr ⟨⟨g, off, none⟩, c, by rw [chunkV_length]; rfl, by rw [chunkV_length]; exact hcc, .inr rfl, f2, RepX.of_flat ?_⟩
        rw [f1]
        have := (hC.drop off).take (n * sz)
        simpa using this
      · exact Rep.mono (Mp.lend_ext M k m w) _ _ hr
    · exact Rep.mono (Mp.lend_ext M k m w) _ _ hr
  · rename_i off sz n lc b
    split
    · rename_i cs hb
      split
      · rename_i hc
        obtain ⟨g, c, rfl, q1, q2, _, hβ, _⟩ := hr
        have hC := h.lendC hc.1 hβ hb hc.2.1
        obtain ⟨f1, f2⟩ := chunkV_flat sz n ((cs.map V.top1).drop off) (by simp; omega)
        refine .inr ⟨⟨g, off, none⟩, c, by rw [chunkV_length], by rw [chunkV_length]; omega, .inr rfl, f2, RepX.of_flat ?_⟩
        rw [f1]
        have := (hC.drop off).take (n * sz)
        simpa using this
      · exact Rep.mono (Mp.lend_ext M k m w) _ _ hr
    · exact Rep.mono (Mp.lend_ext M k m w) _ _ hr
  · exact Rep.mono (Mp.lend_ext M k m w) _ _ hr
theorem RepL.map_imp {M M' : Mp} {w w' : World} {f : V → V} (hf : ∀ v x, Rep M w v x → Rep M' w' (f v) x) : ∀ {l : List V} {us : List Value}, RepL M w l us → RepL M' w' (l.map f) us
  | [], _, h => h
  | v :: l, _, h => by
    obtain ⟨x, r, rfl, h1, h2⟩ := h
    exact ⟨x, r, rfl, hf v x h1, RepL.map_imp hf h2⟩
theorem Good.unrefA (h : Good B I0 w0 M m w) {v : V} {x : Value} (hr : Rep M w v x) : Rep (M.lend k m) w (Av.unrefA k m v) x := by
  unfold Av.unrefA
  split
  · obtain ⟨vs, rfl, hr⟩ := hr
    exact ⟨vs, rfl, RepL.map_imp (fun v x => h.unref1) hr⟩
  · exact h.unref1 hr
theorem Good.unref (h : Good B I0 w0 M m w) {v : V} {x : Value} (hr : Rep M w v x) : Rep (M.lend k m) w (unref k m v) x := by
  unfold Av.unref
  split
  · obtain ⟨vs, rfl, hr⟩ := hr
    exact ⟨vs, rfl, RepL.map_imp (fun v x => h.unrefA) hr⟩
  · exact h.unrefA hr
/-- More cells that stay: of no box, and no row. -/
theorem Good.addI (h : Good B I0 w0 M m w) (J : Nat → Nat → Prop) (hJ : ∀ b o, J b o → B ≤ b ∧ b < w.heap.size ∧ (∀ i : Nat, M.β[i]? = some b → m.boxes[i]? = some deadC) ∧ ∀ (t : Nat) (G : List (Nat × Nat × Nat)) (x : Nat × Nat × Nat), M.γ[t]? = some G → x ∈ G → x.2.1 ≠ b) :
    Good B I0 w0 { M with I := fun b o => M.I b o ∨ J b o } m w ∧ Ext M { M with I := fun b o => M.I b o ∨ J b o } w w := by
  have hE : Ext M { M with I := fun b o => M.I b o ∨ J b o } w w := ⟨fun _ _ h => h, fun _ G h => ⟨G, h, fun _ h => h⟩, fun _ _ h => ⟨.inl h, rfl⟩, fun _ _ => rfl, fun _ _ => rfl⟩
  refine ⟨?_, hE⟩
  exact {
    below := h.below
    sizeB := h.sizeB
    i0 := fun b o hi => .inl (h.i0 b o hi)
    i1 := fun b o hi => hi.elim (h.i1 b o) fun hj => .inr (hJ b o hj).1
    ilt := fun b o hi => hi.elim (h.ilt b o) fun hj => (hJ b o hj).2.1
    lβ := h.lβ
    nd := h.nd
    iβ := fun b o hi i hb => hi.elim (fun hi => h.iβ b o hi i hb) fun hj => (hJ b o hj).2.2.1 i hb
    box := fun i g cs h1 h2 => by
      obtain ⟨k1, ob, k2, k3⟩ := h.box i g cs h1 h2
      exact ⟨k1, ob, k2, k3.mono0 hE rfl⟩
    κlt := h.κlt
    ζb := h.ζb
    lγ := h.lγ
    row := fun t G e sz n h1 h2 => by
      rcases h.row t G e sz n h1 h2 with k | ⟨g, c, xs, k1, k2, k3, k4⟩
      · exact .inl k
      · exact .inr ⟨g, c, xs, k1, k2, k3, fun o ho => ho.elim (k4 o) fun hj => absurd rfl ((hJ g o hj).2.2.2 t G _ h1 k1)⟩
    gen := h.gen
    sep := h.sep }
end
def scal : V → Bool
  | .val _ => true
  | .tuple l => l.all fun v => match v with
    | .val _ => true
    | _ => false
  | _ => false
theorem scal_rep {M M' : Mp} {w w' : World} {v : V} {x : Value} (h : scal v = true) (hr : Rep M w v x) : Rep M' w' v x := by
  unfold scal at h
  split at h
  · exact hr
  · rename_i l
    obtain ⟨vs, rfl, hr⟩ := hr
    refine ⟨vs, rfl, ?_⟩
    generalize vs.toList = us at hr
    induction l generalizing us with
    | nil => exact hr
    | cons v l ih =>
      obtain ⟨x, r, rfl, h1, h2⟩ := hr
      simp only [List.all_cons, Bool.and_eq_true] at h
      refine ⟨x, r, rfl, ?_, ih h.2 r h2⟩
      have h3 := h.1
      split at h3
      · exact h1
      · cases h3
  · cases h
/-- A function that only reads, and tells numbers. -/
theorem Pure.lend {P : Program} {f : FuncId} {args args' : List V} {r : V} {m : Mem} (h : Pure P f args' r []) (hW : WkL (args.map (unref 0 m)) args') (hcl : cleanL args' = true) (hr : scal r = true) : Loc P f args m r m := by
  obtain ⟨hc, hres, h3⟩ := h
  refine ⟨hc, fun B I0 w0 M w vals hg hrl => ?_⟩
  have h1 : RepL (M.lend 0 m) w args' vals.toList := hW _ _ _ (RepL.map_imp (fun v x => hg.unref) hrl)
  have hr' : RepL ⟨[], [], M.allI 0 m, fun _ => none, fun _ => 0⟩ w args' vals.toList := RepL.clean (M := M.lend 0 m) (M' := ⟨[], [], M.allI 0 m, fun _ => none, fun _ => 0⟩) (fun _ _ h => h) _ _ hcl h1
  refine (h3 (M.allI 0 m) w vals (fun b o hI => hg.allI_lt hI) hr').mono fun e w' ⟨x, M1, he, h1, hx1⟩ => ?_
  exact ⟨x, M, he, hg.ext h1.below, hg.grow h1.below, scal_rep hr hx1⟩
theorem Good.lent {B : Nat} {I0 : Nat → Nat → Prop} {w0 w' : World} {M' : Mp} {m' : Mem} (hg : Good B I0 w0 M' m' w') : Good B I0 w0 ⟨[], [], M'.allI 0 m', fun _ => none, fun _ => 0⟩ ⟨[], []⟩ w' := by
  exact {
    below := hg.below
    sizeB := hg.sizeB
    i0 := fun b o hi => .inl (hg.i0 b o hi)
    i1 := fun b o hi => by
      rcases hi with hi | ⟨i, cs, _, h1, _⟩
      · exact hg.i1 b o hi
      · exact .inr (hg.βlt (List.mem_of_getElem? h1)).2
    ilt := fun b o hi => hg.allI_lt hi
    lβ := rfl
    nd := fun i j g h => by simp at h
    iβ := fun b o hi i h => by simp at h
    box := fun i g cs h => by simp at h
    κlt := fun i fam h => by cases h
    ζb := fun i g cs h1 => by simp at h1
    lγ := rfl
    row := fun t G e sz n h => by simp at h
    gen := fun t G x h => by simp at h
    sep := fun t t' G G' x x' h => by simp at h }
/-- Behind the run slices in boxes are as they are, from then on. -/
theorem Pure.ofUv {P : Program} {own : Nat → Bool} {f : FuncId} {F : F} {args : List V} {r : V} (hm : P.follows .mixedOrders = true) (hF : compF P own f = some F) (hn : args.length ≤ F.n)
    (h : vwp P noY F.c (argS args) ⟨[], []⟩ (Fin F.rs fun v m => keepN [] (unref 0 m v) r)) (hcl : r.isClean = true) : Pure P f args r [] := by
  have hca : callable P f = true := by
    unfold compF at hF
    split at hF
    · assumption
    · cases hF
  have hres : r.res = true := by
    cases r with
    | tuple l => 
      have hl : cleanL l = true := hcl
      clear h hcl
      unfold V.res
      induction l with
      | nil => rfl
      | cons v l ih =>
        simp only [cleanL, Bool.and_eq_true] at hl
        simp only [List.all_cons, Bool.and_eq_true]
        refine ⟨?_, ih hl.2⟩
        cases v <;> first | exact hl.1 | simp [V.isClean] at hl
    | row t sz xs => simp [V.isClean] at hcl
    | _ => exact hcl
  refine ⟨hca, hres, fun I w vals hI hr => ?_⟩
  refine (calls_sound hm hF hn (Good.start hI) hr YOk.no h).2.mono fun en w' ⟨x, M', v, m', he, hE, hg, hx, hk⟩ => ?_
  have hx2 := keepN_rep hk ((hg.unref (k := 0) hx))
  refine ⟨x, ⟨[], [], M'.allI 0 m', fun _ => none, fun _ => 0⟩, he, ?_, Rep.clean (M := (M'.lend 0 m').sel []) (M' := ⟨[], [], M'.allI 0 m', fun _ => none, fun _ => 0⟩) (fun _ _ h => h) _ _ hcl hx2⟩
  exact hg.lent
theorem Pure.ofU {P : Program} {D : Orc} {own : Nat → Bool} {f : FuncId} {F : F} {args : List V} {r : V} (hD : OOk P D) (hm : P.follows .mixedOrders = true) (hF : compF P own f = some F) (hn : args.length ≤ F.n)
    (h : wp P noY D F.c (argS args) ⟨[], []⟩ (Fin F.rs fun v m => keepN [] (unref 0 m v) r)) (hcl : r.isClean = true) : Pure P f args r [] := Pure.ofUv hm hF hn (wp_sound hD _ h) hcl
section
variable {P : Program} {D : Orc} {own : Nat → Bool} {f : FuncId} {F : F} {args : List V}
/-- A function that writes to boxes that are there; slices in boxes of its own are as they are, from then on. -/
theorem Loc.ofU (hD : OOk P D) (hm : P.follows .mixedOrders = true) (hF : compF P own f = some F) {m m' : Mem} {r : V} (hn : args.length ≤ F.n) (hr : cleanL [r] = true ∨ ∃ l, r = .tuple l ∧ cleanL l = true) (k j : Nat) (hk : m.boxes.length ≤ k) (hj : m.tips.length ≤ j)
    (h : underX m.boxes.length m.tips.length m.boxes = true → wp P noY D F.c (argS args) m (Fin F.rs fun v m1 => keepN [] (unref k m1 v) r ∧ underX k j (m1.boxes.take k) = true ∧ m' = ⟨m1.boxes.take k, m1.tips.take j⟩)) : Loc P f args m r m' := by
  have hcl : callable P f = true := by
    unfold compF at hF
    split at hF
    · assumption
    · cases hF
  refine ⟨hcl, fun B I0 w0 M w vals hg hrl => ?_⟩
  refine (calls_sound hm hF hn hg hrl YOk.no (wp_sound hD _ (h hg.under))).2.mono fun e w' ⟨x, M', v, m1, he, hE, hg', hx, hv, hb, hm'⟩ => ?_
  have hgc := hg'.cut hb
  have hEc := Mp.cut_ext M' k j hE (by rw [hg.lβ]; exact hk) (by rw [hg.lγ]; exact hj)
  obtain ⟨hg2, hE2⟩ := hgc.addI (M'.newI k m1) (fun b o ⟨i, cs, k1, k2, k3, k4, k5'⟩ => by
    obtain ⟨k5, k6⟩ := hg'.βlt (List.mem_of_getElem? k2)
    refine ⟨k6, k5, fun i2 hi2 => ?_, fun t G x hG hx => ?_⟩
    · simp only [Mp.cut] at hi2
      rw [List.getElem?_take] at hi2
      split at hi2
      · rename_i hlt2
        show (m1.boxes.take k)[i2]? = _
        rw [List.getElem?_take, if_pos hlt2]
        rcases hg'.nd i i2 b k2 hi2 with q | q | q
        · rw [k3] at q
          cases q
          cases k5'
        · exact q
        · omega
      · cases hi2
    · simp only [Mp.cut] at hG
      have hG' : M'.γ[t]? = some G := by
        rw [List.getElem?_take] at hG
        split at hG
        · exact hG
        · cases hG
      intro e
      exact (hg'.gen t G x hG' hx).2.2 (by rw [e]; exact List.mem_of_getElem? k2))
  refine ⟨x, _, he, hEc.trans hE2, by rw [hm']; exact hg2, ?_⟩
  have hx' := keepN_rep hv (hg'.unref (k := k) hx)
  rcases hr with hr | ⟨l, rfl, hr⟩
  · simp only [cleanL, Bool.and_true] at hr
    refine Rep.clean (M := (M'.lend k m1).sel []) ?_ r x hr hx'
    exact fun _ _ h => h
  · obtain ⟨vs, rfl, hx'⟩ := hx'
    refine ⟨vs, rfl, RepL.clean (M := (M'.lend k m1).sel []) ?_ l _ hr hx'⟩
    exact fun _ _ h => h
end
end Go.Av

namespace Go.Av.Pl
structure Zo where
  st : Int
  rs : Int
  data : List UInt8
  la : Int
deriving DecidableEq
def zTakes (z : Zo) : Bool := decide (z.st = 0 ∨ z.st = 1 ∨ z.st = 2)
def zOk (z : Zo) (n : Int) : Bool := decide (1 ≤ n ∧ n ≤ 1048576 ∧ z.data.length ≤ n ∧ 0 ≤ z.la ∧ z.la ≤ z.data.length ∧ 0 ≤ z.rs ∧ z.rs ≤ 1073741824) &&
  (if z.st = 0 then decide (z.data.length = 0) else if zTakes z = true then decide (0 < z.data.length ∧ (z.data.length : Int) < n) else decide (z.st = 3))
def zRoom (z : Zo) (n : Int) : Int := if zOk z n = true ∧ zTakes z = true then n - z.data.length else 0
def zFill (k : Nat) (n some : Int) : Int := if k = 0 then 0 else if (k : Int) = n then 3 else some
end Go.Av.Pl
namespace Go.Av
open Enc (enc dec)
open Cel (cs dc)
open Go.Proofs Pl

instance : Cel Zo where
  sz := 4
  cs x := [enc x.st, enc x.rs, enc x.data, enc x.la]
  dc l := match l with
    | [a, b, c, d] => (dec a).bind fun a => (dec b).bind fun b => (dec c).bind fun c => (dec d).bind fun d => some ⟨a, b, c, d⟩
    | _ => none
  len _ := rfl
  ok l x h := by
    split at h
    · simp only [Option.bind_eq_some_iff] at h
      obtain ⟨a, ha, b, hb, c, hc, d, hd, h⟩ := h
      cases h
      exact wk_dec (wk_dec (wk_dec (wk_dec wk_nil hd) hc) hb) ha
    · cases h
  cl x := by simp [clean_cs]
  de x := by simp [decX_map]
instance : Enc Zo := encC
@[simp] theorem sz_zo : Cel.sz Zo = 4 := rfl
@[simp] theorem cs_zo (x : Zo) : cs x = [.val (.int .i64 x.st), .val (.int .i64 x.rs), .lit 1 (x.data.map cs), .val (.int .i64 x.la)] := rfl
@[simp] theorem enc_zo (x : Zo) : (enc x : V) = .agg [.val (.int .i64 x.st), .val (.int .i64 x.rs), .lit 1 (x.data.map cs), .val (.int .i64 x.la)] := rfl
@[simp] theorem dc_zo (a b c d : V) : (dc [a, b, c, d] : Option Zo) = (dec a).bind fun a => (dec b).bind fun b => (dec c).bind fun c => (dec d).bind fun d => some ⟨a, b, c, d⟩ := rfl
@[simp] theorem dec_zo (l : List V) : (dec (.agg l) : Option Zo) = dc l := rfl

@[simp] def sp_takes (z : Zo) : Option (V × List Tip) := some (enc (zTakes z), [])
end Go.Av

namespace Go.Av
open Enc (enc dec)
open Cel (cs dc)
open Go.Proofs Pl

@[simp] def sp_zCheck (z : Zo) (n : Int) : Option (V × List Tip) := some (enc (zOk z n), [])
@[simp] def sp_filled (z : Zo) (n s : Int) : Option (V × List Tip) := some (enc (zFill z.data.length n s), [])
/-- What is appended: of a box, and the size. -/
structure ApA (m : Mem) (b s : Nat) (ys : List (List V)) (l : List UInt8) (n : Int) : Prop where
  hb : m.boxes[b]? = some [.lit 1 ys]
  hd : decX ys = some l
  hs : m.boxes[s]? = some [.val (.int .i64 n)]
end Go.Av

namespace Go.Av
open Enc (enc dec)
open Cel (cs dc)
open Go.Proofs Pl

end Go.Av

namespace Go.Av.Pl
def zApp (z : Zo) (n : Int) (b : List UInt8) : Zo × Int := if zOk z n = false ∨ b = [] then (z, 1) else if (b.length : Int) ≤ zRoom z n then ({ z with data := z.data ++ b, st := zFill (z.data ++ b).length n 1 }, 0) else (z, 30)
def zFin (z : Zo) : Zo × Int := if zTakes z = true ∧ z.st ≠ 0 then ({ z with st := 3 }, 0) else (z, 30)
def zClo (z : Zo) : Zo × Int := if z.st = 1 then ({ z with st := 2 }, 0) else (z, 30)
def zRes (z : Zo) : Zo × Int := if (zTakes z = true ∨ z.st = 3) ∧ 0 ≤ z.rs ∧ z.rs < 1073741824 then (⟨0, z.rs + 1, [], 0⟩, 0) else (z, 30)
end Go.Av.Pl
namespace Go.Av
open Enc (enc dec)
open Cel (cs dc)
open Go.Proofs Pl

@[simp] def sp_zRoom (z : Zo) (n : Int) : Option (V × List Tip) := some (enc (zRoom z n), [])
end Go.Av

namespace Go.Av.Pl
structure Rec where
  kind : Int
  seq : Int
  body : List UInt8
deriving DecidableEq
def Rec.zero : Rec := ⟨0, 0, []⟩
end Go.Av.Pl
namespace Go.Av
open Enc (enc dec)
open Cel (cs dc)
open Go.Proofs Pl

instance : Cel Rec where
  sz := 3
  cs x := [enc x.kind, enc x.seq, enc x.body]
  dc l := match l with
    | [a, b, c] => (dec a).bind fun a => (dec b).bind fun b => (dec c).bind fun c => some ⟨a, b, c⟩
    | _ => none
  len _ := rfl
  ok l x h := by
    split at h
    · simp only [Option.bind_eq_some_iff] at h
      obtain ⟨a, ha, b, hb, c, hc, h⟩ := h
      cases h
      exact wk_dec (wk_dec (wk_dec wk_nil hc) hb) ha
    · cases h
  cl x := by simp [clean_cs]
  de x := by simp [decX_map]
instance : Enc Rec := encC
@[simp] theorem sz_rec : Cel.sz Rec = 3 := rfl
@[simp] theorem cs_rec (x : Rec) : cs x = [.val (.int .i64 x.kind), .val (.int .i64 x.seq), .lit 1 (x.body.map cs)] := rfl
@[simp] theorem enc_rec (x : Rec) : (enc x : V) = .agg [.val (.int .i64 x.kind), .val (.int .i64 x.seq), .lit 1 (x.body.map cs)] := rfl
@[simp] theorem dc_rec (a b c : V) : (dc [a, b, c] : Option Rec) = (dec a).bind fun a => (dec b).bind fun b => (dec c).bind fun c => some ⟨a, b, c⟩ := rfl
@[simp] theorem dec_rec (l : List V) : (dec (.agg l) : Option Rec) = dc l := rfl

@[simp] def sp_rsame (a b : Rec) : Option (V × List Tip) := some (enc (decide (a = b)), [])
theorem under_cs (k j : Nat) : ∀ l : List UInt8, underX k j (l.map cs) = true
  | [] => rfl
  | a :: l => by simp only [List.map_cons, underX, under_cs k j l]; rfl
theorem underX_app {k j : Nat} : ∀ {a b : List (List V)}, underX k j (a ++ b) = (underX k j a && underX k j b)
  | [], b => rfl
  | x :: a, b => by simp only [List.cons_append, underX, underX_app (a := a), Bool.and_assoc]
/-- A box of a number. -/
def boxI (m : Mem) (p : Nat) : Option Int := match m.boxes[p]? with
  | some [.val (.int .i64 n)] => some n
  | _ => none
theorem boxI_some {m : Mem} {p : Nat} {b : Int} (h : boxI m p = some b) : m.boxes[p]? = some [.val (.int .i64 b)] := by
  unfold boxI at h
  split at h
  · cases h; assumption
  · cases h
@[simp] theorem boxI_of {m : Mem} {p : Nat} {b : Int} (h : m.boxes[p]? = some [.val (.int .i64 b)]) : boxI m p = some b := by simp [boxI, h]
end Go.Av

namespace Go.Av.Pl
structure Dv where
  size : Int
  zones : List Zo
  left : Int
  down : Bool
  done : Int
deriving DecidableEq
def dOk (d : Dv) : Bool := !(d.zones.any fun z => !zOk z d.size) && decide (0 < d.zones.length ∧ d.zones.length ≤ 64 ∧ 0 < d.size ∧ d.size ≤ 1048576)
def zIdx (pr : Zo → Bool) (l : List Zo) : Int := match l.findIdx? pr with
  | some i => i
  | none => -1
/-- How many zones are in a state. -/
def stN (q : Int) (l : List Zo) : Nat := l.countP fun z => decide (z.st = q)
end Go.Av.Pl
namespace Go.Av
open Enc (enc dec)
open Cel (cs dc)
open Go.Proofs Pl

instance : Cel Dv where
  sz := 5
  cs x := [enc x.size, enc x.zones, enc x.left, enc x.down, enc x.done]
  dc l := match l with
    | [a, b, c, d, e] => (dec a).bind fun a => (dec b).bind fun b => (dec c).bind fun c => (dec d).bind fun d => (dec e).bind fun e => some ⟨a, b, c, d, e⟩
    | _ => none
  len _ := rfl
  ok l x h := by
    split at h
    · simp only [Option.bind_eq_some_iff] at h
      obtain ⟨a, ha, b, hb, c, hc, d, hd, e, he, h⟩ := h
      cases h
      exact wk_dec (wk_dec (wk_dec (wk_dec (wk_dec wk_nil he) hd) hc) hb) ha
    · cases h
  cl x := by simp [clean_cs]
  de x := by simp [decX_map]
instance : Enc Dv := encC
@[simp] theorem cs_dv (x : Dv) : cs x = [.val (.int .i64 x.size), .lit 4 (x.zones.map cs), .val (.int .i64 x.left), .val (.bool x.down), .val (.int .i64 x.done)] := rfl
@[simp] theorem enc_dv (x : Dv) : (enc x : V) = .agg [.val (.int .i64 x.size), .lit 4 (x.zones.map cs), .val (.int .i64 x.left), .val (.bool x.down), .val (.int .i64 x.done)] := rfl
@[simp] theorem dc_dv (a b c d e : V) : (dc [a, b, c, d, e] : Option Dv) = (dec a).bind fun a => (dec b).bind fun b => (dec c).bind fun c => (dec d).bind fun d => (dec e).bind fun e => some ⟨a, b, c, d, e⟩ := rfl
@[simp] theorem dec_dv (l : List V) : (dec (.agg l) : Option Dv) = dc l := rfl

end Go.Av

namespace Go.Av
open Enc (enc dec)
open Cel (cs dc)
open Go.Proofs Pl

end Go.Av

namespace Go.Av
open Enc (enc dec)
open Cel (cs dc)
open Go.Proofs Pl

/-- The cells of zones. -/
def zC (l : List Zo) : List V := (l.map cs).flatten
theorem cs4 (z : Zo) : (cs z : List V).length = 4 := rfl
theorem zC_cons (z : Zo) (l : List Zo) : zC (z :: l) = cs z ++ zC l := rfl
theorem zC_length : ∀ (l : List Zo), (zC l).length = l.length * 4
  | [] => rfl
  | z :: l => by rw [zC_cons, List.length_append, zC_length l, cs4, List.length_cons]; omega
theorem chunk_zC (l : List Zo) : chunkV 4 l.length (zC l) = l.map cs := by
  have := chunkV_of (sz := 4) (l.map cs) (by intro e he; obtain ⟨z, _, rfl⟩ := List.mem_map.1 he; rfl) []
  simpa [zC] using this

/-- Of zones in a box. -/
def rdZ (m : Mem) : V → Option (List Zo)
  | .ref (.sli 0 4 n) b => (m.boxes[b]?).bind fun c => if c.length = n * 4 then decX (chunkV 4 n (c.map V.top1)) else none
  | _ => none
def rdD (m : Mem) : V → Option Dv
  | .agg [a, z, b, c, d] => (dec a).bind fun a => (rdZ m z).bind fun z => (dec b).bind fun b => (dec c).bind fun c => (dec d).bind fun d => some ⟨a, z, b, c, d⟩
  | _ => none
theorem zC_top1 : ∀ l : List Zo, (zC l).map V.top1 = zC l
  | [] => rfl
  | z :: l => by
    rw [zC_cons, List.map_append, zC_top1 l]
    rfl
theorem rdZ_of {m : Mem} {b : Nat} {l : List Zo} {n : Nat} (hn : n = l.length) (h : m.boxes[b]? = some (zC l)) : rdZ m (.ref (.sli 0 4 n) b) = some l := by
  subst hn
  simp only [rdZ, h, Option.bind_some, zC_length, if_true, zC_top1, chunk_zC, decX_map]
end Go.Av

namespace Go.Av.Pl
/-- What a command does to a zone. -/
def dCmd (k : Int) (d : Dv) (z : Zo) (b : List UInt8) : Zo × Int :=
  if k = 1 then (if z.st ≠ 1 ∧ 3 ≤ stN 1 d.zones then (z, 30) else zApp z d.size b) else if k = 2 then zRes z else if k = 3 then zFin z else zClo z
end Go.Av.Pl
namespace Go.Av
open Enc (enc dec)
open Cel (cs dc)
open Go.Proofs Pl

theorem Mem.le_app (m : Mem) (bs : List (List V)) (t : List Tip) : m.le ⟨m.boxes ++ bs, t⟩ := fun b cs h => by
  rw [List.getElem?_append_left (lt_of_some h)]; exact h
/-- A device's box. -/
def dvAt (m : Mem) (p : Nat) : Option Dv := (m.boxes[p]?).bind fun c => rdD m (.agg c)
@[simp] def sp_zAppend (z : Zo) (n : Int) (b : List UInt8) : Option (V × List Tip) := if z.data.length ≤ 2 ^ 30 ∧ b.length ≤ 2 ^ 30 then some (.tuple [enc (zApp z n b).1, enc (zApp z n b).2], []) else none
@[simp] def sp_zUn (f : Zo → Zo × Int) (z : Zo) : Option (V × List Tip) := if z.data.length ≤ 2 ^ 30 then some (.tuple [enc (f z).1, enc (f z).2], []) else none
end Go.Av

namespace Go.Av
open Enc (enc dec)
open Cel (cs dc)
open Go.Proofs Pl

/-- A device in two boxes. -/
structure DB (m : Mem) (p zb : Nat) (d : Dv) : Prop where
  hp : m.boxes[p]? = some [.val (.int .i64 d.size), .ref (.sli 0 4 d.zones.length) zb, .val (.int .i64 d.left), .val (.bool d.down), .val (.int .i64 d.done)]
  hz : m.boxes[zb]? = some (zC d.zones)
theorem DB.at {m : Mem} {p zb : Nat} {d : Dv} (h : DB m p zb d) : dvAt m p = some d := by
  unfold dvAt
  rw [h.hp, Option.bind_some]
  unfold rdD
  simp only [rdZ_of rfl h.hz, Option.bind_some, dec_int, dec_bool]
theorem DB.app {m : Mem} {p zb : Nat} {d : Dv} (h : DB m p zb d) (bs : List (List V)) (t : List Tip) : DB ⟨m.boxes ++ bs, t⟩ p zb d := ⟨Mem.le_app m bs t _ _ h.hp, Mem.le_app m bs t _ _ h.hz⟩
/-- What may be in a device. -/
structure DSm (d : Dv) : Prop where
  n : d.zones.length ≤ 2 ^ 40
  z : ∀ z ∈ d.zones, z.data.length ≤ 2 ^ 30
section
variable {q : Bool} {D : Orc} {x x' : V} {args : List V} {m : Mem} {F : V → Mem → Prop}
@[congr] theorem callrW_congr (h : NF x = x') : callrW q D x args m F = callrW q D x' args m F := by rw [← h]; rfl
@[simp] theorem callrW_func {f : FuncId} {cap : List V} : callrW q D (.func f cap) args m F = ((q = false ∧ D.isLoc f = true) ∧ goWp (D.loc f (args ++ cap) m) fun v m' => (m' = m ∧ ∀ m1, m.le m1 → D.loc f (args ++ cap) m1 = some (v, m1)) ∧ F v m') := Eq.trans rfl rfl
end
@[simp] theorem addL_loc (D : Orc) (n : FuncId) (sp : List V → Mem → Option (V × Mem)) : (D.addL n sp).loc n = sp := if_pos rfl
@[simp] theorem addL_isLoc (D : Orc) (n : FuncId) (sp : List V → Mem → Option (V × Mem)) : (D.addL n sp).isLoc n = true := if_pos rfl
end Go.Av

namespace Go.Av.Pl
def dLeft (d : Dv) : Int := if 0 < d.left then d.left - 1 else d.left
/-- A device behind a command that was done. -/
def dDid (d : Dv) (zs : List Zo) : Dv := ⟨d.size, zs, dLeft d, d.down, d.done + 1⟩
end Go.Av.Pl
namespace Go.Av
open Enc (enc dec)
open Cel (cs dc)
open Go.Proofs Pl

end Go.Av

namespace Go.Av
open Enc (enc dec)
open Cel (cs dc)
open Go.Proofs Pl

/-- What a command must find to be done. -/
structure CmdOk (k : Int) (d : Dv) (i : Nat) (b : List UInt8) (hi : i < d.zones.length) (z' : Zo) : Prop where
  hb : b.length ≤ 2 ^ 30
  hc : dCmd k d d.zones[i] b = (z', 0)
  ok : dOk d = true
  hd : d.down = false
  hl : ¬ d.left = 0
  hll : -(2 ^ 62) ≤ d.left ∧ d.left ≤ 2 ^ 62
  hdn : 0 ≤ d.done ∧ d.done ≤ 2 ^ 62
end Go.Av

namespace Go.Av
open Enc (enc dec)
open Cel (cs dc)
open Go.Proofs

/-- The number that bytes are. -/
def leN : List UInt8 → Nat
  | [] => 0
  | b :: l => b.toNat + 256 * leN l
theorem leN_lt : ∀ l : List UInt8, leN l < 256 ^ l.length
  | [] => by simp [leN]
  | b :: l => by
    have := leN_lt l
    have := b.toNat_lt
    simp only [leN, List.length_cons, Nat.pow_succ]
    omega
theorem leN_append : ∀ l m : List UInt8, leN (l ++ m) = leN l + 256 ^ l.length * leN m
  | [], m => by simp [leN]
  | b :: l, m => by
    simp only [List.cons_append, leN, leN_append l m, List.length_cons, Nat.pow_succ, Nat.mul_add]
    rw [← Nat.mul_assoc, Nat.mul_comm 256 (256 ^ l.length)]
    omega
def okT (b : List UInt8) (w : Int) : Bool := mayB 0 w && decide (w ≤ b.length)
def takeV (b : List UInt8) (w : Int) : Nat := if okT b w = true then leN (b.take w.toNat) else 0
def takeR (b : List UInt8) (w : Int) : List UInt8 := if okT b w = true then b.drop w.toNat else []
def takeE (b : List UInt8) (w : Int) : Int := if okT b w = true then 0 else 10
theorem or_shl (x y k : Nat) (hx : x < 2 ^ k) (hy : x + y * 2 ^ k < 2 ^ 64) : bitOr .u64 (x : Int) (y * 2 ^ k : Nat) = ((x + y * 2 ^ k : Nat) : Int) := by
  have h2 : y * 2 ^ k < 2 ^ 64 := by omega
  have hx2 : x < 2 ^ 64 := by omega
  have e : x ||| y * 2 ^ k = x + y * 2 ^ k := by
    have := Nat.two_pow_add_eq_or_of_lt hx y
    rw [Nat.mul_comm y, Nat.or_comm, ← this]; omega
  unfold bitOr
  rw [IntKind.wrap_u64]
  have e2 : (BitVec.ofInt 64 (x : Int) ||| BitVec.ofInt 64 ((y * 2 ^ k : Nat) : Int)).toNat = x + y * 2 ^ k := by
    rw [BitVec.ofInt_natCast, BitVec.ofInt_natCast, BitVec.toNat_or, BitVec.toNat_ofNat, BitVec.toNat_ofNat, Nat.mod_eq_of_lt hx2, Nat.mod_eq_of_lt h2, e]
  show (((BitVec.ofInt 64 (x : Int) ||| BitVec.ofInt 64 ((y * 2 ^ k : Nat) : Int)).toNat : Nat) : Int) % 18446744073709551616 = _
  rw [e2]
  omega

theorem c_le_Take (b : List UInt8) (w : Int) (hb : b.length ≤ 2 ^ 40) : Pure Try.prog n_le_Take [enc b, enc w] (.tuple [enc (takeV b w), .row 0 1 ((takeR b w).map cs), enc (takeE b w)]) [(5, 1, (takeR b w).length)] := by
  refine Pure.ofR D1_ok hm F_le_Take_ok (by simp [F_le_Take]) (by simp [V.res, V.res1]) ?_
  simp [F_le_Take, D1]
  refine ⟨fun h => ⟨fun hlt => ?_, fun hle => ?_⟩, fun h => ?_⟩
  · have : okT b w = false := by simp [okT]; omega
    simp [takeV, takeR, takeE, this]
  · obtain ⟨n, rfl, hn, _⟩ := mayB_cases h
    have ok : okT b n = true := by simp [okT, h]; omega
    have e1 : takeV b n = leN (b.take n) := by simp [takeV, ok]
    have e2 : takeR b n = b.drop n := by simp [takeR, ok]
    have e3 : takeE b n = 0 := by simp [takeE, ok]
    rw [e1, e2, e3]
    have hnb : n ≤ b.length := by omega
    refine wp_loop (fun k s m => ∃ i, i + k = n ∧ s 17 = .val (.int .i64 n) ∧ s 18 = .val (.int .i64 i) ∧ s 1 = .val (.int .i64 n) ∧ s 0 = .lit 1 (b.map cs) ∧ s 4 = .val (.int .u64 (leN (b.take i) : Nat)) ∧ m = ⟨[], [(5, 1, 0)]⟩)
      n (IW.of ⟨0, by omega, by simp, by simp, by simp, by simp, by simp [leN], by simp⟩) fun k s m ⟨i, hik, h17, h18, h1, h0, h4, hm⟩ => ?_
    subst hm
    by_cases hlt : i < n
    · have hg : b[i]? = some b[i] := List.getElem?_eq_getElem (by omega)
      have hs : b.take (i + 1) = b.take i ++ [b[i]] := by rw [List.take_add_one, hg]; rfl
      have hl : (b.take i).length = i := by simp; omega
      have hlt1 := leN_lt (b.take i)
      have hlt2 := leN_lt (b.take (i + 1))
      have hl2 : (b.take (i + 1)).length = i + 1 := by simp; omega
      rw [hl] at hlt1
      rw [hl2] at hlt2
      have e5 : leN (b.take (i + 1)) = leN (b.take i) + b[i].toNat * 2 ^ (8 * i) := by
        rw [hs, leN_append, hl, Nat.pow_mul]; simp [leN, Nat.mul_comm]
      have h64 : 256 ^ (i + 1) ≤ 2 ^ 64 := by
        have : 256 ^ (i + 1) ≤ 256 ^ 8 := Nat.pow_le_pow_right (by omega) (by omega)
        simpa using this
      have h64' : leN (b.take (i + 1)) < 2 ^ 64 := Nat.lt_of_lt_of_le hlt2 h64
      have eb : IntKind.u64.wrap (b[i].toNat : Int) = b[i].toNat := by have := b[i].toNat_lt; exact IntWalk.u64_in _ (by omega)
      have e8 : IntKind.i64.wrap (8 * (i : Int)) = ((8 * i : Nat) : Int) := by rw [IntWalk.i64_in _ (by omega)]; omega
      have e9 : min (8 * i) IntKind.u64.bits = 8 * i := Nat.min_eq_left (show 8 * i ≤ 64 by omega)
      have e10 : IntKind.u64.wrap ((b[i].toNat * 2 ^ (8 * i) : Nat) : Int) = ((b[i].toNat * 2 ^ (8 * i) : Nat) : Int) := IntWalk.u64_in _ (by omega)
      have e11 : (b[i].toNat : Int) * 2 ^ (8 * i) = ((b[i].toNat * 2 ^ (8 * i) : Nat) : Int) := by simp
      have e12 := or_shl (leN (b.take i)) b[i].toNat (8 * i) (by rw [Nat.pow_mul]; exact hlt1) (by rw [← e5]; exact h64')
      simp [F_le_Take_L0, h17, h18, h1, h0, h4, hg, hlt, eb, e8, e9, e10, e11, e12, -Int.natCast_mul, -Int.natCast_pow, -Int.natCast_add]
      refine ⟨k - 1, by omega, IW.of ⟨i + 1, by omega, by simpa using h17, ?_, by simpa using h1, by simpa using h0, ?_, by simp⟩⟩
      · simp; rw [IntWalk.i64_in _ (by omega)]
      · simp [e5]
    · obtain rfl : i = n := by omega
      simp [F_le_Take_L0, h17, h18, h1, h0, h4, D1]
      omega
  · have : okT b w = false := by simp [okT, h]
    simp [takeV, takeR, takeE, this]

@[simp] def sp_Put (b : List UInt8) (v : Nat) (w : Int) : Option (V × List Tip) := if b.length ≤ 2 ^ 40 then some (.tuple [.row 0 1 ((bytesPut b v w).map cs), enc (errPut v w)], [(5, 1, (bytesPut b v w).length)]) else none
@[simp] def sp_Take (b : List UInt8) (w : Int) : Option (V × List Tip) := if b.length ≤ 2 ^ 40 then some (.tuple [enc (takeV b w), .row 0 1 ((takeR b w).map cs), enc (takeE b w)], [(5, 1, (takeR b w).length)]) else none

/-- The extern that looks for a byte. -/
theorem x_indexByte (b : ByteArray) (c : Int) : ExtR Try.prog n_internal_bytealg_IndexByteString [.val (.string b), .val (.int .u8 c)] (.val (.int .i64 (Lib.indexByte b.data.toList c.toNat.toUInt8))) := by
  intro M w vals hr
  obtain ⟨x, r, e, ⟨rfl, _⟩, y, r2, rfl, ⟨rfl, _⟩, e3⟩ := hr
  simp only [RepL] at e3
  subst e3
  have hv : vals = #[.string b, .int .u8 c] := by apply Array.ext'; simpa using e
  subst hv
  refine ⟨_, ?_, ⟨rfl, rfl⟩⟩
  rw [run_callFunc_indexByte (P := Try.prog) (f := n_internal_bytealg_IndexByteString) (fn := (Try.prog.funcs[n_internal_bytealg_IndexByteString]?).getD default) (by kernel_rfl) (by kernel_rfl) (by kernel_rfl) (by kernel_rfl) (by kernel_rfl), Lib.run_indexByteString]
  rfl
end Go.Av

namespace Go.Av
open Enc (enc dec)
open Cel (cs dc)
open Go.Proofs

/-- A letter's size. -/
def sizeL (c : Nat) : Int := if c = 98 then 1 else if c = 104 then 2 else if c = 119 then 4 else if c = 113 then 8 else 0

/-- The place of a byte, as the extern tells it. -/
@[simp] def sp_ixb : List V → Option (V × List Tip)
  | [.val (.string b), .val (.int .u8 c)] => some (.val (.int .i64 (Lib.indexByte b.data.toList c.toNat.toUInt8)), [])
  | _ => none
theorem sp_ixb_ok : EOk Try.prog n_internal_bytealg_IndexByteString sp_ixb := by
  intro args v tips h
  unfold sp_ixb at h
  split at h
  · cases h; exact .inr ⟨rfl, rfl, x_indexByte _ _⟩
  · cases h
def D2a : Orc := Orc.nil.add n_internal_bytealg_IndexByteString sp_ixb
theorem D2a_ok : OOk Try.prog D2a := OOk.nil.add sp_ixb_ok
theorem c_slite (b : ByteArray) (c : UInt8) : Pure Try.prog n_internal_stringslite_IndexByte [enc b, enc c] (enc (Lib.indexByte b.data.toList c)) [] := by
  refine Pure.ofC D2a_ok hm F_internal_stringslite_IndexByte_ok (by simp [F_internal_stringslite_IndexByte]) rfl ?_
  simp [F_internal_stringslite_IndexByte, D2a]
@[simp] def sp_slite (b : ByteArray) (c : UInt8) : Option (V × List Tip) := some (enc (Lib.indexByte b.data.toList c), [])
def D2b : Orc := Orc.nil.add n_internal_stringslite_IndexByte (sp2 sp_slite)
theorem D2b_ok : OOk Try.prog D2b := OOk.nil.add (sp2_ok fun b c r h => by cases h; exact c_slite b c)
theorem c_strIndexByte (b : ByteArray) (c : UInt8) : Pure Try.prog n_strings_IndexByte [enc b, enc c] (enc (Lib.indexByte b.data.toList c)) [] := by
  refine Pure.ofC D2b_ok hm F_strings_IndexByte_ok (by simp [F_strings_IndexByte]) rfl ?_
  simp [F_strings_IndexByte, D2b]
def D2c : Orc := Orc.nil.add n_strings_IndexByte (sp2 sp_slite)
theorem D2c_ok : OOk Try.prog D2c := OOk.nil.add (sp2_ok fun b c r h => by cases h; exact c_strIndexByte b c)
theorem c_IndexRune (b : ByteArray) (c : Nat) (hc : c < 128) : Pure Try.prog n_strings_IndexRune [enc b, enc (Rune.mk c)] (enc (Lib.indexByte b.data.toList (UInt8.ofNat c))) [] := by
  refine Pure.ofC D2c_ok hm F_strings_IndexRune_ok (by simp [F_strings_IndexRune]) rfl ?_
  have e : IntKind.u8.wrap (c : Int) = c := IntWalk.u8_in _ (by omega)
  have h0 : (0 : Int) ≤ c := by omega
  have h1 : (c : Int) < 128 := by omega
  have h2 : (c : Int) < 256 := by omega
  simp [F_strings_IndexRune, D2c, h1, e, h2]
/-- The place of a letter in a text. -/
def ixr (b : ByteArray) (c : Nat) : Int := Lib.indexByte b.data.toList (UInt8.ofNat c)
@[simp] def sp_ixr (b : ByteArray) (c : Rune) : Option (V × List Tip) := if 0 ≤ c.v ∧ c.v < 128 then some (enc (ixr b c.v.toNat), []) else none
def D2d : Orc := Orc.nil.add n_strings_IndexRune (sp2 sp_ixr)
theorem D2d_ok : OOk Try.prog D2d := OOk.nil.add (sp2_ok fun b c r h => by
  simp only [sp_ixr] at h
  split at h <;> cases h
  rename_i hc
  obtain ⟨n, hn⟩ : ∃ n : Nat, c = ⟨n⟩ := ⟨c.v.toNat, by cases c; simp at hc ⊢; omega⟩
  subst hn
  exact c_IndexRune b n (by simp at hc; omega))
theorem idx_bhwq (c : Nat) (hc : c < 128) : (if 0 ≤ Lib.indexByte [98, 104, 119, 113] (UInt8.ofNat c) then (2 : Int) ^ (Lib.indexByte [98, 104, 119, 113] (UInt8.ofNat c)).toNat else 0) = sizeL c := by
  have : ∀ c : _root_.Fin 128, (if 0 ≤ Lib.indexByte [98, 104, 119, 113] (UInt8.ofNat c.val) then (2 : Int) ^ (Lib.indexByte [98, 104, 119, 113] (UInt8.ofNat c.val)).toNat else 0) = sizeL c.val := by decide
  exact this ⟨c, hc⟩
theorem idx_le (c : UInt8) : -1 ≤ Lib.indexByte [98, 104, 119, 113] c ∧ Lib.indexByte [98, 104, 119, 113] c ≤ 3 := by
  simp only [Lib.indexByte]
  repeat' split
  all_goals simp_all
theorem c_le_size (c : Nat) (hc : c < 128) : Pure Try.prog n_le_size [enc (Rune.mk c)] (enc (sizeL c)) [] := by
  refine Pure.ofC D2d_ok hm F_le_size_ok (by simp [F_le_size]) rfl ?_
  have h1 : (c : Int) < 128 := by omega
  have h2 : (if 0 ≤ ixr ⟨#[98, 104, 119, 113]⟩ c then (2 : Int) ^ (ixr ⟨#[98, 104, 119, 113]⟩ c).toNat else 0) = sizeL c := idx_bhwq c hc
  have h3 : -1 ≤ ixr ⟨#[98, 104, 119, 113]⟩ c ∧ ixr ⟨#[98, 104, 119, 113]⟩ c ≤ 3 := idx_le _
  simp [F_le_size, D2d, h1]
  generalize ixr ⟨#[98, 104, 119, 113]⟩ c = x at h2 h3
  refine ⟨fun h => ⟨h, ?_⟩, fun h => ?_⟩
  · rw [if_pos h] at h2
    rw [← h2]
    have : x = 0 ∨ x = 1 ∨ x = 2 ∨ x = 3 := by omega
    rcases this with rfl | rfl | rfl | rfl <;> decide
  · rw [if_neg (by omega)] at h2
    exact h2
end Go.Av

namespace Go.Av
open Enc (enc dec)
open Cel (cs dc)
open Go.Proofs

/-- Numbers by a form. -/
def packS : List UInt8 → List Nat → Option (List UInt8)
  | [], [] => some []
  | c :: f, n :: l => if mayB n (sizeL c.toNat) = true then (packS f l).map (leB n (sizeL c.toNat).toNat ++ ·) else none
  | _, _ => none
def packB (f : List UInt8) (l : List Nat) : List UInt8 := (packS f l).getD []
def packE (f : List UInt8) (l : List Nat) : Int := if (packS f l).isSome = true then 0 else 10

@[simp] def sp_size (c : Rune) : Option (V × List Tip) := if 0 ≤ c.v ∧ c.v < 128 then some (enc (sizeL c.v.toNat), []) else none
def D3 : Orc := ((Orc.nil.add n_le_size (sp1 sp_size)).add n_le_Put (sp3 sp_Put)).add n_le_Take (sp2 sp_Take)
theorem D3_ok : OOk Try.prog D3 := by
  refine ((OOk.nil.add (sp1_ok fun c r h => ?_)).add (sp3_ok fun b v w r h => ?_)).add (sp2_ok fun b w r h => ?_)
  · simp only [sp_size] at h
    split at h <;> cases h
    rename_i hc
    obtain ⟨n, hn⟩ : ∃ n : Nat, c = ⟨n⟩ := ⟨c.v.toNat, by cases c; simp at hc ⊢; omega⟩
    subst hn
    exact c_le_size n (by simp at hc; omega)
  · simp only [sp_Put] at h
    split at h <;> cases h
    exact c_le_Put b v w (by assumption)
  · simp only [sp_Take] at h
    split at h <;> cases h
    exact c_le_Take b w (by assumption)
theorem sizeL_le (c : Nat) : 0 ≤ sizeL c ∧ sizeL c ≤ 8 := by
  unfold sizeL
  repeat' split
  all_goals omega
theorem dec_form (f : List UInt8) (i : Nat) (c : UInt8) (hf : ∀ c ∈ f, c.toNat < 128) (h : f[i]? = some c) : Utf8.decode ⟨f.toArray⟩ i = (c.toNat, 1) ∧ c.toNat < 128 := by
  obtain ⟨hlt, he⟩ := List.getElem?_eq_some_iff.1 h
  have hc := hf c (he ▸ List.getElem_mem hlt)
  refine ⟨?_, hc⟩
  have e : (⟨f.toArray⟩ : ByteArray)[i]'(by show i < f.toArray.size; simpa using hlt) = c := by
    show f.toArray[i] = c
    simpa using he
  rw [decode_ascii ⟨f.toArray⟩ i (by show i < f.toArray.size; simpa using hlt) (by rw [e]; exact hc), e]

def PackI (f : List UInt8) (l : List Nat) (k : Nat) (s : Nat → V) (m : Mem) : Prop :=
  ∃ i acc t tips, i + k = f.length ∧ i ≤ l.length ∧ packS f l = (packS (f.drop i) (l.drop i)).map (acc ++ ·) ∧ acc.length ≤ 8 * i ∧ s 1 = .lit 1 (l.map cs) ∧ s 10 = .ptr 0 0 ∧ s 6 = .val (.int .i64 i) ∧ s 4 = .row t 1 (acc.map cs) ∧
      m = ⟨[[.tuple [.val (.string ⟨f.toArray⟩), .val (.int .i64 i)]]], tips⟩ ∧ tips[t]? = some (5, 1, acc.length)
theorem c_le_Pack (f : List UInt8) (l : List Nat) (hf : ∀ c ∈ f, c.toNat < 128) (hl : f.length ≤ 2 ^ 30) (hn : l.length ≤ 2 ^ 30) :
    Pure Try.prog n_le_Pack [enc (⟨f.toArray⟩ : ByteArray), enc l] (.tuple [.row 0 1 ((packB f l).map cs), enc (packE f l)]) [(5, 1, (packB f l).length)] := by
  refine Pure.ofR D3_ok hm F_le_Pack_ok (by simp [F_le_Pack]) (by simp [V.res, V.res1]) ?_
  simp [F_le_Pack]
  refine wp_loop (PackI f l)
    f.length (IW.of ⟨0, [], 0, [(5, 1, 0)], by omega, by omega, by simp, by simp, by simp, by simp, by simp, by simp, by simp, by simp⟩) fun k s m ⟨i, acc, t, tips, hik, hil, hp, ha, h1, h10, h6, h4, hm, ht⟩ => ?_
  subst hm
  by_cases hlt : i < f.length
  · have hfi : f[i]? = some f[i] := List.getElem?_eq_getElem hlt
    obtain ⟨hd, hc⟩ := dec_form f i f[i] hf hfi
    have hfd : f.drop i = f[i] :: f.drop (i + 1) := List.drop_eq_getElem_cons hlt
    have hc' : (f[i].toNat : Int) < 128 := by omega
    have hsz : (⟨f.toArray⟩ : ByteArray).size = f.length := by show f.toArray.size = _; simp
    by_cases hln : i < l.length
    · have hli : l[i]? = some l[i] := List.getElem?_eq_getElem hln
      have hld : l.drop i = l[i] :: l.drop (i + 1) := List.drop_eq_getElem_cons hln
      have hne : ¬ ((i : Int) = l.length) := by omega
      have hw := sizeL_le f[i].toNat
      cases hmay : mayB l[i] (sizeL f[i].toNat) with
      | false =>
        have hnone : packS f l = none := by rw [hp, hfd, hld]; simp [packS, hmay]
        simp [F_le_Pack_L0, h1, h10, h6, h4, hd, hsz, hlt, D3, hc', hli, hne, packB, packE, hnone, errPut, hmay]
        omega
      | true =>
        have e1 : bytesPut acc l[i] (sizeL f[i].toNat) = acc ++ leB l[i] (sizeL f[i].toNat).toNat := by simp [bytesPut, hmay]
        have e2 : errPut l[i] (sizeL f[i].toNat) = 0 := by simp [errPut, hmay]
        simp [F_le_Pack_L0, h1, h10, h6, h4, hd, hsz, hlt, D3, hc', hli, hne, e1, e2, leB_length]
        refine ⟨by omega, k - 1, by omega, IW.of ⟨i + 1, acc ++ leB l[i] (sizeL f[i].toNat).toNat, tips.length, tips ++ [(5, 1, acc.length + (sizeL f[i].toNat).toNat)], by omega, by omega, ?_, by simp [leB_length]; omega, by simpa using h1, by simpa using h10, ?_, by simp, by simp, by simp [leB_length]⟩⟩
        · rw [hp, hfd, hld]
          simp [packS, hmay, Function.comp_def]
        · simp; rw [IntWalk.i64_in _ (by omega)]
    · have hnil : l.drop i = [] := List.drop_eq_nil_of_le (by omega)
      have he : ((i : Int) = l.length) := by omega
      have hnone : packS f l = none := by rw [hp, hfd, hnil]; simp [packS]
      simp [F_le_Pack_L0, h1, h10, h6, h4, hsz, D3, he, packB, packE, hnone]
      omega
  · have hfnil : f.drop i = [] := List.drop_eq_nil_of_le (by omega)
    have hsz : (⟨f.toArray⟩ : ByteArray).size = f.length := by show f.toArray.size = _; simp
    by_cases hln : i < l.length
    · have hld : l.drop i = l[i] :: l.drop (i + 1) := List.drop_eq_getElem_cons hln
      have hnone : packS f l = none := by rw [hp, hfnil, hld]; simp [packS]
      simp [F_le_Pack_L0, h1, h10, h6, h4, hsz, hlt, hln, packB, packE, hnone]
    · have hnil : l.drop i = [] := List.drop_eq_nil_of_le (by omega)
      have hsome : packS f l = some acc := by rw [hp, hfnil, hnil]; simp [packS]
      simp [F_le_Pack_L0, h1, h10, h6, h4, hsz, hlt, hln, packB, packE, hsome, ht]

/-- The numbers that bytes are, by a form. -/
def unpackS : List UInt8 → List UInt8 → Option (List Nat)
  | [], b => if b = [] then some [] else none
  | c :: f, b => if okT b (sizeL c.toNat) = true then (unpackS f (b.drop (sizeL c.toNat).toNat)).map (leN (b.take (sizeL c.toNat).toNat) :: ·) else none
def unpackN (f b : List UInt8) : List Nat := (unpackS f b).getD []
def unpackE (f b : List UInt8) : Int := if (unpackS f b).isSome = true then 0 else 10
end Go.Av

namespace Go.Av
open Enc (enc dec)
open Cel (cs dc)
open Go.Proofs

/-- A form's letters are letters of a byte each. -/
def formOk (f : ByteArray) : Bool := f.data.toList.all (fun c => decide (c.toNat < 128)) && decide (f.size ≤ 2 ^ 30)
theorem formOk_spec {f : ByteArray} (h : formOk f = true) : (∀ c ∈ f.data.toList, c.toNat < 128) ∧ f.data.toList.length ≤ 2 ^ 30 := by
  simp only [formOk, Bool.and_eq_true, List.all_eq_true, decide_eq_true_eq] at h
  exact ⟨h.1, by rw [Array.length_toList]; exact h.2⟩
@[simp] def sp_pack (f : ByteArray) (l : List Nat) : Option (V × List Tip) := if formOk f = true ∧ l.length ≤ 2 ^ 30 then some (.tuple [.row 0 1 ((packB f.data.toList l).map cs), enc (packE f.data.toList l)], [(5, 1, (packB f.data.toList l).length)]) else none
@[simp] def sp_unpack (f : ByteArray) (b : List UInt8) : Option (V × List Tip) := if formOk f = true ∧ b.length ≤ 2 ^ 40 then some (.tuple [.row 0 1 ((unpackN f.data.toList b).map cs), enc (unpackE f.data.toList b)], [(114, 1, (unpackN f.data.toList b).length)]) else none
theorem ba_eta (f : ByteArray) : (⟨f.data.toList.toArray⟩ : ByteArray) = f := by cases f; simp
theorem sp_pack_ok : EOk Try.prog n_le_Pack (sp2 sp_pack) := sp2_ok fun f l r h => by
  simp only [sp_pack] at h
  split at h <;> cases h
  rename_i h
  have := c_le_Pack f.data.toList l (formOk_spec h.1).1 (formOk_spec h.1).2 h.2
  rwa [ba_eta] at this
theorem tipset {tips xs : List Tip} {t : Nat} {b : Tip} (h : t < tips.length) : ((tips ++ xs).set t b)[t]? = some b := by rw [List.getElem?_set_self (by simp; omega)]
end Go.Av

namespace Go.Av
open Enc (enc dec)
open Cel (cs dc)
open Go.Proofs

@[simp] def sp_rmay (w : Int) : Option (V × List Tip) := some (enc (mayB 0 w), [])
@[simp] def sp_rsize (c : UInt8) : Option (V × List Tip) := some (enc (sizeL c.toNat), [])
@[simp] def sp_Pack (f : ByteArray) (l : List Nat) : Option (V × List Tip) := if (∀ c ∈ f.data.toList, c.toNat < 128) ∧ f.size ≤ 2 ^ 30 ∧ l.length ≤ 2 ^ 30 then some (.tuple [.row 0 1 ((packB f.data.toList l).map cs), enc (packE f.data.toList l)], [(5, 1, (packB f.data.toList l).length)]) else none
end Go.Av

namespace Go.Av
open Enc (enc dec)
open Cel (cs dc)
open Go.Proofs

end Go.Av

/- Sums, by numbers: no Go here. -/
namespace Go.Av.Pl

def poly : Nat := 2197175160
def stepN (n : Nat) : Nat := if n % 2 = 1 then n / 2 ^^^ poly else n / 2
def step4 (n : Nat) : Nat := stepN (stepN (stepN (stepN n)))
def tabL : List Nat := [0, 274646895, 549293790, 820201905, 1098587580, 1361435347, 1640403810, 1905808397, 2197175160, 2460548119, 2722870694, 2987750089, 3280807620, 3553878443, 3811616794, 4084100981]
theorem stepN_xor (a b : Nat) : stepN (a ^^^ b) = stepN a ^^^ stepN b := by
  have h1 : (a ^^^ b) / 2 = a / 2 ^^^ b / 2 := by
    have := Nat.shiftRight_xor_distrib (a := a) (b := b) (i := 1)
    simpa [Nat.shiftRight_eq_div_pow] using this
  have h2 : (a ^^^ b) % 2 = (a + b) % 2 := by
    have h : (a ^^^ b) % 2 ^ 1 = a % 2 ^ 1 ^^^ b % 2 ^ 1 := Nat.xor_mod_two_pow
    rw [Nat.pow_one] at h
    rw [h, Nat.add_mod]
    rcases Nat.mod_two_eq_zero_or_one a with ha | ha <;> rcases Nat.mod_two_eq_zero_or_one b with hb | hb <;> rw [ha, hb] <;> rfl
  unfold stepN
  rw [h1, h2]
  rcases Nat.mod_two_eq_zero_or_one a with ha | ha <;> rcases Nat.mod_two_eq_zero_or_one b with hb | hb
  · rw [if_neg (by omega), if_neg (by omega), if_neg (by omega)]
  · rw [if_pos (by omega), if_neg (by omega), if_pos (by omega), Nat.xor_assoc]
  · rw [if_pos (by omega), if_pos (by omega), if_neg (by omega), Nat.xor_assoc, Nat.xor_assoc, Nat.xor_comm poly]
  · rw [if_neg (by omega), if_pos (by omega), if_pos (by omega)]
    rw [Nat.xor_assoc, Nat.xor_comm poly, Nat.xor_assoc, Nat.xor_self, Nat.xor_zero]
theorem stepN_two (x : Nat) : stepN (2 * x) = x := by
  unfold stepN
  rw [if_neg (by omega)]
  omega
theorem split16 (n : Nat) : n = (16 * (n / 16)) ^^^ (n % 16) := by
  apply Nat.eq_of_testBit_eq
  intro i
  rw [Nat.testBit_xor, show 16 * (n / 16) = 2 ^ 4 * (n / 16) from rfl, show n % 16 = n % 2 ^ 4 from rfl, show n / 16 = n / 2 ^ 4 from rfl, Nat.testBit_mod_two_pow, Nat.testBit_two_pow_mul, Nat.testBit_div_two_pow]
  by_cases h : i < 4
  · have : ¬ (4 ≤ i) := by omega
    simp [h, this]
  · have : 4 ≤ i := by omega
    simp [h, this]
/-- The table's. -/
def tabN (n : Nat) : Nat := tabL.getD (n % 16) 0
theorem step4_tab (n : Nat) : step4 n = (n / 16) ^^^ tabN n := by
  have h16 : ∀ q, step4 (16 * q) = q := fun q => by
    unfold step4
    rw [show 16 * q = 2 * (2 * (2 * (2 * q))) by omega, stepN_two, stepN_two, stepN_two, stepN_two]
  have hx : ∀ a b, step4 (a ^^^ b) = step4 a ^^^ step4 b := fun a b => by unfold step4; rw [stepN_xor, stepN_xor, stepN_xor, stepN_xor]
  have ht : ∀ r : _root_.Fin 16, step4 r.val = tabL.getD r.val 0 := by decide
  conv => lhs; rw [split16 n]
  rw [hx, h16, ht ⟨n % 16, by omega⟩]
  rfl
theorem stepN_lt {n : Nat} (h : n < 2 ^ 32) : stepN n < 2 ^ 32 := by
  unfold stepN
  split
  · exact Nat.xor_lt_two_pow (by omega) (by decide)
  · omega
/-- A byte more. -/
def crcB (n : Nat) (b : UInt8) : Nat := step4 (step4 (n ^^^ b.toNat))
def crcF (n : Nat) (l : List UInt8) : Nat := l.foldl crcB n
def crcN (sum : Nat) (l : List UInt8) : Nat := crcF (sum ^^^ 4294967295) l ^^^ 4294967295
theorem step4_lt {n : Nat} (h : n < 2 ^ 32) : step4 n < 2 ^ 32 := stepN_lt (stepN_lt (stepN_lt (stepN_lt h)))
theorem crcB_lt {n : Nat} (h : n < 2 ^ 32) (b : UInt8) : crcB n b < 2 ^ 32 := by
  have := b.toNat_lt
  exact step4_lt (step4_lt (Nat.xor_lt_two_pow h (by omega)))
theorem crcF_lt : ∀ (l : List UInt8) {n : Nat}, n < 2 ^ 32 → crcF n l < 2 ^ 32
  | [], _, h => h
  | b :: l, _, h => crcF_lt l (crcB_lt h b)
theorem crcN_lt {sum : Nat} (h : sum < 2 ^ 32) (l : List UInt8) : crcN sum l < 2 ^ 32 :=
  Nat.xor_lt_two_pow (crcF_lt l (Nat.xor_lt_two_pow h (by decide))) (by decide)
theorem crcF_append (n : Nat) (a b : List UInt8) : crcF n (a ++ b) = crcF (crcF n a) b := List.foldl_append ..
end Go.Av.Pl

namespace Go.Av
open Enc (enc dec)
open Cel (cs dc)
open Go.Proofs Pl

theorem xor32 {a b : Nat} (ha : a < 2 ^ 32) (hb : b < 2 ^ 32) : bitXor .u32 (a : Int) (b : Int) = ((a ^^^ b : Nat) : Int) := by
  unfold bitXor
  have e : (BitVec.ofInt 32 (a : Int) ^^^ BitVec.ofInt 32 (b : Int)).toNat = a ^^^ b := by
    rw [BitVec.ofInt_natCast, BitVec.ofInt_natCast, BitVec.toNat_xor, BitVec.toNat_ofNat, BitVec.toNat_ofNat, Nat.mod_eq_of_lt ha, Nat.mod_eq_of_lt hb]
  show IntKind.u32.wrap (((BitVec.ofInt 32 (a : Int) ^^^ BitVec.ofInt 32 (b : Int)).toNat : Nat) : Int) = _
  have := Nat.xor_lt_two_pow ha hb
  rw [e, IntWalk.u32_in _ (by omega)]
theorem and15 {a : Nat} (ha : a < 2 ^ 32) : bitAnd .u32 (a : Int) 15 = ((a % 16 : Nat) : Int) := by
  unfold bitAnd
  have e : (BitVec.ofInt 32 (a : Int) &&& BitVec.ofInt 32 (15 : Int)).toNat = a % 16 := by
    rw [BitVec.ofInt_natCast, show BitVec.ofInt 32 (15 : Int) = BitVec.ofNat 32 15 from rfl, BitVec.toNat_and, BitVec.toNat_ofNat, BitVec.toNat_ofNat, Nat.mod_eq_of_lt ha]
    exact Nat.and_two_pow_sub_one_eq_mod a 4
  show IntKind.u32.wrap (((BitVec.ofInt 32 (a : Int) &&& BitVec.ofInt 32 (15 : Int)).toNat : Nat) : Int) = _
  rw [e, IntWalk.u32_in _ (by omega)]
def u32V (n : Nat) : V := .val (.int .u32 n)
theorem c_bytes_Equal (a b : List UInt8) : Pure Try.prog n_bytes_Equal [enc a, enc b] (enc (a == b)) [] := by
  refine Pure.ofC OOk.nil hm F_bytes_Equal_ok (by simp [F_bytes_Equal]) rfl ?_
  simp [F_bytes_Equal]
theorem c_halves : Pure Try.prog n_crc_halves [] (.agg (tabL.map u32V)) [] := by
  refine Pure.ofC OOk.nil hm F_crc_halves_ok (by simp [F_crc_halves]) rfl ?_
  simp [F_crc_halves, tabL, u32V]
@[simp] def sp_halves : Option (V × List Tip) := some (.agg (tabL.map u32V), [])
def D6 : Orc := Orc.nil.add n_crc_halves (sp0 sp_halves)
theorem D6_ok : OOk Try.prog D6 := OOk.nil.add (sp0_ok fun r h => by cases h; exact c_halves)
def MoreI (sum : Nat) (l : List UInt8) (k : Nat) (s : Nat → V) (m : Mem) : Prop :=
  ∃ i : Nat, i + k = l.length ∧ s 0 = u32V (crcF sum (l.take i)) ∧ s 5 = .ptr 0 0 ∧ s 11 = .lit 1 (l.map cs) ∧ s 12 = .val (.int .i64 l.length) ∧ s 13 = .val (.int .i64 i) ∧ m = ⟨[tabL.map u32V], []⟩
theorem tab_get (n : Nat) : (tabL.map u32V)[n % 16]? = some (u32V (tabN n)) := by
  have : n % 16 < tabL.length := by show n % 16 < 16; omega
  rw [List.getElem?_map, List.getElem?_eq_getElem this]
  simp [tabN, List.getD_eq_getElem?_getD, List.getElem?_eq_getElem this]
theorem tab_lt (n : Nat) : tabN n < 2 ^ 32 := by
  have ht : ∀ r : _root_.Fin 16, tabL.getD r.val 0 < 2 ^ 32 := by decide
  exact ht ⟨n % 16, by omega⟩
theorem c_crc_More (sum : Nat) (l : List UInt8) (hs : sum < 2 ^ 32) (hl : l.length ≤ 2 ^ 40) : Pure Try.prog n_crc_More [u32V sum, enc l] (u32V (crcN sum l)) [] := by
  refine Pure.ofC D6_ok hm F_crc_More_ok (by simp [F_crc_More]) rfl ?_
  have hx := xor32 hs (show 4294967295 < 2 ^ 32 by decide)
  have hx' : bitXor .u32 (sum : Int) 4294967295 = ((sum ^^^ 4294967295 : Nat) : Int) := hx
  have hlt := Nat.xor_lt_two_pow hs (show 4294967295 < 2 ^ 32 by decide)
  have htl : (tabL.map u32V).length = 16 := rfl
  simp [F_crc_More, u32V, hx', D6]
  refine ⟨by rfl, ?_⟩
  refine wp_loop (MoreI (sum ^^^ 4294967295) l) l.length (IW.of ⟨0, Nat.zero_add _, by simp [u32V, crcF], by simp, by simp, by simp, by simp, by simp⟩) fun k s m ⟨i, hik, h0, h5, h11, h12, h13, hm⟩ => ?_
  subst hm
  have hc := crcF_lt (l.take i) hlt
  by_cases hi : i < l.length
  · have hg : l[i]? = some l[i] := List.getElem?_eq_getElem hi
    have hb := l[i].toNat_lt
    have hobj : isObj (tabL.map u32V) = false := rfl
    have w1 : IntKind.u32.wrap (l[i].toNat : Int) = l[i].toNat := IntWalk.u32_in _ (by omega)
    have x1 := xor32 hc (show l[i].toNat < 2 ^ 32 by omega)
    have hn1 := Nat.xor_lt_two_pow hc (show l[i].toNat < 2 ^ 32 by omega)
    have hd : ∀ n : Nat, (n : Int).fdiv (2 ^ min 4 IntKind.u32.bits) = ((n / 16 : Nat) : Int) := fun n => by
      rw [show min 4 IntKind.u32.bits = 4 from rfl, shr_eq]
    have hm16 : ∀ n : Nat, ((n % 16 : Nat) : Int) < 16 := fun n => by omega
    have a1 := and15 hn1
    have x2 := xor32 (show (crcF (sum ^^^ 4294967295) (l.take i) ^^^ l[i].toNat) / 16 < 2 ^ 32 by omega) (tab_lt (crcF (sum ^^^ 4294967295) (l.take i) ^^^ l[i].toNat))
    rw [← step4_tab] at x2
    have hn2 := step4_lt hn1
    have a2 := and15 hn2
    have x3 := xor32 (show step4 (crcF (sum ^^^ 4294967295) (l.take i) ^^^ l[i].toNat) / 16 < 2 ^ 32 by omega) (tab_lt (step4 (crcF (sum ^^^ 4294967295) (l.take i) ^^^ l[i].toNat)))
    rw [← step4_tab] at x3
    simp only [u32V] at h0
    have tg := tab_get
    simp only [u32V] at tg hobj
    simp [F_crc_More_L0, h0, h5, h11, h12, h13, hg, hi, hobj, w1, x1, hd, a1, x2, a2, x3, hm16, u32V, tg, -Int.natCast_emod, -Int.natCast_ediv, -List.getElem?_map]
    refine ⟨k - 1, by omega, IW.of (show MoreI (sum ^^^ 4294967295) l _ _ _ from ⟨i + 1, by omega, ?_, by simpa using h5, by simpa using h11, by simpa using h12, ?_, rfl⟩)⟩
    · have e1 : l.take (i + 1) = l.take i ++ [l[i]] := by rw [List.take_add_one, hg]; rfl
      have e2 : crcF (sum ^^^ 4294967295) (l.take (i + 1)) = crcB (crcF (sum ^^^ 4294967295) (l.take i)) l[i] := by rw [e1, crcF_append]; rfl
      rw [e2]
      simp [u32V, crcB]
    · simp; rw [IntWalk.i64_in _ (by omega)]
  · have hil : i = l.length := by omega
    have ht : l.take i = l := by rw [hil, List.take_length]
    rw [ht] at h0 hc
    have hx2 : bitXor .u32 ((crcF (sum ^^^ 4294967295) l : Nat) : Int) 4294967295 = ((crcN sum l : Nat) : Int) := xor32 hc (show 4294967295 < 2 ^ 32 by decide)
    simp only [u32V] at h0
    simp [F_crc_More_L0, h0, h12, h13, hi, hx2]

@[simp] def sp_More (s : UInt32) (l : List UInt8) : Option (V × List Tip) := if l.length ≤ 2 ^ 40 then some (u32V (crcN s.toNat l), []) else none
def D7 : Orc := Orc.nil.add n_crc_More (sp2 sp_More)
theorem D7_ok : OOk Try.prog D7 := OOk.nil.add (sp2_ok fun s l r h => by
  simp only [sp_More] at h
  split at h <;> cases h
  exact c_crc_More s.toNat l s.toNat_lt (by assumption))
theorem c_crc_Sum (l : List UInt8) (hl : l.length ≤ 2 ^ 40) : Pure Try.prog n_crc_Sum [enc l] (u32V (crcN 0 l)) [] := by
  refine Pure.ofC D7_ok hm F_crc_Sum_ok (by simp [F_crc_Sum]) rfl ?_
  simp [F_crc_Sum, D7, u32V]
  omega
@[simp] def sp_Sum (l : List UInt8) : Option (V × List Tip) := if l.length ≤ 2 ^ 40 then some (u32V (crcN 0 l), []) else none
/-- A text with its sum behind. -/
def sealS (l : List UInt8) : List UInt8 := l ++ leB (crcN 0 l) 4
theorem put4 (l b : List UInt8) : bytesPut b (crcN 0 l) 4 = b ++ leB (crcN 0 l) 4 ∧ errPut (crcN 0 l) 4 = 0 := by
  have h := crcN_lt (sum := 0) (by decide) l
  have : mayB (crcN 0 l) 4 = true := by simp [mayB]; exact h
  simp [bytesPut, errPut, this]
def D8 : Orc := (Orc.nil.add n_crc_Sum (sp1 sp_Sum)).add n_le_Put (sp3 sp_Put)
theorem D8_ok : OOk Try.prog D8 := by
  refine (OOk.nil.add (sp1_ok fun l r h => ?_)).add (sp3_ok fun b v w r h => ?_)
  · simp only [sp_Sum] at h
    split at h <;> cases h
    exact c_crc_Sum l (by assumption)
  · simp only [sp_Put] at h
    split at h <;> cases h
    exact c_le_Put b v w (by assumption)
theorem u64_32 {n : Nat} (h : n < 2 ^ 32) : IntKind.u64.wrap (n : Int) = n := IntWalk.u64_in _ (by omega)
theorem c_crc_Seal (l : List UInt8) (hl : l.length ≤ 2 ^ 40) : Pure Try.prog n_crc_Seal [enc l] (.row 0 1 ((sealS l).map cs)) [(5, 1, (sealS l).length)] := by
  refine Pure.ofR D8_ok hm F_crc_Seal_ok (by simp [F_crc_Seal]) (by simp [V.res, V.res1]) ?_
  have h := u64_32 (crcN_lt (sum := 0) (by decide) l)
  have h4 := put4 l l
  simp [F_crc_Seal, D8, u32V, h, h4.1, h4.2, sealS]
  omega
@[simp] def sp_Seal (l : List UInt8) : Option (V × List Tip) := if l.length ≤ 2 ^ 40 then some (.row 0 1 ((sealS l).map cs), [(5, 1, (sealS l).length)]) else none
@[simp] def sp_Equal (a b : List UInt8) : Option (V × List Tip) := some (enc (a == b), [])
/-- The text of one. -/
def openOk (b : List UInt8) : Bool := decide (4 ≤ b.length) && (sealS (b.take (b.length - 4)) == b)
def openT (b : List UInt8) : List UInt8 := if openOk b = true then b.take (b.length - 4) else []
def openE (b : List UInt8) : Int := if openOk b = true then 0 else 20
@[simp] def sp_step (n : UInt32) : Option (V × List Tip) := some (u32V (stepN n.toNat), [])
end Go.Av

namespace Go.Av.Pl
def recOk (r : Rec) : Bool := decide (1 ≤ r.kind ∧ r.kind ≤ 5 ∧ 0 ≤ r.seq ∧ r.seq ≤ 4611686018427387903 ∧ r.body.length ≤ 4096)
def recE (r : Rec) : Int := if recOk r = true then 0 else 50
def recH (r : Rec) : List UInt8 := leB 1196184151 4 ++ (leB r.kind.toNat 2 ++ (leB r.body.length 2 ++ leB r.seq.toNat 8))
def recB (r : Rec) : List UInt8 := if recOk r = true then sealS (recH r ++ r.body) else []
def recSz (n : Int) : Int := if n < 0 ∨ 4096 < n then 0 else n + 20
/-- The first zone of a state that has room for so many bytes. -/
def dFirst (d : Dv) (q n : Int) : Int := zIdx (fun z => decide (z.st = q) && decide (n ≤ zRoom z d.size)) d.zones
def placeE (d : Dv) (n : Int) : Int := if dOk d = false ∨ n < 1 ∨ d.size < n then 1 else if 0 ≤ dFirst d 1 n then 0 else if dFirst d 0 n < 0 then 60 else 0
def placeN (d : Dv) (n : Int) : Int := if dOk d = false ∨ n < 1 ∨ d.size < n then 0 else if 0 ≤ dFirst d 1 n then dFirst d 1 n else if dFirst d 0 n < 0 then 0 else dFirst d 0 n
def placeL (d : Dv) (n : Int) : List Rec := if dOk d = false ∨ n < 1 ∨ d.size < n then [] else if 0 ≤ dFirst d 1 n then [] else if dFirst d 0 n < 0 then [] else if 3 ≤ stN 1 d.zones then [⟨3, dFirst d 1 0, []⟩] else []
end Go.Av.Pl
namespace Go.Av
open Enc (enc dec)
open Cel (cs dc)
open Go.Proofs Pl

theorem c_rSize (n : Int) : Pure Try.prog n_record_Size [enc n] (enc (recSz n)) [] := by
  refine Pure.ofC OOk.nil hm F_record_Size_ok (by simp [F_record_Size]) rfl ?_
  by_cases h1 : n < 0
  · simp [F_record_Size, recSz, h1]
  · by_cases h2 : 4096 < n
    · simp [F_record_Size, recSz, h1, h2]
    · have w1 := IntWalk.i64_in (16 + n) (by omega)
      have w2 := IntWalk.i64_in (16 + n + 4) (by omega)
      simp [F_record_Size, recSz, h1, h2, w1, w2]
      omega
@[simp] def sp_rCheck (r : Rec) : Option (V × List Tip) := some (enc (recE r), [])
@[simp] def sp_dCheck (d : Dv) : Option (V × List Tip) := if d.zones.length ≤ 2 ^ 40 then some (enc (dOk d), []) else none
@[simp] def sp_dOpen (d : Dv) : Option (V × List Tip) := if d.zones.length ≤ 2 ^ 40 then some (enc (stN 1 d.zones : Int), []) else none
@[simp] def sp_lFirst (d : Dv) (a b : Int) : Option (V × List Tip) := if d.zones.length ≤ 2 ^ 40 then some (enc (dFirst d a b), []) else none
end Go.Av

namespace Go.Av.Pl
structure Cx where
  re : Nat
  im : Nat
deriving DecidableEq
/-- What a command makes of its zone, if it is done. -/
def dDoZ (d : Dv) (c : Rec) : Option Zo := (d.zones[c.seq.toNat]?).bind fun z => if 0 ≤ c.seq ∧ 1 ≤ c.kind ∧ c.kind ≤ 4 ∧ (dCmd c.kind d z c.body).2 = 0 then some (dCmd c.kind d z c.body).1 else none
def dDoR (d : Dv) (c : Rec) : Option Dv := if dOk d = true ∧ d.down = false ∧ ¬ d.left = 0 ∧ (-(2 ^ 62) ≤ d.left ∧ d.left ≤ 2 ^ 62) ∧ (0 ≤ d.done ∧ d.done ≤ 2 ^ 62) ∧ c.body.length ≤ 2 ^ 30 then (dDoZ d c).map fun z => dDid d (d.zones.set c.seq.toNat z) else none
/-- The commands that append a record. -/
def cmdL (d : Dv) (r : Rec) : List Rec := placeL d (recB r).length ++ [⟨1, placeN d (recB r).length, recB r⟩]
def oneD (d : Dv) (r : Rec) : Option Dv := (cmdL d r).foldlM dDoR d
def oneC (d : Dv) (r : Rec) : Cx := ⟨FloatKind.f64.nearest (placeN d (recB r).length), FloatKind.f64.nearest ((d.zones.getD (placeN d (recB r).length).toNat ⟨0, 0, [], 0⟩).data.length : Int)⟩
def one1 (d : Dv) (r : Rec) : Option (Dv × Cx × Int) :=
  if d.zones.length ≤ 2 ^ 40 then (if recOk r = false then some (d, ⟨0, 0⟩, 50) else if placeE d (recB r).length ≠ 0 then some (d, ⟨0, 0⟩, placeE d (recB r).length) else (oneD d r).map fun d' => (d', oneC d r, 0)) else none
end Go.Av.Pl
namespace Go.Av
open Enc (enc dec)
open Cel (cs dc)
open Go.Proofs Pl

instance : Enc Cx where
  enc x := .val (.complex .f64 x.re x.im)
  dec v := match v with
    | .val (.complex .f64 a b) => some ⟨a, b⟩
    | _ => none
  cl x := rfl
  ok v x h M w us hr := by
    split at h
    · cases h; exact hr
    · cases h
  de x := rfl
instance : Cel Cx := ⟨1, fun a => [enc a], dc1, fun _ => rfl, dc1_ok, fun a => by simp [Enc.cl], fun a => by simp [dc1, Enc.de]⟩
@[simp] theorem dv_eta (d : Dv) : (⟨d.size, d.zones, d.left, d.down, d.done⟩ : Dv) = d := rfl
@[simp] theorem rec_eta (d : Rec) : (⟨d.kind, d.seq, d.body⟩ : Rec) = d := rfl
@[simp] theorem zo_eta (d : Zo) : (⟨d.st, d.rs, d.data, d.la⟩ : Zo) = d := rfl
@[simp] theorem enc_cx (n : Cx) : (enc n : V) = .val (.complex .f64 n.re n.im) := rfl
@[simp] theorem dec_cx (a b : Nat) : (dec (.val (.complex .f64 a b)) : Option Cx) = some ⟨a, b⟩ := rfl
@[simp] theorem cs_cx (n : Cx) : cs n = [.val (.complex .f64 n.re n.im)] := rfl
@[simp] theorem dc_cx (l : List V) : (dc l : Option Cx) = dc1 l := rfl
@[simp] theorem sz_cx : Cel.sz Cx = 1 := rfl
@[simp] def sp_dDo (d : Dv) (c : Rec) : Option (V × List Tip) := (dDoR d c).map fun d' => (.tuple [enc d', .val (.int .i64 0)], [])
@[simp] def sp_rWrite (r : Rec) : Option (V × List Tip) := some (.tuple [enc (recB r), enc (recE r)], [])
@[simp] def sp_lPlace (d : Dv) (n : Int) : Option (V × List Tip) := if d.zones.length ≤ 2 ^ 40 then some (.tuple [enc (placeN d n), .row 0 3 ((placeL d n).map cs), enc (placeE d n)], [(89, 3, (placeL d n).length)]) else none
end Go.Av

namespace Go.Av.Pl
end Go.Av.Pl
namespace Go.Av
open Enc (enc dec)
open Cel (cs dc)
open Go.Proofs Pl

@[simp] def sp_dLimit (d : Dv) (n : Int) : Option (V × List Tip) := if d.zones.length ≤ 2 ^ 40 ∧ d.zones.all (fun z => decide (z.data.length ≤ 2 ^ 30)) = true ∧ d.zones ≠ [] then some (enc { d with left := n }, []) else none
@[simp] def sp_lOne (d : Dv) (r : Rec) : Option (V × List Tip) := (one1 d r).map fun R => (.tuple [enc R.1, enc R.2.1, enc R.2.2], [])
end Go.Av

namespace Go.Av
open Enc (enc dec)
open Cel (cs dc)
open Go.Proofs Pl

theorem c_held (n a b : Int) : Pure Try.prog n_space_held_int [enc n, enc a, enc b] (enc (min (max n a) b)) [] := by
  refine Pure.ofC OOk.nil hm F_space_held_int_ok (by simp [F_space_held_int]) rfl ?_
  simp [F_space_held_int]
@[simp] def sp_held (n a b : Int) : Option (V × List Tip) := some (enc (min (max n a) b), [])
theorem sp_held_ok : EOk Try.prog n_space_held_int (sp3 sp_held) := sp3_ok fun a b c r h => by cases h; exact c_held a b c
def Dp1 : Orc := Orc.nil.add n_space_held_int (sp3 sp_held)
theorem Dp1_ok : OOk Try.prog Dp1 := OOk.nil.add sp_held_ok
def mayZ (n : Int) : Bool := decide (8192 ≤ n ∧ n ≤ 1048576)
def someZ (n : Int) : Bool := decide (1 ≤ n ∧ n ≤ 64)
theorem c_spMay (n : Int) : Pure Try.prog n_space_may [enc n] (enc (mayZ n)) [] := by
  refine Pure.ofC Dp1_ok hm F_space_may_ok (by simp [F_space_may]) rfl ?_
  simp [F_space_may, Dp1, mayZ]
  rw [Bool.eq_iff_iff]
  simp
  omega
theorem c_spSome (n : Int) : Pure Try.prog n_space_some [enc n] (enc (someZ n)) [] := by
  refine Pure.ofC Dp1_ok hm F_space_some_ok (by simp [F_space_some]) rfl ?_
  simp [F_space_some, Dp1, someZ]
  rw [Bool.eq_iff_iff]
  simp
  omega
@[simp] def sp_spMay (n : Int) : Option (V × List Tip) := some (enc (mayZ n), [])
theorem sp_spMay_ok : EOk Try.prog n_space_may (sp1 sp_spMay) := sp1_ok fun a r h => by cases h; exact c_spMay a
@[simp] def sp_spSome (n : Int) : Option (V × List Tip) := some (enc (someZ n), [])
theorem sp_spSome_ok : EOk Try.prog n_space_some (sp1 sp_spSome) := sp1_ok fun a r h => by cases h; exact c_spSome a
@[simp] def sp_rSize (n : Int) : Option (V × List Tip) := some (enc (recSz n), [])
theorem sp_rSize_ok : EOk Try.prog n_record_Size (sp1 sp_rSize) := sp1_ok fun a r h => by cases h; exact c_rSize a
def Dp2 : Orc := (((Dp1.add n_space_may (sp1 sp_spMay)).add n_space_some (sp1 sp_spSome)).add n_record_Size (sp1 sp_rSize))
theorem Dp2_ok : OOk Try.prog Dp2 := ((Dp1_ok.add sp_spMay_ok).add sp_spSome_ok).add sp_rSize_ok
def takesZ (n s : Int) : Int := if mayZ s = true then (max n 0).tdiv (s - 4116) + 1 else 0
theorem c_takesZ (n s : Int) (hn : n ≤ 2 ^ 62) : Pure Try.prog n_space_Takes [enc n, enc s] (enc (takesZ n s)) [] := by
  refine Pure.ofC Dp2_ok hm F_space_Takes_ok (by simp [F_space_Takes]) rfl ?_
  by_cases h : mayZ s = true
  · have h2 : 8192 ≤ s ∧ s ≤ 1048576 := by simpa [mayZ] using h
    have w1 := IntWalk.i64_in (s - 4116) (by omega)
    have hd : 0 ≤ (max n 0).tdiv (s - 4116) ∧ (max n 0).tdiv (s - 4116) ≤ max n 0 := ⟨Int.tdiv_nonneg (by omega) (by omega), by
      rw [Int.tdiv_eq_ediv_of_nonneg (by omega)]
      exact Int.ediv_le_self _ (by omega)⟩
    have w2 := IntWalk.i64_in ((max n 0).tdiv (s - 4116)) (by omega)
    have w3 := IntWalk.i64_in ((max n 0).tdiv (s - 4116) + 1) (by omega)
    have e : recSz 4096 = 4116 := by decide
    have hne : ¬ s - 4116 = 0 := by omega
    simp [F_space_Takes, Dp2, Dp1, h, e, w1, w2, w3, takesZ, hne]
  · have h' : mayZ s = false := by simpa using h
    simp [F_space_Takes, Dp2, Dp1, h', takesZ]
@[simp] def sp_takesZ (n s : Int) : Option (V × List Tip) := if n ≤ 2 ^ 62 then some (enc (takesZ n s), []) else none
theorem sp_takesZ_ok : EOk Try.prog n_space_Takes (sp2 sp_takesZ) := sp2_ok fun a b r h => by
  simp only [sp_takesZ] at h
  split at h <;> cases h
  exact c_takesZ a b (by assumption)
theorem wI (n : Int) (h1 : -9223372036854775808 ≤ n) (h2 : n ≤ 9223372036854775807) : IntKind.i64.wrap n = n := IntWalk.i64_in n (by omega)
theorem c_mapped64 : Pure Try.prog n_space_mapped [enc (64 : Int)] (enc (2499 : Int)) [] := by
  refine Pure.ofC OOk.nil hm F_space_mapped_ok (by simp [F_space_mapped]) rfl ?_
  simp [F_space_mapped, wI]
@[simp] def sp_if (a b : Int) (n : Int) : Option (V × List Tip) := if n = a then some (enc b, []) else none
theorem sp_if_ok {n : FuncId} {a b : Int} (h : Pure Try.prog n [enc a] (enc b) []) : EOk Try.prog n (sp1 (sp_if a b)) := sp1_ok fun x r hh => by
  simp only [sp_if] at hh
  split at hh <;> cases hh
  rename_i e
  subst e
  exact h
def Dp3 : Orc := (Dp2.add n_space_mapped (sp1 (sp_if 64 2499)))
theorem Dp3_ok : OOk Try.prog Dp3 := Dp2_ok.add (sp_if_ok c_mapped64)
theorem c_snap64 : Pure Try.prog n_space_Snap [enc (64 : Int)] (.tuple [enc (16665 : Int), enc (6 : Int)]) [] := by
  refine Pure.ofC Dp3_ok hm F_space_Snap_ok (by simp [F_space_Snap]) (by simp [V.res, V.res1]) ?_
  simp [F_space_Snap, Dp3, Dp2, Dp1, wI, someZ, recSz]
@[simp] def sp_snap64 (n : Int) : Option (V × List Tip) := if n = 64 then some (.tuple [enc (16665 : Int), enc (6 : Int)], []) else none
theorem sp_snap64_ok : EOk Try.prog n_space_Snap (sp1 sp_snap64) := sp1_ok fun x r hh => by
  simp only [sp_snap64] at hh
  split at hh <;> cases hh
  rename_i e
  subst e
  exact c_snap64
theorem c_change64 : Pure Try.prog n_space_Change [enc (64 : Int)] (enc (2526 : Int)) [] := by
  refine Pure.ofC Dp2_ok hm F_space_Change_ok (by simp [F_space_Change]) rfl ?_
  simp [F_space_Change, Dp2, Dp1, wI, someZ, recSz]
  decide
theorem c_change0 : Pure Try.prog n_space_Change [enc (0 : Int)] (enc (0 : Int)) [] := by
  refine Pure.ofC Dp2_ok hm F_space_Change_ok (by simp [F_space_Change]) rfl ?_
  simp [F_space_Change, Dp2, Dp1, wI, someZ]
@[simp] def sp_change (n : Int) : Option (V × List Tip) := if n = 64 then some (enc (2526 : Int), []) else if n = 0 then some (enc (0 : Int), []) else none
theorem sp_change_ok : EOk Try.prog n_space_Change (sp1 sp_change) := sp1_ok fun x r hh => by
  simp only [sp_change] at hh
  split at hh
  · cases hh
    rename_i e
    subst e
    exact c_change64
  · split at hh <;> cases hh
    rename_i e
    subst e
    exact c_change0
def Dp4 : Orc := ((Dp2.add n_space_Takes (sp2 sp_takesZ)).add n_space_Snap (sp1 sp_snap64)).add n_space_Change (sp1 sp_change)
theorem Dp4_ok : OOk Try.prog Dp4 := ((Dp2_ok.add sp_takesZ_ok).add sp_snap64_ok).add sp_change_ok
theorem c_need1 (m : Mem) (p : Nat) (n s : Int) (hn : n ≤ 2 ^ 62) (hp : m.boxes[p]? = some [.val (.int .i64 s)]) : Loc Try.prog n_space_Need_1 [enc n, .ptr p 0] m (enc (takesZ n s)) m := by
  refine Loc.ofC Dp4_ok hm F_space_Need_1_ok (by simp [F_space_Need_1]) (.inl rfl) m.boxes.length m.tips.length (Nat.le_refl _) (Nat.le_refl _) fun hu => ?_
  simp at hn
  simp [F_space_Need_1, Dp4, hp, hu, hn]
def sp_need1 : List V → Mem → Option (V × Mem)
  | [.val (.int .i64 n), .ptr p 0], m => (boxI m p).bind fun s => if n ≤ 2 ^ 62 then some (enc (takesZ n s), m) else none
  | _, _ => none
theorem sp_need1_ok : EOkL Try.prog n_space_Need_1 sp_need1 := by
  intro args m v m' h
  unfold sp_need1 at h
  split at h
  · simp only [Option.bind_eq_some_iff] at h
    obtain ⟨s, hs, h⟩ := h
    split at h <;> cases h
    exact c_need1 m _ _ s (by assumption) (boxI_some hs)
  · cases h
def Dp5 : Orc := Dp4.addL n_space_Need_1 sp_need1
theorem Dp5_ok : OOk Try.prog Dp5 := Dp4_ok.addL sp_need1_ok
theorem c_need : Pure Try.prog n_space_Need [enc (64 : Int), enc (8192 : Int)] (enc (6 : Int)) [] := by
  refine Pure.ofC Dp5_ok hm F_space_Need_ok (by simp [F_space_Need]) rfl ?_
  simp [F_space_Need, Dp5, Dp4, Dp2, Dp1, wI, someZ, mayZ, sp_need1, boxI, takesZ]
  decide
@[simp] def sp_need (a b : Int) : Option (V × List Tip) := if a = 64 ∧ b = 8192 then some (enc (6 : Int), []) else none
theorem sp_need_ok : EOk Try.prog n_space_Need (sp2 sp_need) := sp2_ok fun a b r hh => by
  simp only [sp_need] at hh
  split at hh <;> cases hh
  rename_i e
  obtain ⟨rfl, rfl⟩ := e
  exact c_need
def Dp6 : Orc := Dp5.add n_space_Need (sp2 sp_need)
theorem Dp6_ok : OOk Try.prog Dp6 := Dp5_ok.add sp_need_ok
theorem c_zones : Pure Try.prog n_space_Zones [enc (64 : Int), enc (8192 : Int)] (enc (15 : Int)) [] := by
  refine Pure.ofC Dp6_ok hm F_space_Zones_ok (by simp [F_space_Zones]) rfl ?_
  simp [F_space_Zones, Dp6, Dp5, Dp4, Dp2, Dp1, wI, takesZ, mayZ]
  decide
@[simp] def sp_zones (a b : Int) : Option (V × List Tip) := if a = 64 ∧ b = 8192 then some (enc (15 : Int), []) else none
theorem sp_zones_ok : EOk Try.prog n_space_Zones (sp2 sp_zones) := sp2_ok fun a b r hh => by
  simp only [sp_zones] at hh
  split at hh <;> cases hh
  rename_i e
  obtain ⟨rfl, rfl⟩ := e
  exact c_zones
def Dp7 : Orc := Dp6.add n_space_Zones (sp2 sp_zones)
theorem Dp7_ok : OOk Try.prog Dp7 := Dp6_ok.add sp_zones_ok
theorem c_spCheck (n : Int) (hn : n = 15 ∨ n = 14) : Pure Try.prog n_space_Check [enc n, enc (8192 : Int), enc (64 : Int)] (enc (if n = 15 then 0 else 130 : Int)) [] := by
  refine Pure.ofC Dp7_ok hm F_space_Check_ok (by simp [F_space_Check]) rfl ?_
  rcases hn with rfl | rfl <;> simp [F_space_Check, Dp7]
@[simp] def sp_spCheck (a b c : Int) : Option (V × List Tip) := if (a = 15 ∨ a = 14) ∧ b = 8192 ∧ c = 64 then some (enc (if a = 15 then 0 else 130 : Int), []) else none
theorem sp_spCheck_ok : EOk Try.prog n_space_Check (sp3 sp_spCheck) := sp3_ok fun a b c r hh => by
  simp only [sp_spCheck] at hh
  split at hh <;> cases hh
  rename_i e
  obtain ⟨e, rfl, rfl⟩ := e
  exact c_spCheck a e
theorem c_spBound : Pure Try.prog n_space_Bound [enc (15 : Int), enc (64 : Int)] (enc (49 : Int)) [] := by
  refine Pure.ofC Dp7_ok hm F_space_Bound_ok (by simp [F_space_Bound]) rfl ?_
  simp [F_space_Bound, Dp7, Dp6, Dp5, Dp4, Dp2, Dp1, wI]
  decide
@[simp] def sp_spBound (a b : Int) : Option (V × List Tip) := if a = 15 ∧ b = 64 then some (enc (49 : Int), []) else none
theorem sp_spBound_ok : EOk Try.prog n_space_Bound (sp2 sp_spBound) := sp2_ok fun a b r hh => by
  simp only [sp_spBound] at hh
  split at hh <;> cases hh
  rename_i e
  obtain ⟨rfl, rfl⟩ := e
  exact c_spBound
def Dp8 : Orc := (Dp7.add n_space_Check (sp3 sp_spCheck)).add n_space_Bound (sp2 sp_spBound)
theorem Dp8_ok : OOk Try.prog Dp8 := (Dp7_ok.add sp_spCheck_ok).add sp_spBound_ok
theorem c_w13awake : Pure Try.prog n_w13_awake [] (.val (.bool true)) [] := by
  refine Pure.ofC Dp8_ok hm F_w13_awake_ok (by simp [F_w13_awake]) rfl ?_
  simp [F_w13_awake, Dp8, Dp7, Dp6, Dp5, Dp4, Dp2, takesZ, mayZ]
  decide
end Go.Av

namespace Go.Av
open Go.Proofs

@[simp] abbrev n_w06_awake : FuncId := 42
@[simp] abbrev n_w06_LogRuns : FuncId := 11
@[simp] abbrev n_w06_LogFull : FuncId := 13
@[simp] abbrev n_log_All : FuncId := 51
@[simp] abbrev n_log_All_1 : FuncId := 111
@[simp] abbrev n_log_Run : FuncId := 43
@[simp] abbrev n_record_Scan : FuncId := 109
@[simp] abbrev n_record_Scan_1 : FuncId := 162
@[simp] abbrev n_record_Read : FuncId := 163
@[simp] abbrev n_slices_SortStableFunc_Found : FuncId := 110
@[simp] abbrev n_sort0 : FuncId := 110
@[simp] abbrev n_slices_stableCmpFunc_Found : FuncId := 164
@[simp] abbrev n_slices_insertionSortCmpFunc_Found : FuncId := 193
@[simp] abbrev n_insertion0 : FuncId := 193
@[simp] abbrev n_slices_symMergeCmpFunc_Found : FuncId := 194
@[simp] abbrev n_cmp_Compare_int : FuncId := 112
@[simp] abbrev n_cmp_isNaN_int : FuncId := 165
@[simp] abbrev n_r06_Run : FuncId := 44
end Go.Av

namespace Go.Av
open Go.Proofs

@[simp] abbrev n_w13_SpaceSnaps : FuncId := 10
def F_w13_SpaceSnaps_L0 : C := (.seq (.seq (.ops [⟨(some 37), none, (.mov (.t 9))⟩, ⟨(some 38), none, (.mov (.t 6))⟩, ⟨(some 39), none, (.len (.t 38))⟩, ⟨(some 40), none, (.bin .lss (.t 37) (.t 39))⟩]) (.cond (.t 40) .skip (.exit 0))) (.seq (.block 1 (.ops [⟨(some 43), none, (.mov (.t 8))⟩, ⟨(some 44), none, (.mov (.t 6))⟩, ⟨(some 45), none, (.mov (.t 9))⟩, ⟨(some 46), none, (.ixs (.t 44) (.t 45) 3)⟩, ⟨(some 47), none, (.fad (.t 46) 2)⟩, ⟨(some 48), none, (.lde (.t 47) none)⟩, ⟨(some 49), none, (.len (.t 48))⟩, ⟨(some 50), none, (.call 37 [(.t 49)])⟩, ⟨(some 51), none, (.bin .add (.t 43) (.t 50))⟩, ⟨(some 8), none, (.mov (.t 51))⟩])) (.ops [⟨(some 41), none, (.mov (.t 9))⟩, ⟨(some 42), none, (.bin .add (.t 41) (.c (.int .i64 1)))⟩, ⟨(some 9), none, (.mov (.t 42))⟩])))
def F_w13_SpaceSnaps : F := ⟨(.seq (.ops [⟨(some 2), none, (.box (.t 0))⟩, ⟨(some 3), none, (.box (.t 1))⟩, ⟨(some 4), none, (.mov (.c (.bool false)))⟩]) (.seq (.ops [⟨(some 17), none, (.call 17 [])⟩, ⟨(some 5), none, (.mov (.t 17))⟩]) (.seq (.seq (.ops [⟨(some 18), none, (.ld (.t 2) (some 6))⟩, ⟨(some 19), none, (.call 23 [(.t 18)])⟩, ⟨(some 20), none, (.un .not (.t 19))⟩, ⟨(some 21), none, (.mov (.t 20))⟩, ⟨(some 22), (some (21, false)), (.ld (.t 3) (some 6))⟩, ⟨(some 23), (some (21, false)), (.call 36 [(.t 22)])⟩, ⟨(some 24), (some (21, false)), (.un .not (.t 23))⟩, ⟨(some 25), none, (.pick (.t 21) (.c (.bool true)) (.t 24))⟩, ⟨(some 26), none, (.mov (.t 25))⟩, ⟨(some 27), (some (26, false)), (.ld (.t 2) (some 6))⟩, ⟨(some 28), (some (26, false)), (.call 34 [(.t 27)])⟩, ⟨(some 29), (some (26, false)), (.bin .neq (.t 28) (.c (.int .i64 0)))⟩, ⟨(some 30), none, (.pick (.t 26) (.c (.bool true)) (.t 29))⟩]) (.cond (.t 30) (.seq (.ops [⟨(some 31), none, (.mov (.t 5))⟩, ⟨(some 4), none, (.mov (.t 31))⟩]) .ret) .skip)) (.seq (.ops [⟨(some 33), none, (.ld (.t 2) (some 6))⟩, ⟨(some 34), none, (.call 26 [(.t 33), (.c (.int .i64 7))])⟩, ⟨(some 32), none, (.mov (.t 34))⟩, ⟨(some 35), none, (.ext (.t 32) 0)⟩, ⟨(some 36), none, (.ext (.t 32) 1)⟩, ⟨(some 6), none, (.mov (.t 35))⟩, ⟨(some 7), none, (.mov (.t 36))⟩]) (.seq (.ops [⟨(some 8), none, (.mov (.c (.int .i64 0)))⟩]) (.seq (.seq (.ops [⟨(some 9), none, (.mov (.c (.int .i64 0)))⟩]) (.block 0 (.loop F_w13_SpaceSnaps_L0))) (.seq (.ops [⟨(some 53), none, (.fad (.t 2) 0)⟩, ⟨(some 54), none, (.ld (.t 53) none)⟩, ⟨(some 55), none, (.call 38 [(.t 54)])⟩, ⟨(some 52), none, (.mov (.t 55))⟩, ⟨(some 56), none, (.ext (.t 52) 0)⟩, ⟨(some 57), none, (.ext (.t 52) 1)⟩, ⟨(some 10), none, (.mov (.t 56))⟩, ⟨(some 11), none, (.mov (.t 57))⟩]) (.seq (.ops [⟨(some 59), none, (.ld (.t 2) (some 6))⟩, ⟨(some 60), none, (.ld (.t 3) (some 6))⟩, ⟨(some 61), none, (.call 39 [(.t 59), (.t 60)])⟩, ⟨(some 58), none, (.mov (.t 61))⟩, ⟨(some 62), none, (.ext (.t 58) 0)⟩, ⟨(some 63), none, (.ext (.t 58) 1)⟩, ⟨(some 12), none, (.alc [(.val (.int .i64 0)), (.val (.int .i64 0)), (.lit 5 []), (.lit 3 []), (.val (.int .i64 0)), (.lit 1 [])])⟩, ⟨none, none, (.st (.t 12) 6 (.t 62))⟩, ⟨(some 13), none, (.mov (.t 63))⟩]) (.seq (.ops [⟨(some 65), none, (.ld (.t 3) (some 6))⟩, ⟨(some 66), none, (.call 40 [(.t 65)])⟩, ⟨(some 64), none, (.mov (.t 66))⟩, ⟨(some 67), none, (.ext (.t 64) 0)⟩, ⟨(some 68), none, (.ext (.t 64) 1)⟩, ⟨(some 14), none, (.mov (.t 67))⟩, ⟨(some 15), none, (.mov (.t 68))⟩]) (.seq (.dops false [] [⟨(some 69), none, (.mov (.t 13))⟩, ⟨(some 70), none, (.bin .neq (.t 69) (.c (.int .i64 0)))⟩, ⟨(some 71), none, (.mov (.t 70))⟩, ⟨(some 72), (some (71, false)), (.mov (.t 14))⟩, ⟨(some 73), (some (71, false)), (.len (.t 72))⟩, ⟨(some 74), (some (71, false)), (.callq 37 [(.t 73)])⟩, ⟨(some 75), (some (71, false)), (.fad (.t 2) 0)⟩, ⟨(some 76), (some (71, false)), (.ld (.t 75) none)⟩, ⟨(some 77), (some (71, false)), (.callq 41 [(.t 76)])⟩, ⟨(some 78), (some (71, false)), (.bin .leq (.t 74) (.t 77))⟩, ⟨(some 79), none, (.pick (.t 71) (.c (.bool true)) (.t 78))⟩, ⟨(some 16), none, (.mov (.t 79))⟩]) (.seq (.ops [⟨(some 80), none, (.mov (.t 5))⟩, ⟨(some 81), none, (.mov (.t 80))⟩, ⟨(some 82), (some (81, true)), (.mov (.t 7))⟩, ⟨(some 83), (some (81, true)), (.bin .eql (.t 82) (.c (.int .i64 0)))⟩, ⟨(some 84), none, (.pick (.t 81) (.t 83) (.c (.bool false)))⟩, ⟨(some 85), none, (.mov (.t 84))⟩, ⟨(some 86), (some (85, true)), (.mov (.t 8))⟩, ⟨(some 87), (some (85, true)), (.mov (.t 10))⟩, ⟨(some 88), (some (85, true)), (.bin .leq (.t 86) (.t 87))⟩, ⟨(some 89), none, (.pick (.t 85) (.t 88) (.c (.bool false)))⟩, ⟨(some 90), none, (.mov (.t 89))⟩, ⟨(some 91), (some (90, true)), (.mov (.t 6))⟩, ⟨(some 92), (some (90, true)), (.len (.t 91))⟩, ⟨(some 93), (some (90, true)), (.mov (.t 11))⟩, ⟨(some 94), (some (90, true)), (.bin .leq (.t 92) (.t 93))⟩, ⟨(some 95), none, (.pick (.t 90) (.t 94) (.c (.bool false)))⟩, ⟨(some 96), none, (.mov (.t 95))⟩, ⟨(some 97), (some (96, true)), (.mov (.t 16))⟩, ⟨(some 98), none, (.pick (.t 96) (.t 97) (.c (.bool false)))⟩, ⟨(some 4), none, (.mov (.t 98))⟩]) .ret))))))))))), 99, [(.tmp 4)]⟩
theorem F_w13_SpaceSnaps_ok : compF Try.prog (fun _ => true) 10 = some F_w13_SpaceSnaps := by kernel_rfl
@[simp] abbrev n_state_Do : FuncId := 39
def F_state_Do : F := ⟨(.seq (.ops [⟨(some 2), none, (.box (.t 0))⟩, ⟨(some 3), none, (.box (.t 1))⟩, ⟨(some 4), none, (.alc [(.val (.int .i64 0)), (.val (.int .i64 0)), (.lit 5 []), (.lit 3 []), (.val (.int .i64 0)), (.lit 1 [])])⟩, ⟨(some 5), none, (.mov (.c (.int .i64 0)))⟩]) (.seq (.block 0 (.seq (.ops [⟨(some 9), none, (.ld (.t 2) (some 6))⟩, ⟨(some 10), none, (.call 34 [(.t 9)])⟩, ⟨(some 11), none, (.bin .neq (.t 10) (.c (.int .i64 0)))⟩, ⟨(some 8), none, (.mov (.t 11))⟩]) (.cond (.t 8) (.seq (.ops [⟨(some 12), none, (.bld [(.val (.int .i64 0)), (.val (.int .i64 0)), (.lit 5 []), (.lit 3 []), (.val (.int .i64 0)), (.lit 1 [])] [])⟩, ⟨none, none, (.st (.t 4) 6 (.t 12))⟩, ⟨(some 5), none, (.mov (.c (.int .i64 110)))⟩]) .ret) (.seq (.ops [⟨(some 14), none, (.ld (.t 3) (some 6))⟩, ⟨(some 15), none, (.call 97 [(.t 14)])⟩, ⟨(some 16), none, (.un .not (.t 15))⟩, ⟨(some 13), none, (.mov (.t 16))⟩]) (.cond (.t 13) (.seq (.ops [⟨(some 17), none, (.ld (.t 2) (some 6))⟩, ⟨(some 18), none, (.call 98 [(.t 17)])⟩, ⟨none, none, (.st (.t 4) 6 (.t 18))⟩, ⟨(some 5), none, (.mov (.c (.int .i64 100)))⟩]) .ret) .skip))))) (.seq (.ops [⟨(some 19), none, (.ld (.t 2) (some 6))⟩, ⟨(some 20), none, (.call 98 [(.t 19)])⟩, ⟨(some 6), none, (.alc [(.val (.int .i64 0)), (.val (.int .i64 0)), (.lit 5 []), (.lit 3 []), (.val (.int .i64 0)), (.lit 1 [])])⟩, ⟨none, none, (.st (.t 6) 6 (.t 20))⟩]) (.seq (.seq (.dops false [] [⟨(some 22), none, (.fad (.t 3) 0)⟩, ⟨(some 23), none, (.ld (.t 22) none)⟩, ⟨(some 25), none, (.ld (.t 3) (some 6))⟩, ⟨(some 21), none, (.callf (.f 99) [] [22, 3])⟩, ⟨(some 24), none, (.mlk (.t 21) (.t 23) (.val .nilFunc) false)⟩, ⟨(some 26), none, (.callf (.t 24) [(.t 6), (.t 25)] [])⟩, ⟨(some 7), none, (.mov (.t 26))⟩]) (.seq (.ops [⟨(some 27), none, (.mov (.t 7))⟩, ⟨(some 28), none, (.bin .neq (.t 27) (.c (.int .i64 0)))⟩]) (.cond (.t 28) (.seq (.ops [⟨(some 29), none, (.ld (.t 2) (some 6))⟩, ⟨(some 30), none, (.call 98 [(.t 29)])⟩, ⟨(some 31), none, (.mov (.t 7))⟩, ⟨none, none, (.st (.t 4) 6 (.t 30))⟩, ⟨(some 5), none, (.mov (.t 31))⟩]) .ret) .skip))) (.seq (.ops [⟨(some 32), none, (.ld (.t 6) (some 6))⟩, ⟨none, none, (.st (.t 4) 6 (.t 32))⟩, ⟨(some 5), none, (.mov (.c (.int .i64 0)))⟩]) .ret))))), 33, [(.cell 4 (some 6)), (.tmp 5)]⟩
theorem F_state_Do_ok : compF Try.prog (fun d => !([4194305].contains d)) 39 = some F_state_Do := by kernel_rfl
@[simp] abbrev n_state_Copy : FuncId := 98
def F_state_Copy_L0 : C := (.seq (.ops [⟨(some 25), none, (.bin .lss (.t 24) (.t 23))⟩]) (.seq (.cond (.t 25) .skip (.exit 0)) (.seq (.block 1 (.seq (.ops [⟨(some 26), none, (.mov (.t 24))⟩, ⟨(some 27), none, (.mem (.ixr 3) [(.t 22), (.t 24)])⟩, ⟨(some 28), none, (.ld (.t 27) (some 3))⟩, ⟨(some 4), none, (.alc [(.val (.int .i64 0)), (.val (.int .i64 0)), (.lit 5 [])])⟩, ⟨(some 3), none, (.mov (.t 26))⟩, ⟨none, none, (.st (.t 4) 3 (.t 28))⟩]) (.dops false [] [⟨(some 29), none, (.fad (.t 1) 3)⟩, ⟨(some 30), none, (.ld (.t 29) none)⟩, ⟨(some 31), none, (.mov (.t 3))⟩, ⟨(some 32), none, (.fad (.t 4) 2)⟩, ⟨(some 33), none, (.ld (.t 32) none)⟩, ⟨(some 34), none, (.callf (.f 145) [(.t 33)] [29])⟩, ⟨(some 35), none, (.mem (.ixr 3) [(.t 30), (.t 31)])⟩, ⟨(some 36), none, (.fad (.t 35) 2)⟩, ⟨none, none, (.st (.t 36) 1 (.t 34))⟩]))) (.ops [⟨(some 37), none, (.bin .add (.t 24) (.c (.int .i64 1)))⟩, ⟨(some 24), none, (.mov (.t 37))⟩]))))
def F_state_Copy : F := ⟨(.seq (.ops [⟨(some 1), none, (.box (.t 0))⟩, ⟨(some 2), none, (.alc [(.val (.int .i64 0)), (.val (.int .i64 0)), (.lit 5 []), (.lit 3 []), (.val (.int .i64 0)), (.lit 1 [])])⟩]) (.seq (.seq (.ops [⟨(some 5), none, (.ld (.t 1) (some 6))⟩, ⟨(some 6), none, (.call 34 [(.t 5)])⟩, ⟨(some 7), none, (.bin .neq (.t 6) (.c (.int .i64 0)))⟩]) (.cond (.t 7) (.seq (.ops [⟨(some 8), none, (.bld [(.val (.int .i64 0)), (.val (.int .i64 0)), (.lit 5 []), (.lit 3 []), (.val (.int .i64 0)), (.lit 1 [])] [])⟩, ⟨none, none, (.st (.t 2) 6 (.t 8))⟩]) .ret) .skip)) (.seq (.dops false [] [⟨(some 9), none, (.fad (.t 1) 2)⟩, ⟨(some 10), none, (.ld (.t 9) none)⟩, ⟨(some 12), none, (.fad (.t 1) 3)⟩, ⟨(some 13), none, (.ld (.t 12) none)⟩, ⟨(some 15), none, (.fad (.t 1) 5)⟩, ⟨(some 16), none, (.ld (.t 15) none)⟩, ⟨(some 11), none, (.callf (.f 145) [(.t 10)] [12, 15])⟩, ⟨(some 18), none, (.fad (.t 1) 2)⟩, ⟨(some 14), none, (.callf (.f 146) [(.t 13)] [15])⟩, ⟨(some 17), none, (.callf (.f 77) [(.t 16)] [])⟩, ⟨none, none, (.st (.t 18) 1 (.t 11))⟩, ⟨(some 19), none, (.fad (.t 1) 3)⟩, ⟨none, none, (.st (.t 19) 1 (.t 14))⟩, ⟨(some 20), none, (.fad (.t 1) 5)⟩, ⟨none, none, (.st (.t 20) 1 (.t 17))⟩]) (.seq (.seq (.ops [⟨(some 21), none, (.fad (.t 1) 3)⟩, ⟨(some 22), none, (.ld (.t 21) none)⟩, ⟨(some 23), none, (.mem .lnr [(.t 22)])⟩, ⟨(some 24), none, (.mov (.c (.int .i64 0)))⟩]) (.block 0 (.loop F_state_Copy_L0))) (.seq (.ops [⟨(some 38), none, (.ld (.t 1) (some 6))⟩, ⟨none, none, (.st (.t 2) 6 (.t 38))⟩]) .ret))))), 39, [(.cell 2 (some 6))]⟩
theorem F_state_Copy_ok : compF Try.prog (fun d => !([2097174, 2097175, 2097179, 2097180, 2097182, 2097187, 4194305].contains d)) 98 = some F_state_Copy := by kernel_rfl
@[simp] abbrev n_state_extents : FuncId := 145
def F_state_extents_L0 : C := (.seq (.ops [⟨(some 8), none, (.bin .lss (.t 7) (.t 6))⟩]) (.seq (.cond (.t 8) .skip (.exit 0)) (.seq (.block 1 (.seq (.ops [⟨(some 9), none, (.ixs (.t 5) (.t 7) 5)⟩, ⟨(some 10), none, (.lde (.t 9) (some 5))⟩, ⟨(some 4), none, (.alc [(.val (.int .i64 0)), (.val (.int .i64 0)), (.val (.int .i64 0)), (.val (.int .i64 0)), (.lit 1 [])])⟩, ⟨none, none, (.st (.t 4) 5 (.t 10))⟩]) (.seq (.ops [⟨(some 11), none, (.fad (.t 4) 4)⟩, ⟨(some 12), none, (.ld (.t 11) none)⟩, ⟨(some 13), none, (.call 77 [(.t 12)])⟩, ⟨(some 14), none, (.fad (.t 4) 4)⟩, ⟨none, none, (.st (.t 14) 1 (.t 13))⟩]) (.ops [⟨(some 15), none, (.mov (.t 2))⟩, ⟨(some 16), none, (.ld (.t 4) (some 5))⟩, ⟨(some 17), none, (.mkl 174 5 [(.t 16)] false)⟩, ⟨(some 18), none, (.app (.t 15) (.t 17) 174 5 56 true)⟩, ⟨(some 2), none, (.mov (.t 18))⟩])))) (.ops [⟨(some 19), none, (.bin .add (.t 7) (.c (.int .i64 1)))⟩, ⟨(some 7), none, (.mov (.t 19))⟩]))))
def F_state_extents : F := ⟨(.seq (.ops [⟨(some 2), none, (.nil 174 5 true)⟩]) (.seq (.seq (.ops [⟨(some 5), none, (.mov (.t 0))⟩, ⟨(some 6), none, (.len (.t 5))⟩, ⟨(some 7), none, (.mov (.c (.int .i64 0)))⟩]) (.block 0 (.loop F_state_extents_L0))) (.seq (.ops [⟨(some 20), none, (.mov (.t 2))⟩, ⟨(some 2), none, (.mov (.t 20))⟩]) .ret))), 21, [(.tmp 2)]⟩
theorem F_state_extents_ok : compF Try.prog (fun d => !([17].contains d)) 145 = some F_state_extents := by kernel_rfl
@[simp] abbrev n_state_does : FuncId := 99
def F_state_does : F := ⟨(.seq (.ops [⟨(some 0), none, (.mov (.c (.map none)))⟩]) (.seq (.ops [⟨(some 1), none, .mkm⟩, ⟨none, none, (.mup (.t 1) (.c (.int .i64 1)) (.f 147))⟩, ⟨none, none, (.mup (.t 1) (.c (.int .i64 2)) (.f 148))⟩, ⟨none, none, (.mup (.t 1) (.c (.int .i64 3)) (.f 149))⟩, ⟨none, none, (.mup (.t 1) (.c (.int .i64 4)) (.f 150))⟩, ⟨none, none, (.mup (.t 1) (.c (.int .i64 5)) (.f 151))⟩, ⟨none, none, (.mup (.t 1) (.c (.int .i64 6)) (.f 152))⟩, ⟨none, none, (.mup (.t 1) (.c (.int .i64 7)) (.f 153))⟩, ⟨none, none, (.mup (.t 1) (.c (.int .i64 8)) (.f 154))⟩, ⟨(some 2), none, (.mov (.t 1))⟩, ⟨(some 0), none, (.mov (.t 2))⟩]) .ret)), 3, [(.tmp 0)]⟩
theorem F_state_does_ok : compF Try.prog (fun _ => true) 99 = some F_state_does := by kernel_rfl
@[simp] abbrev n_slices_Clone_Point : FuncId := 146
def F_slices_Clone_Point : F := ⟨(.seq (.ops [⟨(some 2), none, (.nil 110 3 true)⟩]) (.seq (.seq (.ops [⟨(some 3), none, (.mov (.t 0))⟩, ⟨(some 4), none, (.snil false (.t 3))⟩]) (.cond (.t 4) (.seq (.ops [⟨(some 2), none, (.nil 110 3 true)⟩]) .ret) .skip)) (.seq (.ops [⟨(some 5), none, (.mem (.eml 3) [])⟩, ⟨(some 6), none, (.mov (.t 0))⟩, ⟨(some 7), none, (.mem (.apb 110 3 40) [(.t 5), (.t 6)])⟩, ⟨(some 2), none, (.mov (.t 7))⟩]) .ret))), 8, [(.tmp 2)]⟩
theorem F_slices_Clone_Point_ok : compF Try.prog (fun d => !([2097157, 2097159].contains d)) 146 = some F_slices_Clone_Point := by kernel_rfl
@[simp] abbrev n_slices_IndexFunc_Point : FuncId := 183
def F_slices_IndexFunc_Point_L0 : C := (.seq (.ops [⟨(some 9), none, (.bin .lss (.t 8) (.t 7))⟩]) (.seq (.cond (.t 9) .skip (.exit 0)) (.seq (.block 1 (.seq (.ops [⟨(some 10), none, (.mov (.t 8))⟩, ⟨(some 5), none, (.mov (.t 10))⟩]) (.seq (.ops [⟨(some 11), none, (.mov (.t 1))⟩, ⟨(some 12), none, (.mov (.t 0))⟩, ⟨(some 13), none, (.mov (.t 5))⟩, ⟨(some 14), none, (.mem (.ixr 3) [(.t 12), (.t 13)])⟩, ⟨(some 15), none, (.ld (.t 14) (some 3))⟩, ⟨(some 16), none, (.callv (.t 11) [(.t 15)])⟩]) (.cond (.t 16) (.seq (.ops [⟨(some 17), none, (.mov (.t 5))⟩, ⟨(some 4), none, (.mov (.t 17))⟩]) .ret) .skip)))) (.ops [⟨(some 18), none, (.bin .add (.t 8) (.c (.int .i64 1)))⟩, ⟨(some 8), none, (.mov (.t 18))⟩]))))
def F_slices_IndexFunc_Point : F := ⟨(.seq (.ops [⟨(some 4), none, (.mov (.c (.int .i64 0)))⟩]) (.seq (.seq (.ops [⟨(some 6), none, (.mov (.t 0))⟩, ⟨(some 7), none, (.mem .lnr [(.t 6)])⟩, ⟨(some 8), none, (.mov (.c (.int .i64 0)))⟩]) (.block 0 (.loop F_slices_IndexFunc_Point_L0))) (.seq (.ops [⟨(some 4), none, (.mov (.c (.int .i64 (-1))))⟩]) .ret))), 19, [(.tmp 4)]⟩
theorem F_slices_IndexFunc_Point_ok : compF Try.prog (fun d => !([2097159, 2097166, 2097167].contains d)) 183 = some F_slices_IndexFunc_Point := by kernel_rfl
@[simp] abbrev n_volume_write : FuncId := 147
def F_volume_write : F := ⟨(.seq (.ops [⟨(some 3), none, (.box (.t 1))⟩, ⟨(some 4), none, (.mov (.c (.int .i64 0)))⟩]) (.seq (.ops [⟨(some 5), none, (.mov (.t 0))⟩, ⟨(some 6), none, (.fad (.t 3) 1)⟩, ⟨(some 7), none, (.ld (.t 6) none)⟩, ⟨(some 8), none, (.fad (.t 3) 2)⟩, ⟨(some 9), none, (.ld (.t 8) none)⟩, ⟨(some 10), none, (.fad (.t 3) 4)⟩, ⟨(some 11), none, (.ld (.t 10) none)⟩, ⟨(some 12), none, (.bld [(.val (.int .i64 0)), (.val (.int .i64 0)), (.val (.int .i64 0)), (.val (.int .i64 0)), (.lit 1 [])] [(0, (1, (.t 7))), (1, (1, (.t 9))), (2, (1, (.c (.int .i64 2)))), (4, (1, (.t 11)))])⟩, ⟨(some 13), none, (.mkl 174 5 [(.t 12)] false)⟩, ⟨(some 14), none, (.call 182 [(.t 5), (.t 13)])⟩, ⟨(some 4), none, (.mov (.t 14))⟩]) .ret)), 15, [(.tmp 4)]⟩
theorem F_volume_write_ok : compF Try.prog (fun d => !([13].contains d)) 147 = some F_volume_write := by kernel_rfl
@[simp] abbrev n_volume_zero : FuncId := 148
def F_volume_zero : F := ⟨(.seq (.ops [⟨(some 3), none, (.box (.t 1))⟩, ⟨(some 4), none, (.mov (.c (.int .i64 0)))⟩]) (.seq (.ops [⟨(some 5), none, (.mov (.t 0))⟩, ⟨(some 6), none, (.fad (.t 3) 1)⟩, ⟨(some 7), none, (.ld (.t 6) none)⟩, ⟨(some 8), none, (.fad (.t 3) 2)⟩, ⟨(some 9), none, (.ld (.t 8) none)⟩, ⟨(some 10), none, (.bld [(.val (.int .i64 0)), (.val (.int .i64 0)), (.val (.int .i64 0)), (.val (.int .i64 0)), (.lit 1 [])] [(0, (1, (.t 7))), (1, (1, (.t 9))), (2, (1, (.c (.int .i64 1))))])⟩, ⟨(some 11), none, (.mkl 174 5 [(.t 10)] false)⟩, ⟨(some 12), none, (.call 182 [(.t 5), (.t 11)])⟩, ⟨(some 4), none, (.mov (.t 12))⟩]) .ret)), 13, [(.tmp 4)]⟩
theorem F_volume_zero_ok : compF Try.prog (fun d => !([11].contains d)) 148 = some F_volume_zero := by kernel_rfl
@[simp] abbrev n_volume_trim : FuncId := 149
def F_volume_trim : F := ⟨(.seq (.ops [⟨(some 3), none, (.box (.t 1))⟩, ⟨(some 4), none, (.mov (.c (.int .i64 0)))⟩]) (.seq (.ops [⟨(some 5), none, (.mov (.t 0))⟩, ⟨(some 6), none, (.fad (.t 3) 1)⟩, ⟨(some 7), none, (.ld (.t 6) none)⟩, ⟨(some 8), none, (.fad (.t 3) 2)⟩, ⟨(some 9), none, (.ld (.t 8) none)⟩, ⟨(some 10), none, (.bld [(.val (.int .i64 0)), (.val (.int .i64 0)), (.val (.int .i64 0)), (.val (.int .i64 0)), (.lit 1 [])] [(0, (1, (.t 7))), (1, (1, (.t 9)))])⟩, ⟨(some 11), none, (.mkl 174 5 [(.t 10)] false)⟩, ⟨(some 12), none, (.call 182 [(.t 5), (.t 11)])⟩, ⟨(some 4), none, (.mov (.t 12))⟩]) .ret)), 13, [(.tmp 4)]⟩
theorem F_volume_trim_ok : compF Try.prog (fun d => !([11].contains d)) 149 = some F_volume_trim := by kernel_rfl
@[simp] abbrev n_volume_point : FuncId := 150
def F_volume_point : F := ⟨(.seq (.ops [⟨(some 3), none, (.box (.t 1))⟩, ⟨(some 4), none, (.mov (.c (.int .i64 0)))⟩]) (.seq (.block 0 (.seq (.dops false [] [⟨(some 6), none, (.fad (.t 3) 3)⟩, ⟨(some 7), none, (.ld (.t 6) none)⟩, ⟨(some 8), none, (.mov (.t 0))⟩, ⟨(some 9), none, (.mem .nck [(.t 8)])⟩, ⟨(some 10), none, (.fad (.t 9) 4)⟩, ⟨(some 11), none, (.ld (.t 10) none)⟩, ⟨(some 12), none, (.bin .leq (.t 7) (.t 11))⟩, ⟨(some 5), none, (.mov (.t 12))⟩]) (.cond (.t 5) (.seq (.ops [⟨(some 4), none, (.mov (.c (.int .i64 112)))⟩]) .ret) (.seq (.ops [⟨(some 14), none, (.mov (.t 0))⟩, ⟨(some 15), none, (.mem .nck [(.t 14)])⟩, ⟨(some 16), none, (.fad (.t 15) 3)⟩, ⟨(some 17), none, (.ld (.t 16) none)⟩, ⟨(some 18), none, (.mem .lnr [(.t 17)])⟩, ⟨(some 19), none, (.bin .eql (.t 18) (.c (.int .i64 4)))⟩, ⟨(some 20), none, (.mov (.t 19))⟩, ⟨(some 21), (some (20, false)), (.mov (.t 0))⟩, ⟨(some 22), (some (20, false)), (.mem .nck [(.t 21)])⟩, ⟨(some 23), (some (20, false)), (.fad (.t 22) 1)⟩, ⟨(some 24), (some (20, false)), (.ld (.t 23) none)⟩, ⟨(some 25), (some (20, false)), (.bin .eql (.t 24) (.c (.int .i64 2147483647)))⟩, ⟨(some 26), none, (.pick (.t 20) (.c (.bool true)) (.t 25))⟩, ⟨(some 13), none, (.mov (.t 26))⟩]) (.cond (.t 13) (.seq (.ops [⟨(some 4), none, (.mov (.c (.int .i64 113)))⟩]) .ret) .skip))))) (.seq (.dops false [] [⟨(some 27), none, (.mov (.t 0))⟩, ⟨(some 28), none, (.mov (.t 0))⟩, ⟨(some 29), none, (.mem .nck [(.t 28)])⟩, ⟨(some 30), none, (.fad (.t 29) 3)⟩, ⟨(some 31), none, (.ld (.t 30) none)⟩, ⟨(some 32), none, (.fad (.t 3) 3)⟩, ⟨(some 33), none, (.ld (.t 32) none)⟩, ⟨(some 34), none, (.mov (.t 0))⟩, ⟨(some 35), none, (.mem .nck [(.t 34)])⟩, ⟨(some 36), none, (.fad (.t 35) 1)⟩, ⟨(some 37), none, (.ld (.t 36) none)⟩, ⟨(some 38), none, (.mov (.t 0))⟩, ⟨(some 39), none, (.mem .nck [(.t 38)])⟩, ⟨(some 40), none, (.fad (.t 39) 2)⟩, ⟨(some 41), none, (.ld (.t 40) none)⟩, ⟨(some 42), none, (.callq 145 [(.t 41)])⟩, ⟨(some 43), none, (.bld [(.val (.int .i64 0)), (.val (.int .i64 0)), (.lit 5 [])] [(0, (1, (.t 33))), (1, (1, (.t 37))), (2, (1, (.t 42)))])⟩, ⟨(some 44), none, (.mkl 110 3 [(.t 43)] false)⟩, ⟨(some 45), none, (.mem (.apx 110 3 40) [(.t 31), (.t 44)])⟩, ⟨(some 46), none, (.mem .nck [(.t 27)])⟩, ⟨(some 47), none, (.fad (.t 46) 3)⟩, ⟨none, none, (.st (.t 47) 1 (.t 45))⟩]) (.seq (.ops [⟨(some 48), none, (.mov (.t 0))⟩, ⟨(some 49), none, (.fad (.t 3) 3)⟩, ⟨(some 50), none, (.ld (.t 49) none)⟩, ⟨(some 51), none, (.mem .nck [(.t 48)])⟩, ⟨(some 52), none, (.fad (.t 51) 4)⟩, ⟨none, none, (.st (.t 52) 1 (.t 50))⟩]) (.seq (.ops [⟨(some 53), none, (.mov (.t 0))⟩, ⟨(some 54), none, (.mem .nck [(.t 53)])⟩, ⟨(some 55), none, (.fad (.t 54) 1)⟩, ⟨(some 56), none, (.ld (.t 55) none)⟩, ⟨(some 57), none, (.bin .add (.t 56) (.c (.int .i64 1)))⟩, ⟨(some 58), none, (.mem .nck [(.t 53)])⟩, ⟨(some 59), none, (.fad (.t 58) 1)⟩, ⟨none, none, (.st (.t 59) 1 (.t 57))⟩]) (.seq (.ops [⟨(some 4), none, (.mov (.c (.int .i64 0)))⟩]) .ret)))))), 60, [(.tmp 4)]⟩
theorem F_volume_point_ok : compF Try.prog (fun d => !([44, 2097170, 8388653].contains d)) 150 = some F_volume_point := by kernel_rfl
@[simp] abbrev n_volume_drop : FuncId := 151
def F_volume_drop : F := ⟨(.seq (.ops [⟨(some 3), none, (.box (.t 1))⟩, ⟨(some 4), none, (.mov (.c (.int .i64 0)))⟩]) (.seq (.ops [⟨(some 6), none, (.mov (.t 0))⟩, ⟨(some 7), none, (.mem .nck [(.t 6)])⟩, ⟨(some 8), none, (.fad (.t 7) 3)⟩, ⟨(some 9), none, (.ld (.t 8) none)⟩, ⟨(some 10), none, (.mkf 184 [(.t 3)])⟩, ⟨(some 11), none, (.call 183 [(.t 9), (.t 10)])⟩, ⟨(some 5), none, (.mov (.t 11))⟩]) (.seq (.seq (.ops [⟨(some 12), none, (.mov (.t 5))⟩, ⟨(some 13), none, (.bin .lss (.t 12) (.c (.int .i64 0)))⟩]) (.cond (.t 13) (.seq (.ops [⟨(some 4), none, (.mov (.c (.int .i64 111)))⟩]) .ret) .skip)) (.seq (.ops [⟨(some 14), none, (.mov (.t 0))⟩, ⟨(some 15), none, (.mov (.t 0))⟩, ⟨(some 16), none, (.mem .nck [(.t 15)])⟩, ⟨(some 17), none, (.fad (.t 16) 3)⟩, ⟨(some 18), none, (.ld (.t 17) none)⟩, ⟨(some 19), none, (.mov (.t 5))⟩, ⟨(some 20), none, (.mov (.t 5))⟩, ⟨(some 21), none, (.bin .add (.t 20) (.c (.int .i64 1)))⟩, ⟨(some 22), none, (.call 185 [(.t 18), (.t 19), (.t 21)])⟩, ⟨(some 23), none, (.mem .nck [(.t 14)])⟩, ⟨(some 24), none, (.fad (.t 23) 3)⟩, ⟨none, none, (.st (.t 24) 1 (.t 22))⟩]) (.seq (.ops [⟨(some 4), none, (.mov (.c (.int .i64 0)))⟩]) .ret))))), 25, [(.tmp 4)]⟩
theorem F_volume_drop_ok : compF Try.prog (fun d => !([4194305].contains d)) 151 = some F_volume_drop := by kernel_rfl
@[simp] abbrev n_volume_drop_1 : FuncId := 184
def F_volume_drop_1 : F := ⟨(.seq (.ops [⟨(some 2), none, (.box (.t 0))⟩, ⟨(some 3), none, (.mov (.c (.bool false)))⟩]) (.seq (.ops [⟨(some 4), none, (.fad (.t 2) 0)⟩, ⟨(some 5), none, (.ld (.t 4) none)⟩, ⟨(some 6), none, (.fad (.t 1) 3)⟩, ⟨(some 7), none, (.ld (.t 6) none)⟩, ⟨(some 8), none, (.bin .eql (.t 5) (.t 7))⟩, ⟨(some 3), none, (.mov (.t 8))⟩]) .ret)), 9, [(.tmp 3)]⟩
theorem F_volume_drop_1_ok : compF Try.prog (fun _ => true) 184 = some F_volume_drop_1 := by kernel_rfl
@[simp] abbrev n_volume_stage : FuncId := 152
def F_volume_stage : F := ⟨(.seq (.ops [⟨(some 3), none, (.box (.t 1))⟩, ⟨(some 4), none, (.mov (.c (.int .i64 0)))⟩]) (.seq (.seq (.dops false [] [⟨(some 5), none, (.fad (.t 3) 4)⟩, ⟨(some 6), none, (.ld (.t 5) none)⟩, ⟨(some 7), none, (.len (.t 6))⟩, ⟨(some 8), none, (.mov (.t 0))⟩, ⟨(some 9), none, (.mem .nck [(.t 8)])⟩, ⟨(some 10), none, (.fad (.t 9) 5)⟩, ⟨(some 11), none, (.ld (.t 10) none)⟩, ⟨(some 12), none, (.len (.t 11))⟩, ⟨(some 13), none, (.bin .sub (.c (.int .i64 4000)) (.t 12))⟩, ⟨(some 14), none, (.bin .gtr (.t 7) (.t 13))⟩]) (.cond (.t 14) (.seq (.ops [⟨(some 4), none, (.mov (.c (.int .i64 113)))⟩]) .ret) .skip)) (.seq (.dops false [] [⟨(some 15), none, (.mov (.t 0))⟩, ⟨(some 16), none, (.mov (.t 0))⟩, ⟨(some 17), none, (.mem .nck [(.t 16)])⟩, ⟨(some 18), none, (.fad (.t 17) 5)⟩, ⟨(some 19), none, (.ld (.t 18) none)⟩, ⟨(some 20), none, (.fad (.t 3) 4)⟩, ⟨(some 21), none, (.ld (.t 20) none)⟩, ⟨(some 22), none, (.app (.t 19) (.t 21) 5 1 1 true)⟩, ⟨(some 23), none, (.mem .nck [(.t 15)])⟩, ⟨(some 24), none, (.fad (.t 23) 5)⟩, ⟨none, none, (.st (.t 24) 1 (.t 22))⟩]) (.seq (.ops [⟨(some 4), none, (.mov (.c (.int .i64 0)))⟩]) .ret)))), 25, [(.tmp 4)]⟩
theorem F_volume_stage_ok : compF Try.prog (fun _ => true) 152 = some F_volume_stage := by kernel_rfl
@[simp] abbrev n_volume_abort : FuncId := 153
def F_volume_abort : F := ⟨(.seq (.ops [⟨(some 3), none, (.box (.t 1))⟩, ⟨(some 4), none, (.mov (.c (.int .i64 0)))⟩]) (.seq (.ops [⟨(some 5), none, (.mov (.t 0))⟩, ⟨(some 6), none, (.mem .nck [(.t 5)])⟩, ⟨(some 7), none, (.fad (.t 6) 5)⟩, ⟨none, none, (.st (.t 7) 1 (.c (.slice none 0 0)))⟩]) (.seq (.ops [⟨(some 4), none, (.mov (.c (.int .i64 0)))⟩]) .ret))), 8, [(.tmp 4)]⟩
theorem F_volume_abort_ok : compF Try.prog (fun _ => true) 153 = some F_volume_abort := by kernel_rfl
@[simp] abbrev n_volume_apply : FuncId := 154
def F_volume_apply : F := ⟨(.seq (.ops [⟨(some 3), none, (.box (.t 1))⟩, ⟨(some 4), none, (.mov (.c (.int .i64 0)))⟩]) (.seq (.seq (.ops [⟨(some 7), none, (.mov (.t 0))⟩, ⟨(some 8), none, (.fad (.t 3) 5)⟩, ⟨(some 9), none, (.ld (.t 8) none)⟩, ⟨(some 10), none, (.call 182 [(.t 7), (.t 9)])⟩, ⟨(some 5), none, (.mov (.t 10))⟩]) (.seq (.ops [⟨(some 11), none, (.mov (.t 5))⟩, ⟨(some 12), none, (.bin .neq (.t 11) (.c (.int .i64 0)))⟩]) (.cond (.t 12) (.seq (.ops [⟨(some 13), none, (.mov (.t 5))⟩, ⟨(some 4), none, (.mov (.t 13))⟩]) .ret) .skip))) (.seq (.seq (.ops [⟨(some 14), none, (.mov (.t 0))⟩, ⟨(some 15), none, (.ld (.t 3) (some 6))⟩, ⟨(some 16), none, (.call 150 [(.t 14), (.t 15)])⟩, ⟨(some 6), none, (.mov (.t 16))⟩]) (.seq (.ops [⟨(some 17), none, (.mov (.t 6))⟩, ⟨(some 18), none, (.bin .neq (.t 17) (.c (.int .i64 0)))⟩]) (.cond (.t 18) (.seq (.ops [⟨(some 19), none, (.mov (.t 6))⟩, ⟨(some 4), none, (.mov (.t 19))⟩]) .ret) .skip))) (.seq (.ops [⟨(some 20), none, (.mov (.t 0))⟩, ⟨(some 21), none, (.ld (.t 3) (some 6))⟩, ⟨(some 22), none, (.call 153 [(.t 20), (.t 21)])⟩, ⟨(some 4), none, (.mov (.t 22))⟩]) .ret)))), 23, [(.tmp 4)]⟩
theorem F_volume_apply_ok : compF Try.prog (fun _ => true) 154 = some F_volume_apply := by kernel_rfl
@[simp] abbrev n_volume_lay : FuncId := 182
def F_volume_lay_L0 : C := (.seq (.ops [⟨(some 14), none, (.bin .lss (.t 13) (.t 12))⟩]) (.seq (.cond (.t 14) .skip (.exit 0)) (.seq (.block 1 (.seq (.ops [⟨(some 15), none, (.mov (.t 13))⟩, ⟨(some 6), none, (.mov (.t 15))⟩]) (.ops [⟨(some 16), none, (.mov (.t 5))⟩, ⟨(some 17), none, (.mov (.t 6))⟩, ⟨(some 18), none, (.mov (.t 0))⟩, ⟨(some 19), none, (.mem .nck [(.t 18)])⟩, ⟨(some 20), none, (.fad (.t 19) 1)⟩, ⟨(some 21), none, (.ld (.t 20) none)⟩, ⟨(some 22), none, (.mem (.ixr 5) [(.t 16), (.t 17)])⟩, ⟨(some 23), none, (.fad (.t 22) 3)⟩, ⟨none, none, (.st (.t 23) 1 (.t 21))⟩]))) (.ops [⟨(some 24), none, (.bin .add (.t 13) (.c (.int .i64 1)))⟩, ⟨(some 13), none, (.mov (.t 24))⟩]))))
def F_volume_lay : F := ⟨(.seq (.ops [⟨(some 4), none, (.mov (.c (.int .i64 0)))⟩]) (.seq (.ops [⟨(some 9), none, (.mov (.t 1))⟩, ⟨(some 10), none, (.call 145 [(.t 9)])⟩, ⟨(some 5), none, (.mov (.t 10))⟩]) (.seq (.seq (.ops [⟨(some 11), none, (.mov (.t 5))⟩, ⟨(some 12), none, (.mem .lnr [(.t 11)])⟩, ⟨(some 13), none, (.mov (.c (.int .i64 0)))⟩]) (.block 0 (.loop F_volume_lay_L0))) (.seq (.dops false [] [⟨(some 26), none, (.mov (.t 0))⟩, ⟨(some 27), none, (.mem .nck [(.t 26)])⟩, ⟨(some 28), none, (.fad (.t 27) 0)⟩, ⟨(some 29), none, (.ld (.t 28) none)⟩, ⟨(some 30), none, (.mov (.t 0))⟩, ⟨(some 31), none, (.mem .nck [(.t 30)])⟩, ⟨(some 32), none, (.fad (.t 31) 2)⟩, ⟨(some 33), none, (.ld (.t 32) none)⟩, ⟨(some 34), none, (.mov (.t 5))⟩, ⟨(some 35), none, (.call 202 [(.t 29), (.t 33), (.t 34)])⟩, ⟨(some 25), none, (.mov (.t 35))⟩, ⟨(some 36), none, (.ext (.t 25) 0)⟩, ⟨(some 37), none, (.ext (.t 25) 1)⟩, ⟨(some 7), none, (.mov (.t 36))⟩, ⟨(some 8), none, (.mov (.t 37))⟩]) (.seq (.seq (.ops [⟨(some 38), none, (.mov (.t 8))⟩, ⟨(some 39), none, (.bin .eql (.t 38) (.c (.int .i64 0)))⟩]) (.cond (.t 39) (.ops [⟨(some 40), none, (.mov (.t 0))⟩, ⟨(some 41), none, (.mov (.t 7))⟩, ⟨(some 42), none, (.mem .nck [(.t 40)])⟩, ⟨(some 43), none, (.fad (.t 42) 2)⟩, ⟨none, none, (.st (.t 43) 1 (.t 41))⟩]) .skip)) (.seq (.ops [⟨(some 44), none, (.mov (.t 8))⟩, ⟨(some 4), none, (.mov (.t 44))⟩]) .ret)))))), 45, [(.tmp 4)]⟩
theorem F_volume_lay_ok : compF Try.prog (fun d => !([2097164, 2097174].contains d)) 182 = some F_volume_lay := by kernel_rfl
@[simp] abbrev n_extmap_Lay : FuncId := 202
def F_extmap_Lay_B0 : C := (.seq (.seq (.ops [⟨(some 18), none, (.mov (.t 9))⟩, ⟨(some 19), none, (.mov (.t 2))⟩, ⟨(some 20), none, (.len (.t 19))⟩, ⟨(some 21), none, (.bin .eql (.t 18) (.t 20))⟩]) (.cond (.t 21) (.seq (.ops [⟨(some 22), none, (.mov (.t 8))⟩, ⟨(some 6), none, (.mov (.t 22))⟩, ⟨(some 7), none, (.mov (.c (.int .i64 0)))⟩]) .ret) .skip)) (.seq (.ops [⟨(some 24), none, (.mov (.t 0))⟩, ⟨(some 25), none, (.mov (.t 8))⟩, ⟨(some 26), none, (.mov (.t 2))⟩, ⟨(some 27), none, (.mov (.t 9))⟩, ⟨(some 28), none, (.ixs (.t 26) (.t 27) 5)⟩, ⟨(some 29), none, (.lde (.t 28) (some 5))⟩, ⟨(some 30), none, (.call 210 [(.t 24), (.t 25), (.t 29)])⟩, ⟨(some 23), none, (.mov (.t 30))⟩, ⟨(some 31), none, (.ext (.t 23) 0)⟩, ⟨(some 32), none, (.ext (.t 23) 1)⟩, ⟨(some 10), none, (.mov (.t 31))⟩, ⟨(some 11), none, (.mov (.t 32))⟩]) (.seq (.seq (.ops [⟨(some 33), none, (.mov (.t 11))⟩, ⟨(some 34), none, (.bin .neq (.t 33) (.c (.int .i64 0)))⟩]) (.cond (.t 34) (.seq (.ops [⟨(some 35), none, (.mov (.t 1))⟩, ⟨(some 36), none, (.call 209 [(.t 35)])⟩, ⟨(some 37), none, (.mov (.t 11))⟩, ⟨(some 6), none, (.mov (.t 36))⟩, ⟨(some 7), none, (.mov (.t 37))⟩]) .ret) .skip)) (.seq (.ops [⟨(some 38), none, (.mov (.t 10))⟩, ⟨(some 8), none, (.mov (.t 38))⟩]) (.seq (.ops [⟨(some 39), none, (.mov (.t 9))⟩, ⟨(some 40), none, (.bin .add (.t 39) (.c (.int .i64 1)))⟩, ⟨(some 9), none, (.mov (.t 40))⟩]) (.goto 0))))))
def F_extmap_Lay_J0 : C := (.seq .skip F_extmap_Lay_B0)
def F_extmap_Lay_S0 : C := (.seq (.seq (.ops [⟨(some 12), none, (.mov (.t 0))⟩, ⟨(some 13), none, (.mov (.t 1))⟩, ⟨(some 14), none, (.call 138 [(.t 12), (.t 13)])⟩, ⟨(some 15), none, (.un .not (.t 14))⟩]) (.cond (.t 15) (.seq (.ops [⟨(some 6), none, (.nil 174 5 true)⟩, ⟨(some 7), none, (.mov (.c (.int .i64 80)))⟩]) .ret) .skip)) (.seq (.ops [⟨(some 16), none, (.mov (.t 1))⟩, ⟨(some 17), none, (.call 209 [(.t 16)])⟩, ⟨(some 8), none, (.mov (.t 17))⟩, ⟨(some 9), none, (.mov (.c (.int .i64 0)))⟩]) (.seq (.label 0) F_extmap_Lay_B0)))
def F_extmap_Lay : F := ⟨(.seq (.ops [⟨(some 6), none, (.nil 174 5 true)⟩, ⟨(some 7), none, (.mov (.c (.int .i64 0)))⟩]) (.scopeJ F_extmap_Lay_S0 0 F_extmap_Lay_J0)), 41, [(.tmp 6), (.tmp 7)]⟩
theorem F_extmap_Lay_ok : compF Try.prog (fun _ => true) 202 = some F_extmap_Lay := by kernel_rfl
@[simp] abbrev n_extmap_own : FuncId := 209
def F_extmap_own_L0 : C := (.seq (.ops [⟨(some 8), none, (.bin .lss (.t 7) (.t 6))⟩]) (.seq (.cond (.t 8) .skip (.exit 0)) (.seq (.block 1 (.seq (.ops [⟨(some 9), none, (.ixs (.t 5) (.t 7) 5)⟩, ⟨(some 10), none, (.lde (.t 9) (some 5))⟩, ⟨(some 4), none, (.alc [(.val (.int .i64 0)), (.val (.int .i64 0)), (.val (.int .i64 0)), (.val (.int .i64 0)), (.lit 1 [])])⟩, ⟨none, none, (.st (.t 4) 5 (.t 10))⟩]) (.seq (.ops [⟨(some 11), none, (.fad (.t 4) 4)⟩, ⟨(some 12), none, (.ld (.t 11) none)⟩, ⟨(some 13), none, (.app (.c (.slice none 0 0)) (.t 12) 5 1 1 false)⟩, ⟨(some 14), none, (.fad (.t 4) 4)⟩, ⟨none, none, (.st (.t 14) 1 (.t 13))⟩]) (.ops [⟨(some 15), none, (.mov (.t 2))⟩, ⟨(some 16), none, (.ld (.t 4) (some 5))⟩, ⟨(some 17), none, (.mkl 174 5 [(.t 16)] true)⟩, ⟨(some 18), none, (.app (.t 15) (.t 17) 174 5 56 true)⟩, ⟨(some 2), none, (.mov (.t 18))⟩])))) (.ops [⟨(some 19), none, (.bin .add (.t 7) (.c (.int .i64 1)))⟩, ⟨(some 7), none, (.mov (.t 19))⟩]))))
def F_extmap_own : F := ⟨(.seq (.ops [⟨(some 2), none, (.nil 174 5 true)⟩]) (.seq (.seq (.ops [⟨(some 5), none, (.mov (.t 0))⟩, ⟨(some 6), none, (.len (.t 5))⟩, ⟨(some 7), none, (.mov (.c (.int .i64 0)))⟩]) (.block 0 (.loop F_extmap_own_L0))) (.seq (.ops [⟨(some 20), none, (.mov (.t 2))⟩, ⟨(some 2), none, (.mov (.t 20))⟩]) .ret))), 21, [(.tmp 2)]⟩
theorem F_extmap_own_ok : compF Try.prog (fun d => !([13].contains d)) 209 = some F_extmap_own := by kernel_rfl
@[simp] abbrev n_extmap_Put : FuncId := 210
def F_extmap_Put : F := ⟨(.seq (.ops [⟨(some 5), none, (.box (.t 2))⟩, ⟨(some 6), none, (.alc [(.val (.slice none 0 0))])⟩, ⟨(some 7), none, (.mov (.c (.int .i64 0)))⟩]) (.seq (.block 0 (.seq (.ops [⟨(some 13), none, (.mov (.t 0))⟩, ⟨(some 14), none, (.mov (.t 1))⟩, ⟨(some 15), none, (.call 138 [(.t 13), (.t 14)])⟩, ⟨(some 16), none, (.un .not (.t 15))⟩, ⟨(some 12), none, (.mov (.t 16))⟩]) (.cond (.t 12) (.seq (.ops [⟨none, none, (.st (.t 6) 1 (.c (.slice none 0 0)))⟩, ⟨(some 7), none, (.mov (.c (.int .i64 80)))⟩]) .ret) (.seq (.ops [⟨(some 18), none, (.ld (.t 5) (some 5))⟩, ⟨(some 19), none, (.call 119 [(.t 18)])⟩, ⟨(some 20), none, (.un .not (.t 19))⟩, ⟨(some 21), none, (.mov (.t 20))⟩, ⟨(some 22), (some (21, false)), (.fad (.t 5) 0)⟩, ⟨(some 23), (some (21, false)), (.ld (.t 22) none)⟩, ⟨(some 24), (some (21, false)), (.fad (.t 5) 1)⟩, ⟨(some 25), (some (21, false)), (.ld (.t 24) none)⟩, ⟨(some 26), (some (21, false)), (.bin .add (.t 23) (.t 25))⟩, ⟨(some 27), (some (21, false)), (.mov (.t 0))⟩, ⟨(some 28), (some (21, false)), (.bin .gtr (.t 26) (.t 27))⟩, ⟨(some 29), none, (.pick (.t 21) (.c (.bool true)) (.t 28))⟩, ⟨(some 17), none, (.mov (.t 29))⟩]) (.cond (.t 17) (.seq (.ops [⟨(some 30), none, (.mov (.t 1))⟩, ⟨(some 31), none, (.call 209 [(.t 30)])⟩, ⟨none, none, (.st (.t 6) 1 (.t 31))⟩, ⟨(some 7), none, (.mov (.c (.int .i64 81)))⟩]) .ret) .skip))))) (.seq (.seq (.ops [⟨(some 32), none, (.mov (.t 1))⟩, ⟨(some 33), none, (.ld (.t 5) (some 5))⟩, ⟨(some 34), none, (.call 217 [(.t 32), (.t 33)])⟩]) (.block 1 (.rangeF false (.t 34) [35] (.ops [⟨(some 8), none, (.alc [(.val (.int .i64 0)), (.val (.int .i64 0)), (.val (.int .i64 0)), (.val (.int .i64 0)), (.lit 1 [])])⟩, ⟨none, none, (.st (.t 8) 5 (.t 35))⟩]) (.block 2 (.seq (.seq (.ops [⟨(some 36), none, (.ld (.t 6) none)⟩, ⟨(some 37), none, (.mem .lnr [(.t 36)])⟩, ⟨(some 9), none, (.mov (.t 37))⟩]) (.seq (.ops [⟨(some 38), none, (.mov (.t 9))⟩, ⟨(some 39), none, (.bin .gtr (.t 38) (.c (.int .i64 0)))⟩]) (.cond (.t 39) (.seq (.dops false [] [⟨(some 41), none, (.ld (.t 6) none)⟩, ⟨(some 42), none, (.mov (.t 9))⟩, ⟨(some 43), none, (.bin .sub (.t 42) (.c (.int .i64 1)))⟩, ⟨(some 44), none, (.mem (.ixr 5) [(.t 41), (.t 43)])⟩, ⟨(some 45), none, (.ld (.t 44) (some 5))⟩, ⟨(some 46), none, (.ld (.t 8) (some 5))⟩, ⟨(some 47), none, (.callq 218 [(.t 45), (.t 46)])⟩, ⟨(some 40), none, (.mov (.t 47))⟩, ⟨(some 48), none, (.ext (.t 40) 0)⟩, ⟨(some 49), none, (.ext (.t 40) 1)⟩, ⟨(some 10), none, (.alc [(.val (.int .i64 0)), (.val (.int .i64 0)), (.val (.int .i64 0)), (.val (.int .i64 0)), (.lit 1 [])])⟩, ⟨none, none, (.st (.t 10) 5 (.t 48))⟩, ⟨(some 11), none, (.mov (.t 49))⟩]) (.seq (.ops [⟨(some 50), none, (.mov (.t 11))⟩, ⟨(some 51), none, (.bin .eql (.t 50) (.c (.int .i64 0)))⟩]) (.cond (.t 51) (.seq (.ops [⟨(some 52), none, (.ld (.t 6) none)⟩, ⟨(some 53), none, (.mov (.t 9))⟩, ⟨(some 54), none, (.bin .sub (.t 53) (.c (.int .i64 1)))⟩, ⟨(some 55), none, (.ld (.t 10) (some 5))⟩, ⟨(some 56), none, (.mem (.ixr 5) [(.t 52), (.t 54)])⟩, ⟨none, none, (.st (.t 56) 5 (.t 55))⟩]) (.exit 2)) .skip))) .skip))) (.ops [⟨(some 57), none, (.ld (.t 6) none)⟩, ⟨(some 58), none, (.ld (.t 8) (some 5))⟩, ⟨(some 59), none, (.mkl 174 5 [(.t 58)] true)⟩, ⟨(some 60), none, (.mem (.apb 174 5 56) [(.t 57), (.t 59)])⟩, ⟨none, none, (.st (.t 6) 1 (.t 60))⟩])))))) (.seq (.ops [⟨(some 61), none, (.ld (.t 6) none)⟩, ⟨(some 62), none, (.call 209 [(.t 61)])⟩, ⟨none, none, (.st (.t 6) 1 (.t 62))⟩, ⟨(some 7), none, (.mov (.c (.int .i64 0)))⟩]) .ret)))), 63, [(.cell 6 none), (.tmp 7)]⟩
theorem F_extmap_Put_ok : compF Try.prog (fun d => !([6, 2097158, 2097189, 2097196, 2097197, 2097208, 2097212].contains d)) 210 = some F_extmap_Put := by kernel_rfl
@[simp] abbrev n_extmap_parts : FuncId := 217
def F_extmap_parts : F := ⟨(.seq (.ops [⟨(some 2), none, (.box (.t 0))⟩, ⟨(some 3), none, (.box (.t 1))⟩, ⟨(some 4), none, (.mov (.c .nilFunc))⟩]) (.seq (.ops [⟨(some 5), none, (.mkf 219 [(.t 3), (.t 2)])⟩, ⟨(some 4), none, (.mov (.t 5))⟩]) .ret)), 6, [(.tmp 4)]⟩
theorem F_extmap_parts_ok : compF Try.prog (fun _ => true) 217 = some F_extmap_parts := by kernel_rfl
@[simp] abbrev n_extmap_parts_1 : FuncId := 219
def F_extmap_parts_1_L0 : C := (.seq (.ops [⟨(some 20), none, (.bin .lss (.t 19) (.t 18))⟩]) (.seq (.cond (.t 20) .skip (.exit 0)) (.seq (.block 1 (.seq (.ops [⟨(some 21), none, (.ixs (.t 17) (.t 19) 5)⟩, ⟨(some 22), none, (.lde (.t 21) (some 5))⟩, ⟨(some 7), none, (.alc [(.val (.int .i64 0)), (.val (.int .i64 0)), (.val (.int .i64 0)), (.val (.int .i64 0)), (.lit 1 [])])⟩, ⟨none, none, (.st (.t 7) 5 (.t 22))⟩]) (.seq (.seq (.ops [⟨(some 24), none, (.ld (.t 7) (some 5))⟩, ⟨(some 25), none, (.fad (.t 1) 0)⟩, ⟨(some 26), none, (.ld (.t 25) none)⟩, ⟨(some 27), none, (.call 141 [(.t 24), (.c (.int .i64 0)), (.t 26)])⟩, ⟨(some 23), none, (.mov (.t 27))⟩, ⟨(some 28), none, (.ext (.t 23) 0)⟩, ⟨(some 29), none, (.ext (.t 23) 1)⟩, ⟨(some 8), none, (.alc [(.val (.int .i64 0)), (.val (.int .i64 0)), (.val (.int .i64 0)), (.val (.int .i64 0)), (.lit 1 [])])⟩, ⟨none, none, (.st (.t 8) 5 (.t 28))⟩, ⟨(some 9), none, (.mov (.t 29))⟩]) (.seq (.ops [⟨(some 30), none, (.mov (.t 9))⟩, ⟨(some 31), none, (.mov (.t 30))⟩, ⟨(some 32), (some (31, true)), (.mov (.t 0))⟩, ⟨(some 33), (some (31, true)), (.ld (.t 8) (some 5))⟩, ⟨(some 34), (some (31, true)), (.callv (.t 32) [(.t 33)])⟩, ⟨(some 35), (some (31, true)), (.un .not (.t 34))⟩, ⟨(some 36), none, (.pick (.t 31) (.t 35) (.c (.bool false)))⟩]) (.cond (.t 36) .ret .skip))) (.seq (.seq (.ops [⟨(some 37), none, (.mov (.t 5))⟩, ⟨(some 38), none, (.un .not (.t 37))⟩, ⟨(some 39), none, (.mov (.t 38))⟩, ⟨(some 40), (some (39, true)), (.fad (.t 7) 0)⟩, ⟨(some 41), (some (39, true)), (.ld (.t 40) none)⟩, ⟨(some 42), (some (39, true)), (.fad (.t 7) 1)⟩, ⟨(some 43), (some (39, true)), (.ld (.t 42) none)⟩, ⟨(some 44), (some (39, true)), (.bin .add (.t 41) (.t 43))⟩, ⟨(some 45), (some (39, true)), (.fad (.t 1) 0)⟩, ⟨(some 46), (some (39, true)), (.ld (.t 45) none)⟩, ⟨(some 47), (some (39, true)), (.bin .gtr (.t 44) (.t 46))⟩, ⟨(some 48), none, (.pick (.t 39) (.t 47) (.c (.bool false)))⟩]) (.cond (.t 48) (.seq (.ops [⟨(some 5), none, (.mov (.c (.bool true)))⟩]) (.seq (.ops [⟨(some 49), none, (.mov (.t 0))⟩, ⟨(some 50), none, (.ld (.t 1) (some 5))⟩, ⟨(some 51), none, (.callv (.t 49) [(.t 50)])⟩, ⟨(some 52), none, (.un .not (.t 51))⟩]) (.cond (.t 52) .ret .skip))) .skip)) (.seq (.ops [⟨(some 54), none, (.ld (.t 7) (some 5))⟩, ⟨(some 55), none, (.mov (.t 4))⟩, ⟨(some 56), none, (.call 141 [(.t 54), (.t 55), (.c (.int .i64 64))])⟩, ⟨(some 53), none, (.mov (.t 56))⟩, ⟨(some 57), none, (.ext (.t 53) 0)⟩, ⟨(some 58), none, (.ext (.t 53) 1)⟩, ⟨(some 10), none, (.alc [(.val (.int .i64 0)), (.val (.int .i64 0)), (.val (.int .i64 0)), (.val (.int .i64 0)), (.lit 1 [])])⟩, ⟨none, none, (.st (.t 10) 5 (.t 57))⟩, ⟨(some 11), none, (.mov (.t 58))⟩]) (.seq (.ops [⟨(some 59), none, (.mov (.t 11))⟩, ⟨(some 60), none, (.mov (.t 59))⟩, ⟨(some 61), (some (60, true)), (.mov (.t 0))⟩, ⟨(some 62), (some (60, true)), (.ld (.t 10) (some 5))⟩, ⟨(some 63), (some (60, true)), (.callv (.t 61) [(.t 62)])⟩, ⟨(some 64), (some (60, true)), (.un .not (.t 63))⟩, ⟨(some 65), none, (.pick (.t 60) (.t 64) (.c (.bool false)))⟩]) (.cond (.t 65) .ret .skip))))))) (.ops [⟨(some 66), none, (.bin .add (.t 19) (.c (.int .i64 1)))⟩, ⟨(some 19), none, (.mov (.t 66))⟩]))))
def F_extmap_parts_1 : F := ⟨(.seq (.ops [⟨(some 12), none, (.fad (.t 1) 0)⟩, ⟨(some 13), none, (.ld (.t 12) none)⟩, ⟨(some 14), none, (.fad (.t 1) 1)⟩, ⟨(some 15), none, (.ld (.t 14) none)⟩, ⟨(some 16), none, (.bin .add (.t 13) (.t 15))⟩, ⟨(some 4), none, (.mov (.t 16))⟩, ⟨(some 5), none, (.mov (.c (.bool false)))⟩]) (.seq (.ops [⟨(some 17), none, (.ld (.t 2) none)⟩, ⟨(some 18), none, (.len (.t 17))⟩, ⟨(some 19), none, (.mov (.c (.int .i64 0)))⟩]) (.block 0 (.loop F_extmap_parts_1_L0)))), 67, []⟩
theorem F_extmap_parts_1_ok : compF Try.prog (fun _ => true) 219 = some F_extmap_parts_1 := by kernel_rfl
@[simp] abbrev n_extent_Join : FuncId := 218
def F_extent_Join : F := ⟨(.seq (.ops [⟨(some 2), none, (.box (.t 0))⟩, ⟨(some 3), none, (.box (.t 1))⟩, ⟨(some 4), none, (.alc [(.val (.int .i64 0)), (.val (.int .i64 0)), (.val (.int .i64 0)), (.val (.int .i64 0)), (.lit 1 [])])⟩, ⟨(some 5), none, (.mov (.c (.int .i64 0)))⟩]) (.seq (.seq (.ops [⟨(some 6), none, (.ld (.t 2) (some 5))⟩, ⟨(some 7), none, (.ld (.t 3) (some 5))⟩, ⟨(some 8), none, (.call 177 [(.t 6), (.t 7)])⟩, ⟨(some 9), none, (.un .not (.t 8))⟩]) (.cond (.t 9) (.seq (.ops [⟨(some 10), none, (.bld [(.val (.int .i64 0)), (.val (.int .i64 0)), (.val (.int .i64 0)), (.val (.int .i64 0)), (.lit 1 [])] [])⟩, ⟨none, none, (.st (.t 4) 5 (.t 10))⟩, ⟨(some 5), none, (.mov (.c (.int .i64 70)))⟩]) .ret) .skip)) (.seq (.ops [⟨(some 11), none, (.fad (.t 2) 1)⟩, ⟨(some 12), none, (.ld (.t 11) none)⟩, ⟨(some 13), none, (.fad (.t 3) 1)⟩, ⟨(some 14), none, (.ld (.t 13) none)⟩, ⟨(some 15), none, (.bin .add (.t 12) (.t 14))⟩, ⟨(some 16), none, (.fad (.t 2) 1)⟩, ⟨none, none, (.st (.t 16) 1 (.t 15))⟩]) (.seq (.dops false [] [⟨(some 17), none, (.fad (.t 2) 4)⟩, ⟨(some 18), none, (.ld (.t 17) none)⟩, ⟨(some 20), none, (.fad (.t 3) 4)⟩, ⟨(some 21), none, (.ld (.t 20) none)⟩, ⟨(some 19), none, (.callf (.f 77) [(.t 18)] [20])⟩, ⟨(some 22), none, (.app (.t 19) (.t 21) 5 1 1 true)⟩, ⟨(some 23), none, (.fad (.t 2) 4)⟩, ⟨none, none, (.st (.t 23) 1 (.t 22))⟩]) (.seq (.ops [⟨(some 24), none, (.ld (.t 2) (some 5))⟩, ⟨none, none, (.st (.t 4) 5 (.t 24))⟩, ⟨(some 5), none, (.mov (.c (.int .i64 0)))⟩]) .ret))))), 25, [(.cell 4 (some 5)), (.tmp 5)]⟩
theorem F_extent_Join_ok : compF Try.prog (fun d => !([4194305].contains d)) 218 = some F_extent_Join := by kernel_rfl
@[simp] abbrev n_change_Check : FuncId := 97
def F_change_Check : F := ⟨(.seq (.ops [⟨(some 1), none, (.box (.t 0))⟩, ⟨(some 2), none, (.mov (.c (.bool false)))⟩]) (.seq (.seq (.ops [⟨(some 6), none, (.fad (.t 1) 0)⟩, ⟨(some 7), none, (.ld (.t 6) none)⟩, ⟨(some 8), none, (.call 142 [(.t 7), (.c (.int .i64 1)), (.c (.int .i64 8))])⟩, ⟨(some 9), none, (.un .not (.t 8))⟩]) (.cond (.t 9) (.seq (.ops [⟨(some 2), none, (.mov (.c (.bool false)))⟩]) .ret) .skip)) (.seq (.dops false [] [⟨(some 10), none, (.callq 143 [])⟩, ⟨(some 11), none, (.fad (.t 1) 0)⟩, ⟨(some 12), none, (.ld (.t 11) none)⟩, ⟨(some 13), none, (.mem (.ixv 9 4) [(.t 10), (.t 12)])⟩, ⟨(some 3), none, (.alc [(.val (.bool false)), (.val (.bool false)), (.val (.bool false)), (.val .nilFunc)])⟩, ⟨none, none, (.st (.t 3) 4 (.t 13))⟩]) (.seq (.ops [⟨(some 14), none, (.fad (.t 1) 1)⟩, ⟨(some 15), none, (.ld (.t 14) none)⟩, ⟨(some 16), none, (.bin .eql (.t 15) (.c (.int .i64 0)))⟩, ⟨(some 17), none, (.mov (.t 16))⟩, ⟨(some 18), (some (17, true)), (.fad (.t 1) 2)⟩, ⟨(some 19), (some (17, true)), (.ld (.t 18) none)⟩, ⟨(some 20), (some (17, true)), (.bin .eql (.t 19) (.c (.int .i64 0)))⟩, ⟨(some 21), none, (.pick (.t 17) (.t 20) (.c (.bool false)))⟩, ⟨(some 4), none, (.mov (.t 21))⟩]) (.seq (.seq (.ops [⟨(some 22), none, (.fad (.t 3) 0)⟩, ⟨(some 23), none, (.ld (.t 22) none)⟩]) (.cond (.t 23) (.ops [⟨(some 24), none, (.fad (.t 1) 1)⟩, ⟨(some 25), none, (.ld (.t 24) none)⟩, ⟨(some 26), none, (.call 142 [(.t 25), (.c (.int .i64 0)), (.c (.int .i64 64))])⟩, ⟨(some 27), none, (.mov (.t 26))⟩, ⟨(some 28), (some (27, true)), (.fad (.t 1) 2)⟩, ⟨(some 29), (some (27, true)), (.ld (.t 28) none)⟩, ⟨(some 30), (some (27, true)), (.fad (.t 1) 1)⟩, ⟨(some 31), (some (27, true)), (.ld (.t 30) none)⟩, ⟨(some 32), (some (27, true)), (.bin .sub (.c (.int .i64 64)) (.t 31))⟩, ⟨(some 33), (some (27, true)), (.call 142 [(.t 29), (.c (.int .i64 1)), (.t 32)])⟩, ⟨(some 34), none, (.pick (.t 27) (.t 33) (.c (.bool false)))⟩, ⟨(some 4), none, (.mov (.t 34))⟩]) .skip)) (.seq (.ops [⟨(some 35), none, (.fad (.t 1) 3)⟩, ⟨(some 36), none, (.ld (.t 35) none)⟩, ⟨(some 37), none, (.bin .eql (.t 36) (.c (.int .i64 0)))⟩, ⟨(some 5), none, (.mov (.t 37))⟩]) (.seq (.seq (.ops [⟨(some 38), none, (.fad (.t 3) 1)⟩, ⟨(some 39), none, (.ld (.t 38) none)⟩]) (.cond (.t 39) (.ops [⟨(some 40), none, (.fad (.t 1) 3)⟩, ⟨(some 41), none, (.ld (.t 40) none)⟩, ⟨(some 42), none, (.call 142 [(.t 41), (.c (.int .i64 1)), (.c (.int .i64 2147483647))])⟩, ⟨(some 5), none, (.mov (.t 42))⟩]) .skip)) (.seq (.ops [⟨(some 43), none, (.mov (.t 4))⟩, ⟨(some 44), none, (.mov (.t 43))⟩, ⟨(some 45), (some (44, true)), (.mov (.t 5))⟩, ⟨(some 46), none, (.pick (.t 44) (.t 45) (.c (.bool false)))⟩, ⟨(some 47), none, (.mov (.t 46))⟩, ⟨(some 48), (some (47, true)), (.fad (.t 3) 3)⟩, ⟨(some 49), (some (47, true)), (.ld (.t 48) none)⟩, ⟨(some 50), (some (47, true)), (.ld (.t 1) (some 6))⟩, ⟨(some 51), (some (47, true)), (.callv (.t 49) [(.t 50)])⟩, ⟨(some 52), none, (.pick (.t 47) (.t 51) (.c (.bool false)))⟩, ⟨(some 53), none, (.mov (.t 52))⟩, ⟨(some 54), (some (53, true)), (.fad (.t 1) 5)⟩, ⟨(some 55), (some (53, true)), (.ld (.t 54) none)⟩, ⟨(some 56), (some (53, true)), (.len (.t 55))⟩, ⟨(some 57), (some (53, true)), (.bin .eql (.t 56) (.c (.int .i64 0)))⟩, ⟨(some 58), (some (53, true)), (.mov (.t 57))⟩, ⟨(some 59), (some (58, false)), (.fad (.t 3) 2)⟩, ⟨(some 60), (some (58, false)), (.ld (.t 59) none)⟩, ⟨(some 61), (some (58, false)), (.mov (.t 60))⟩, ⟨(some 62), (some (61, true)), (.fad (.t 1) 5)⟩, ⟨(some 63), (some (61, true)), (.ld (.t 62) none)⟩, ⟨(some 64), (some (61, true)), (.call 144 [(.t 63)])⟩, ⟨(some 65), (some (58, false)), (.pick (.t 61) (.t 64) (.c (.bool false)))⟩, ⟨(some 66), (some (53, true)), (.pick (.t 58) (.c (.bool true)) (.t 65))⟩, ⟨(some 67), none, (.pick (.t 53) (.t 66) (.c (.bool false)))⟩, ⟨(some 2), none, (.mov (.t 67))⟩]) .ret)))))))), 68, [(.tmp 2)]⟩
theorem F_change_Check_ok : compF Try.prog (fun _ => true) 97 = some F_change_Check := by kernel_rfl
@[simp] abbrev n_change_kinds : FuncId := 143
def F_change_kinds : F := ⟨(.seq (.ops [⟨(some 0), none, (.alc [(.val (.bool false)), (.val (.bool false)), (.val (.bool false)), (.val .nilFunc), (.val (.bool false)), (.val (.bool false)), (.val (.bool false)), (.val .nilFunc), (.val (.bool false)), (.val (.bool false)), (.val (.bool false)), (.val .nilFunc), (.val (.bool false)), (.val (.bool false)), (.val (.bool false)), (.val .nilFunc), (.val (.bool false)), (.val (.bool false)), (.val (.bool false)), (.val .nilFunc), (.val (.bool false)), (.val (.bool false)), (.val (.bool false)), (.val .nilFunc), (.val (.bool false)), (.val (.bool false)), (.val (.bool false)), (.val .nilFunc), (.val (.bool false)), (.val (.bool false)), (.val (.bool false)), (.val .nilFunc), (.val (.bool false)), (.val (.bool false)), (.val (.bool false)), (.val .nilFunc)])⟩]) (.seq (.ops [⟨(some 1), none, (.mov (.f 179))⟩]) (.seq (.ops [⟨(some 2), none, (.mov (.f 180))⟩]) (.seq (.ops [⟨(some 3), none, (.mov (.f 181))⟩]) (.seq (.ops [⟨(some 4), none, (.mov (.t 3))⟩, ⟨(some 5), none, (.bld [(.val (.bool false)), (.val (.bool false)), (.val (.bool false)), (.val .nilFunc)] [(0, (1, (.c (.bool true)))), (3, (1, (.t 4)))])⟩, ⟨(some 6), none, (.mov (.t 1))⟩, ⟨(some 7), none, (.bld [(.val (.bool false)), (.val (.bool false)), (.val (.bool false)), (.val .nilFunc)] [(0, (1, (.c (.bool true)))), (3, (1, (.t 6)))])⟩, ⟨(some 8), none, (.mov (.t 1))⟩, ⟨(some 9), none, (.bld [(.val (.bool false)), (.val (.bool false)), (.val (.bool false)), (.val .nilFunc)] [(0, (1, (.c (.bool true)))), (3, (1, (.t 8)))])⟩, ⟨(some 10), none, (.mov (.t 1))⟩, ⟨(some 11), none, (.bld [(.val (.bool false)), (.val (.bool false)), (.val (.bool false)), (.val .nilFunc)] [(1, (1, (.c (.bool true)))), (3, (1, (.t 10)))])⟩, ⟨(some 12), none, (.mov (.t 1))⟩, ⟨(some 13), none, (.bld [(.val (.bool false)), (.val (.bool false)), (.val (.bool false)), (.val .nilFunc)] [(1, (1, (.c (.bool true)))), (3, (1, (.t 12)))])⟩, ⟨(some 14), none, (.mov (.t 2))⟩, ⟨(some 15), none, (.bld [(.val (.bool false)), (.val (.bool false)), (.val (.bool false)), (.val .nilFunc)] [(3, (1, (.t 14)))])⟩, ⟨(some 16), none, (.mov (.t 1))⟩, ⟨(some 17), none, (.bld [(.val (.bool false)), (.val (.bool false)), (.val (.bool false)), (.val .nilFunc)] [(3, (1, (.t 16)))])⟩, ⟨(some 18), none, (.mov (.t 1))⟩, ⟨(some 19), none, (.bld [(.val (.bool false)), (.val (.bool false)), (.val (.bool false)), (.val .nilFunc)] [(1, (1, (.c (.bool true)))), (2, (1, (.c (.bool true)))), (3, (1, (.t 18)))])⟩, ⟨(some 20), none, (.bld [(.val (.bool false)), (.val (.bool false)), (.val (.bool false)), (.val .nilFunc), (.val (.bool false)), (.val (.bool false)), (.val (.bool false)), (.val .nilFunc), (.val (.bool false)), (.val (.bool false)), (.val (.bool false)), (.val .nilFunc), (.val (.bool false)), (.val (.bool false)), (.val (.bool false)), (.val .nilFunc), (.val (.bool false)), (.val (.bool false)), (.val (.bool false)), (.val .nilFunc), (.val (.bool false)), (.val (.bool false)), (.val (.bool false)), (.val .nilFunc), (.val (.bool false)), (.val (.bool false)), (.val (.bool false)), (.val .nilFunc), (.val (.bool false)), (.val (.bool false)), (.val (.bool false)), (.val .nilFunc), (.val (.bool false)), (.val (.bool false)), (.val (.bool false)), (.val .nilFunc)] [(4, (4, (.t 5))), (8, (4, (.t 7))), (12, (4, (.t 9))), (16, (4, (.t 11))), (20, (4, (.t 13))), (24, (4, (.t 15))), (28, (4, (.t 17))), (32, (4, (.t 19)))])⟩, ⟨none, none, (.st (.t 0) 36 (.t 20))⟩]) .ret))))), 21, [(.cell 0 (some 36))]⟩
theorem F_change_kinds_ok : compF Try.prog (fun _ => true) 143 = some F_change_kinds := by kernel_rfl
@[simp] abbrev n_change_kinds_1 : FuncId := 179
def F_change_kinds_1 : F := ⟨(.seq (.ops [⟨(some 1), none, (.box (.t 0))⟩, ⟨(some 2), none, (.mov (.c (.bool false)))⟩]) (.seq (.ops [⟨(some 3), none, (.fad (.t 1) 4)⟩, ⟨(some 4), none, (.ld (.t 3) none)⟩, ⟨(some 5), none, (.len (.t 4))⟩, ⟨(some 6), none, (.bin .eql (.t 5) (.c (.int .i64 0)))⟩, ⟨(some 2), none, (.mov (.t 6))⟩]) .ret)), 7, [(.tmp 2)]⟩
theorem F_change_kinds_1_ok : compF Try.prog (fun _ => true) 179 = some F_change_kinds_1 := by kernel_rfl
@[simp] abbrev n_change_kinds_2 : FuncId := 180
def F_change_kinds_2 : F := ⟨(.seq (.ops [⟨(some 1), none, (.box (.t 0))⟩, ⟨(some 2), none, (.mov (.c (.bool false)))⟩]) (.seq (.ops [⟨(some 3), none, (.fad (.t 1) 4)⟩, ⟨(some 4), none, (.ld (.t 3) none)⟩, ⟨(some 5), none, (.len (.t 4))⟩, ⟨(some 6), none, (.call 142 [(.t 5), (.c (.int .i64 1)), (.c (.int .i64 1000))])⟩, ⟨(some 2), none, (.mov (.t 6))⟩]) .ret)), 7, [(.tmp 2)]⟩
theorem F_change_kinds_2_ok : compF Try.prog (fun _ => true) 180 = some F_change_kinds_2 := by kernel_rfl
@[simp] abbrev n_change_kinds_3 : FuncId := 181
def F_change_kinds_3 : F := ⟨(.seq (.ops [⟨(some 1), none, (.box (.t 0))⟩, ⟨(some 2), none, (.mov (.c (.bool false)))⟩]) (.seq (.ops [⟨(some 3), none, (.fad (.t 1) 4)⟩, ⟨(some 4), none, (.ld (.t 3) none)⟩, ⟨(some 5), none, (.len (.t 4))⟩, ⟨(some 6), none, (.fad (.t 1) 2)⟩, ⟨(some 7), none, (.ld (.t 6) none)⟩, ⟨(some 8), none, (.bin .mul (.t 7) (.c (.int .i64 32)))⟩, ⟨(some 9), none, (.bin .eql (.t 5) (.t 8))⟩, ⟨(some 2), none, (.mov (.t 9))⟩]) .ret)), 10, [(.tmp 2)]⟩
theorem F_change_kinds_3_ok : compF Try.prog (fun _ => true) 181 = some F_change_kinds_3 := by kernel_rfl
@[simp] abbrev n_change_follows : FuncId := 144
def F_change_follows_L0 : C := (.seq (.ops [⟨(some 9), none, (.bin .lss (.t 8) (.t 7))⟩]) (.seq (.cond (.t 9) .skip (.exit 0)) (.seq (.block 1 (.seq (.ops [⟨(some 10), none, (.ixs (.t 6) (.t 8) 5)⟩, ⟨(some 11), none, (.lde (.t 10) (some 5))⟩, ⟨(some 5), none, (.alc [(.val (.int .i64 0)), (.val (.int .i64 0)), (.val (.int .i64 0)), (.val (.int .i64 0)), (.lit 1 [])])⟩, ⟨none, none, (.st (.t 5) 5 (.t 11))⟩]) (.seq (.seq (.ops [⟨(some 12), none, (.ld (.t 5) (some 5))⟩, ⟨(some 13), none, (.call 119 [(.t 12)])⟩, ⟨(some 14), none, (.un .not (.t 13))⟩, ⟨(some 15), none, (.mov (.t 14))⟩, ⟨(some 16), (some (15, false)), (.fad (.t 5) 0)⟩, ⟨(some 17), (some (15, false)), (.ld (.t 16) none)⟩, ⟨(some 18), (some (15, false)), (.mov (.t 3))⟩, ⟨(some 19), (some (15, false)), (.bin .lss (.t 17) (.t 18))⟩, ⟨(some 20), none, (.pick (.t 15) (.c (.bool true)) (.t 19))⟩]) (.cond (.t 20) (.seq (.ops [⟨(some 2), none, (.mov (.c (.bool false)))⟩]) .ret) .skip)) (.ops [⟨(some 21), none, (.fad (.t 5) 0)⟩, ⟨(some 22), none, (.ld (.t 21) none)⟩, ⟨(some 23), none, (.fad (.t 5) 1)⟩, ⟨(some 24), none, (.ld (.t 23) none)⟩, ⟨(some 25), none, (.bin .add (.t 22) (.t 24))⟩, ⟨(some 3), none, (.mov (.t 25))⟩])))) (.ops [⟨(some 26), none, (.bin .add (.t 8) (.c (.int .i64 1)))⟩, ⟨(some 8), none, (.mov (.t 26))⟩]))))
def F_change_follows : F := ⟨(.seq (.ops [⟨(some 2), none, (.mov (.c (.bool false)))⟩]) (.seq (.ops [⟨(some 3), none, (.mov (.c (.int .i64 0)))⟩]) (.seq (.seq (.ops [⟨(some 6), none, (.mov (.t 0))⟩, ⟨(some 7), none, (.len (.t 6))⟩, ⟨(some 8), none, (.mov (.c (.int .i64 0)))⟩]) (.block 0 (.loop F_change_follows_L0))) (.seq (.ops [⟨(some 27), none, (.mov (.t 0))⟩, ⟨(some 28), none, (.len (.t 27))⟩, ⟨(some 29), none, (.bin .leq (.t 28) (.c (.int .i64 64)))⟩, ⟨(some 2), none, (.mov (.t 29))⟩]) .ret)))), 30, [(.tmp 2)]⟩
theorem F_change_follows_ok : compF Try.prog (fun _ => true) 144 = some F_change_follows := by kernel_rfl
@[simp] abbrev n_change_within : FuncId := 142
def F_change_within : F := ⟨(.seq (.ops [⟨(some 6), none, (.mov (.c (.bool false)))⟩]) (.seq (.ops [⟨(some 7), none, (.mov (.t 0))⟩, ⟨(some 8), none, (.mov (.t 1))⟩, ⟨(some 9), none, (.bin .geq (.t 7) (.t 8))⟩, ⟨(some 10), none, (.mov (.t 9))⟩, ⟨(some 11), (some (10, true)), (.mov (.t 0))⟩, ⟨(some 12), (some (10, true)), (.mov (.t 2))⟩, ⟨(some 13), (some (10, true)), (.bin .leq (.t 11) (.t 12))⟩, ⟨(some 14), none, (.pick (.t 10) (.t 13) (.c (.bool false)))⟩, ⟨(some 6), none, (.mov (.t 14))⟩]) .ret)), 15, [(.tmp 6)]⟩
theorem F_change_within_ok : compF Try.prog (fun _ => true) 142 = some F_change_within := by kernel_rfl
@[simp] abbrev n_change_Write : FuncId := 40
def F_change_Write : F := ⟨(.seq (.ops [⟨(some 1), none, (.box (.t 0))⟩, ⟨(some 2), none, (.nil 5 1 true)⟩, ⟨(some 3), none, (.mov (.c (.int .i64 0)))⟩]) (.seq (.seq (.ops [⟨(some 8), none, (.ld (.t 1) (some 6))⟩, ⟨(some 9), none, (.call 97 [(.t 8)])⟩, ⟨(some 10), none, (.un .not (.t 9))⟩]) (.cond (.t 10) (.seq (.ops [⟨(some 2), none, (.nil 5 1 true)⟩, ⟨(some 3), none, (.mov (.c (.int .i64 100)))⟩]) .ret) .skip)) (.seq (.ops [⟨(some 12), none, (.fad (.t 1) 0)⟩, ⟨(some 13), none, (.ld (.t 12) none)⟩, ⟨(some 14), none, (.conv .u64 (.t 13))⟩, ⟨(some 15), none, (.fad (.t 1) 1)⟩, ⟨(some 16), none, (.ld (.t 15) none)⟩, ⟨(some 17), none, (.conv .u64 (.t 16))⟩, ⟨(some 18), none, (.fad (.t 1) 2)⟩, ⟨(some 19), none, (.ld (.t 18) none)⟩, ⟨(some 20), none, (.conv .u64 (.t 19))⟩, ⟨(some 21), none, (.fad (.t 1) 3)⟩, ⟨(some 22), none, (.ld (.t 21) none)⟩, ⟨(some 23), none, (.conv .u64 (.t 22))⟩, ⟨(some 24), none, (.fad (.t 1) 4)⟩, ⟨(some 25), none, (.ld (.t 24) none)⟩, ⟨(some 26), none, (.len (.t 25))⟩, ⟨(some 27), none, (.conv .u64 (.t 26))⟩, ⟨(some 28), none, (.mkl 114 1 [(.t 14), (.t 17), (.t 20), (.t 23), (.t 27)] true)⟩, ⟨(some 29), none, (.call 70 [(.c (.string ⟨#[98, 98, 98, 119, 104]⟩)), (.t 28)])⟩, ⟨(some 11), none, (.mov (.t 29))⟩, ⟨(some 30), none, (.ext (.t 11) 0)⟩, ⟨(some 31), none, (.ext (.t 11) 1)⟩, ⟨(some 4), none, (.mov (.t 30))⟩, ⟨(some 5), none, (.mov (.t 31))⟩]) (.seq (.seq (.ops [⟨(some 32), none, (.mov (.t 5))⟩, ⟨(some 33), none, (.bin .neq (.t 32) (.c (.int .i64 0)))⟩]) (.cond (.t 33) (.seq (.ops [⟨(some 2), none, (.nil 5 1 true)⟩, ⟨(some 3), none, (.mov (.c (.int .i64 100)))⟩]) .ret) .skip)) (.seq (.ops [⟨(some 34), none, (.mov (.t 4))⟩, ⟨(some 35), none, (.fad (.t 1) 4)⟩, ⟨(some 36), none, (.ld (.t 35) none)⟩, ⟨(some 37), none, (.app (.t 34) (.t 36) 5 1 1 true)⟩, ⟨(some 4), none, (.mov (.t 37))⟩]) (.seq (.seq (.ops [⟨(some 38), none, (.fad (.t 1) 0)⟩, ⟨(some 39), none, (.ld (.t 38) none)⟩, ⟨(some 40), none, (.bin .eql (.t 39) (.c (.int .i64 8)))⟩]) (.cond (.t 40) (.seq (.ops [⟨(some 42), none, (.fad (.t 1) 5)⟩, ⟨(some 43), none, (.ld (.t 42) none)⟩, ⟨(some 44), none, (.call 68 [(.t 43)])⟩, ⟨(some 41), none, (.mov (.t 44))⟩, ⟨(some 45), none, (.ext (.t 41) 0)⟩, ⟨(some 46), none, (.ext (.t 41) 1)⟩, ⟨(some 6), none, (.mov (.t 45))⟩, ⟨(some 7), none, (.mov (.t 46))⟩]) (.seq (.seq (.ops [⟨(some 47), none, (.mov (.t 7))⟩, ⟨(some 48), none, (.bin .neq (.t 47) (.c (.int .i64 0)))⟩]) (.cond (.t 48) (.seq (.ops [⟨(some 2), none, (.nil 5 1 true)⟩, ⟨(some 3), none, (.mov (.c (.int .i64 100)))⟩]) .ret) .skip)) (.ops [⟨(some 49), none, (.mov (.t 4))⟩, ⟨(some 50), none, (.mov (.t 6))⟩, ⟨(some 51), none, (.app (.t 49) (.t 50) 5 1 1 true)⟩, ⟨(some 4), none, (.mov (.t 51))⟩]))) .skip)) (.seq (.ops [⟨(some 52), none, (.mov (.t 4))⟩, ⟨(some 2), none, (.mov (.t 52))⟩, ⟨(some 3), none, (.mov (.c (.int .i64 0)))⟩]) .ret))))))), 53, [(.tmp 2), (.tmp 3)]⟩
theorem F_change_Write_ok : compF Try.prog (fun _ => true) 40 = some F_change_Write := by kernel_rfl
end Go.Av

/- Extents: no Go here. -/
namespace Go.Av.Pl

structure Xt where
  lba : Int
  len : Int
  kind : Int
  gen : Int
  data : List UInt8
deriving DecidableEq
def Xt.zero : Xt := ⟨0, 0, 0, 0, []⟩
def extOk (x : Xt) : Bool := decide (0 ≤ x.lba ∧ x.lba ≤ 64 ∧ 1 ≤ x.len ∧ x.len ≤ 64 - x.lba ∧ 0 ≤ x.kind ∧ x.kind ≤ 2 ∧ 0 ≤ x.gen ∧ x.gen ≤ 2147483647 ∧ (x.data.length : Int) = if x.kind = 2 then x.len * 32 else 0)
theorem extOk_iff {x : Xt} : extOk x = true ↔ 0 ≤ x.lba ∧ x.lba ≤ 64 ∧ 1 ≤ x.len ∧ x.len ≤ 64 - x.lba ∧ 0 ≤ x.kind ∧ x.kind ≤ 2 ∧ 0 ≤ x.gen ∧ x.gen ≤ 2147483647 ∧ (x.data.length : Int) = if x.kind = 2 then x.len * 32 else 0 := by simp [extOk]
def joins (a b : Xt) : Bool := extOk a && extOk b && decide (a.lba + a.len = b.lba ∧ a.kind = b.kind ∧ a.gen = b.gen)
def cutOk (x : Xt) (lba n : Int) : Bool := extOk x && decide (0 ≤ lba ∧ lba ≤ 64 ∧ 0 ≤ n ∧ n ≤ 64 ∧ max x.lba lba < min (x.lba + x.len) (lba + n))
def cutX (x : Xt) (lba n : Int) : Xt := if cutOk x lba n = true then
    ⟨max x.lba lba, min (x.lba + x.len) (lba + n) - max x.lba lba, x.kind, x.gen, if x.kind = 2 then (x.data.take ((min (x.lba + x.len) (lba + n) - x.lba) * 32).toNat).drop ((max x.lba lba - x.lba) * 32).toNat else []⟩ else Xt.zero
end Go.Av.Pl

namespace Go.Av
open Enc (enc dec)
open Cel (cs dc)
open Go.Proofs Pl

instance : Cel Xt where
  sz := 5
  cs x := [enc x.lba, enc x.len, enc x.kind, enc x.gen, enc x.data]
  dc l := match l with
    | [a, b, c, d, e] => (dec a).bind fun a => (dec b).bind fun b => (dec c).bind fun c => (dec d).bind fun d => (dec e).bind fun e => some ⟨a, b, c, d, e⟩
    | _ => none
  len _ := rfl
  ok l x h := by
    split at h
    · simp only [Option.bind_eq_some_iff] at h
      obtain ⟨a, ha, b, hb, c, hc, d, hd, e, he, h⟩ := h
      cases h
      exact wk_dec (wk_dec (wk_dec (wk_dec (wk_dec wk_nil he) hd) hc) hb) ha
    · cases h
  cl x := by simp
  de x := by simp
instance : Enc Xt := encC
@[simp] theorem sz_ext : Cel.sz Xt = 5 := rfl
@[simp] theorem cs_ext (x : Xt) : cs x = [.val (.int .i64 x.lba), .val (.int .i64 x.len), .val (.int .i64 x.kind), .val (.int .i64 x.gen), .lit 1 (x.data.map cs)] := rfl
@[simp] theorem enc_ext (x : Xt) : (enc x : V) = .agg [.val (.int .i64 x.lba), .val (.int .i64 x.len), .val (.int .i64 x.kind), .val (.int .i64 x.gen), .lit 1 (x.data.map cs)] := rfl
@[simp] theorem dc_ext (a b c d e : V) : (dc [a, b, c, d, e] : Option Xt) = (dec a).bind fun a => (dec b).bind fun b => (dec c).bind fun c => (dec d).bind fun d => (dec e).bind fun e => some ⟨a, b, c, d, e⟩ := rfl
@[simp] theorem dec_ext (l : List V) : (dec (.agg l) : Option Xt) = dc l := rfl

theorem c_within (n a b : Int) : Pure Try.prog n_extent_within [enc n, enc a, enc b] (enc (decide (a ≤ n ∧ n ≤ b))) [] := by
  refine Pure.ofC OOk.nil hm F_extent_within_ok (by simp [F_extent_within]) rfl ?_
  simp [F_extent_within]
  by_cases h : a ≤ n
  · simp [h]
    try omega
  · simp [h]
    try omega
theorem c_data (x : Xt) (h1 : -2 ^ 50 ≤ x.len) (h2 : x.len ≤ 2 ^ 50) : Pure Try.prog n_extent_data [enc x] (enc (if x.kind = 2 then x.len * 32 else 0)) [] := by
  refine Pure.ofC OOk.nil hm F_extent_data_ok (by simp [F_extent_data]) rfl ?_
  have := IntWalk.i64_in (x.len * 32) (by omega)
  simp [F_extent_data, this]
  by_cases h : x.kind = 2 <;> simp [h]
@[simp] def sp_within (n a b : Int) : Option (V × List Tip) := some (enc (decide (a ≤ n ∧ n ≤ b)), [])
@[simp] def sp_data (x : Xt) : Option (V × List Tip) := if -2 ^ 50 ≤ x.len ∧ x.len ≤ 2 ^ 50 then some (enc (if x.kind = 2 then x.len * 32 else 0), []) else none
def D12 : Orc := (Orc.nil.add n_extent_within (sp3 sp_within)).add n_extent_data (sp1 sp_data)
theorem D12_ok : OOk Try.prog D12 := by
  refine (OOk.nil.add (sp3_ok fun n a b r h => ?_)).add (sp1_ok fun x r h => ?_)
  · cases h; exact c_within n a b
  · simp only [sp_data] at h
    split at h <;> cases h
    rename_i h; exact c_data x h.1 h.2
theorem c_ext_Check (x : Xt) : Pure Try.prog n_extent_Check [enc x] (enc (extOk x)) [] := by
  refine Pure.ofC D12_ok hm F_extent_Check_ok (by simp [F_extent_Check]) rfl ?_
  have hw : 0 ≤ x.lba → x.lba ≤ 64 → IntKind.i64.wrap (64 - x.lba) = 64 - x.lba := fun h1 h2 => IntWalk.i64_in _ (by omega)
  simp [F_extent_Check, D12]
  by_cases hok : extOk x = true
  · have h := extOk_iff.1 hok
    simp [hok]
    omega
  · have h := mt extOk_iff.2 hok
    simp [hok]
    omega
@[simp] def sp_extOk (x : Xt) : Option (V × List Tip) := some (enc (extOk x), [])
def D13 : Orc := (Orc.nil.add n_extent_Check (sp1 sp_extOk)).add n_extent_within (sp3 sp_within) |>.add n_bytes_Clone (sp1 sp_clone)
theorem D13_ok : OOk Try.prog D13 := by
  refine ((OOk.nil.add (sp1_ok fun x r h => ?_)).add (sp3_ok fun n a b r h => ?_)).add (sp1_ok fun l r h => ?_)
  · cases h; exact c_ext_Check x
  · cases h; exact c_within n a b
  · simp only [sp_clone] at h
    split at h <;> cases h
    exact c_clone l (by assumption)
theorem c_ext_Joins (x y : Xt) : Pure Try.prog n_extent_Joins [enc x, enc y] (enc (joins x y)) [] := by
  refine Pure.ofC D13_ok hm F_extent_Joins_ok (by simp [F_extent_Joins]) rfl ?_
  simp [F_extent_Joins, D13]
  by_cases h1 : extOk x = true
  · have h := extOk_iff.1 h1
    have hw : IntKind.i64.wrap (x.lba + x.len) = x.lba + x.len := IntWalk.i64_in _ (by omega)
    by_cases h2 : extOk y = true
    · simp [h1, h2, hw, joins]
      by_cases a1 : x.lba + x.len = y.lba <;> by_cases a2 : x.kind = y.kind <;> simp [a1, a2]
    · simp [h1, h2, joins]
  · simp [h1, joins]
set_option maxRecDepth 4000 in
theorem c_ext_Cut (x : Xt) (lba n : Int) : Pure Try.prog n_extent_Cut [enc x, enc lba, enc n] (.tuple [enc (cutX x lba n), enc (cutOk x lba n)]) [] := by
  refine Pure.ofC D13_ok hm F_extent_Cut_ok (by simp [F_extent_Cut]) (by simp [V.res, V.res1]) ?_
  by_cases h1 : extOk x = true
  · have h := extOk_iff.1 h1
    have w1 : IntKind.i64.wrap (x.lba + x.len) = x.lba + x.len := IntWalk.i64_in _ (by omega)
    by_cases hl : 0 ≤ lba ∧ lba ≤ 64
    · by_cases hn : 0 ≤ n ∧ n ≤ 64
      · have w2 : IntKind.i64.wrap (lba + n) = lba + n := IntWalk.i64_in _ (by omega)
        have w3 : IntKind.i64.wrap (max x.lba lba - x.lba) = max x.lba lba - x.lba := IntWalk.i64_in _ (by omega)
        have w4 : IntKind.i64.wrap (min (x.lba + x.len) (lba + n) - x.lba) = min (x.lba + x.len) (lba + n) - x.lba := IntWalk.i64_in _ (by omega)
        have w5 : IntKind.i64.wrap ((max x.lba lba - x.lba) * 32) = (max x.lba lba - x.lba) * 32 := IntWalk.i64_in _ (by omega)
        have w6 : IntKind.i64.wrap ((min (x.lba + x.len) (lba + n) - x.lba) * 32) = (min (x.lba + x.len) (lba + n) - x.lba) * 32 := IntWalk.i64_in _ (by omega)
        have w7 : IntKind.i64.wrap (min (x.lba + x.len) (lba + n) - max x.lba lba) = min (x.lba + x.len) (lba + n) - max x.lba lba := IntWalk.i64_in _ (by omega)
        have e : cutOk x lba n = decide (max x.lba lba < min (x.lba + x.len) (lba + n)) := by simp [cutOk, h1, hl, hn]
        by_cases hlt : max x.lba lba < min (x.lba + x.len) (lba + n)
        · have e1 : cutOk x lba n = true := by rw [e]; simpa using hlt
          by_cases hk : x.kind = 2
          · simp only [hk, if_true] at h
            have hlen := h.2.2.2.2.2.2.2.2
            have hx : extOk ⟨x.lba, x.len, 2, x.gen, x.data⟩ = true := by rw [← hk]; exact h1
            simp [F_extent_Cut, D13, h1, hl, hn, w1, w2, hlt, Int.not_le.2 hlt, w3, w4, w5, w6, w7, cutX, e1, hk, hx]
            omega
          · simp [F_extent_Cut, D13, h1, hl, hn, w1, w2, hlt, Int.not_le.2 hlt, w3, w4, w5, w6, w7, cutX, e1, hk]
        · have e1 : cutOk x lba n = false := by rw [e]; simpa using hlt
          simp [F_extent_Cut, D13, h1, hl, hn, w1, w2, Int.not_lt.1 hlt, cutX, e1, Xt.zero]
      · have e1 : cutOk x lba n = false := by simp [cutOk]; intro _ _ _ h3 h4; exact absurd ⟨h3, h4⟩ hn
        simp [F_extent_Cut, D13, h1, hl, hn, cutX, e1, Xt.zero]
    · have e1 : cutOk x lba n = false := by simp [cutOk]; intro _ h3 h4; exact absurd ⟨h3, h4⟩ hl
      simp [F_extent_Cut, D13, h1, hl, cutX, e1, Xt.zero]
  · simp [F_extent_Cut, D13, h1, cutX, cutOk, Xt.zero]

-- Likeness, and blocks, by the reference.
@[simp] def sp_xtSame (x y : Xt) : Option (V × List Tip) := some (enc (decide (x = y)), [])
end Go.Av

namespace Go.Av
open Enc (enc dec)
open Cel (cs dc)
open Go.Proofs Pl

theorem f_bbbw : formOk ⟨#[98, 98, 98, 119]⟩ = true := by decide

/-- An extent's head, and its bytes; those of some. -/
def hdX (x : Xt) : List UInt8 := leB x.lba.toNat 1 ++ (leB x.len.toNat 1 ++ (leB x.kind.toNat 1 ++ leB x.gen.toNat 4))
def wr1 (x : Xt) : List UInt8 := hdX x ++ x.data
def wrOk (l : List Xt) : Bool := decide (l.length ≤ 64) && l.all extOk
def wrB (l : List Xt) : List UInt8 := UInt8.ofNat l.length :: l.flatMap wr1
def writeB (l : List Xt) : List UInt8 := if wrOk l = true then wrB l else []
def writeE (l : List Xt) : Int := if wrOk l = true then 0 else 70
theorem hdX_length (x : Xt) : (hdX x).length = 7 := by simp [hdX, leB_length]
theorem pack_hd {x : Xt} (h : extOk x = true) : packS [98, 98, 98, 119] [x.lba.toNat, x.len.toNat, x.kind.toNat, x.gen.toNat] = some (hdX x) := by
  have h := extOk_iff.1 h
  have m1 : mayB x.lba.toNat 1 = true := by simp [mayB]; omega
  have m2 : mayB x.len.toNat 1 = true := by simp [mayB]; omega
  have m3 : mayB x.kind.toNat 1 = true := by simp [mayB]; omega
  have m4 : mayB x.gen.toNat 4 = true := by simp [mayB]; omega
  simp [packS, sizeL, m1, m2, m3, m4, hdX]
theorem ext_len {x : Xt} (h : extOk x = true) : x.data.length ≤ 2048 := by
  have h := extOk_iff.1 h
  have hl := h.2.2.2.2.2.2.2.2
  split at hl <;> omega
theorem wr1_length {x : Xt} (h : extOk x = true) : (wr1 x).length ≤ 2055 := by
  have := ext_len h
  simp [wr1, hdX_length]
  omega
theorem u64_wraps {x : Xt} (h : extOk x = true) : IntKind.u64.wrap x.lba = x.lba ∧ IntKind.u64.wrap x.len = x.len ∧ IntKind.u64.wrap x.kind = x.kind ∧ IntKind.u64.wrap x.gen = x.gen := by
  have h := extOk_iff.1 h
  exact ⟨IntWalk.u64_in _ (by omega), IntWalk.u64_in _ (by omega), IntWalk.u64_in _ (by omega), IntWalk.u64_in _ (by omega)⟩

def D16 : Orc := ((Orc.nil.add n_extent_Check (sp1 sp_extOk)).add n_le_Pack (sp2 sp_pack))
theorem D16_ok : OOk Try.prog D16 := (OOk.nil.add (sp1_ok fun x r h => by cases h; exact c_ext_Check x)).add sp_pack_ok
def XWriteI (l : List Xt) (k : Nat) (s : Nat → V) (m : Mem) : Prop :=
  ∃ (i t : Nat) (bx : List (List V)) (tips : List Tip) (acc : List UInt8), i + k = l.length ∧ (l.take i).all extOk = true ∧ acc = UInt8.ofNat l.length :: (l.take i).flatMap wr1 ∧ acc.length ≤ 1 + 2055 * i ∧ s 0 = .lit 5 (l.map cs) ∧ s 13 = .lit 5 (l.map cs) ∧ s 14 = .val (.int .i64 l.length) ∧ s 15 = .val (.int .i64 i) ∧
    s 4 = .row t 1 (acc.map cs) ∧ m = ⟨bx, tips⟩ ∧ tips[t]? = some (5, 1, acc.length)
theorem c_ext_Write (l : List Xt) (hl : l.length ≤ 2 ^ 20) : Pure Try.prog n_extent_Write [enc l] (.tuple [.row 0 1 ((writeB l).map cs), enc (writeE l)]) [(5, 1, (writeB l).length)] := by
  refine Pure.ofR D16_ok hm F_extent_Write_ok (by simp [F_extent_Write]) (by simp [V.res, V.res1]) ?_
  simp [F_extent_Write]
  refine wp_loop (XWriteI l) l.length (IW.of ⟨0, 1, _, _, [UInt8.ofNat l.length], by omega, by simp, by simp, by simp, by simp, by simp, by simp, by simp, by simp [wrap_u8_nat], rfl, by simp⟩) fun k s m ⟨i, t, bx, tips, acc, hik, hok, hacc, hal, h0, h13, h14, h15, h4, hm, ht⟩ => ?_
  subst hm
  by_cases hi : i < l.length
  · have hg : l[i]? = some l[i] := List.getElem?_eq_getElem hi
    have ht1 : l.take (i + 1) = l.take i ++ [l[i]] := by rw [List.take_add_one, hg]; rfl
    have htl : t < tips.length := lt_of_some ht
    cases hx : extOk l[i] with
    | false =>
      have hno : wrOk l = false := by
        simp only [wrOk, Bool.and_eq_false_iff]
        refine .inr (List.all_eq_false.2 ⟨l[i], List.getElem_mem hi, by simp [hx]⟩)
      simp [XWriteI, F_extent_Write_L0, D16, h0, h13, h14, h15, h4, hg, hi, hx, f_bbbw, writeB, writeE, hno]
    | true =>
      obtain ⟨w1, w2, w3, w4⟩ := u64_wraps hx
      have hp := pack_hd hx
      have hb1 : packB [98, 98, 98, 119] [l[i].lba.toNat, l[i].len.toNat, l[i].kind.toNat, l[i].gen.toNat] = hdX l[i] := by simp [packB, hp]
      have hb2 : packE [98, 98, 98, 119] [l[i].lba.toNat, l[i].len.toNat, l[i].kind.toNat, l[i].gen.toNat] = 0 := by simp [packE, hp]
      have hlen := wr1_length hx
      have hle := ext_len hx
      have h7 := hdX_length l[i]
      have hx2 := extOk_iff.1 hx
      simp [F_extent_Write_L0, D16, h0, h13, h14, h15, h4, hg, hi, hx, f_bbbw, w1, w2, w3, w4, hb1, hb2, h7, ht, List.getElem?_append_left htl, tipset htl]
      refine ⟨by omega, by omega, by omega, by omega, by omega, by omega, k - 1, by omega, IW.of (show XWriteI l _ _ _ from ⟨i + 1, t, _, _, acc ++ wr1 l[i], by omega, ?_, ?_, ?_, by simpa using h0, by simpa using h13, by simpa using h14, ?_, by simp [wr1], rfl, ?_⟩)⟩
      · rw [ht1, List.all_append, hok]; simp [hx]
      · rw [ht1, List.flatMap_append, hacc]; simp
      · simp; omega
      · simp; rw [IntWalk.i64_in _ (by omega)]
      · rw [List.getElem?_set_self (by simp; omega)]
        simp [wr1, h7, Nat.add_assoc]
  · have hil : i = l.length := by omega
    have htk : l.take i = l := by rw [hil, List.take_length]
    rw [htk] at hok hacc
    by_cases h64 : l.length ≤ 64
    · have hw : wrOk l = true := by simp [wrOk, h64, hok]
      have h64' : ¬ ((64 : Int) < l.length) := by omega
      have e : writeB l = acc := by simp [writeB, hw, hacc, wrB]
      simp [F_extent_Write_L0, D16, h0, h13, h14, h15, h4, hi, h64', ht, e, writeE, hw]
    · have hw : wrOk l = false := by simp [wrOk, h64]
      have h64' : (64 : Int) < l.length := by omega
      simp [F_extent_Write_L0, D16, h0, h13, h14, h15, h4, hi, h64', writeB, writeE, hw]

end Go.Av

namespace Go.Av
open Enc (enc dec)
open Cel (cs dc)
open Go.Proofs Pl

/-- An extent's head, as its bytes tell it; an extent that bytes begin with, and what is behind it. -/
def hdR (b : List UInt8) : Xt := ⟨leN (b.take 1), leN ((b.drop 1).take 1), leN ((b.drop 2).take 1), leN ((b.drop 3).take 4), []⟩
def datN (x : Xt) : Nat := if x.kind = 2 then (x.len * 32).toNat else 0
def nextX (b : List UInt8) : Xt × List UInt8 := if b.length < 7 then (Xt.zero, b) else
  if 0 < datN (hdR b) ∧ datN (hdR b) ≤ (b.drop 7).length then ({ hdR b with data := (b.drop 7).take (datN (hdR b)) }, (b.drop 7).drop (datN (hdR b))) else (hdR b, b.drop 7)
@[simp] def sp_extdata (x : Xt) : Option (V × List Tip) := sp_data x
theorem sp_clone_ok : EOk Try.prog n_bytes_Clone (sp1 sp_clone) := sp1_ok fun l r h => by
  simp only [sp_clone] at h
  split at h <;> cases h
  exact c_clone l (by assumption)
theorem sp_extOk_ok : EOk Try.prog n_extent_Check (sp1 sp_extOk) := sp1_ok fun x r h => by cases h; exact c_ext_Check x
/-- A box of bytes, cut by a closure. -/
def boxB (m : Mem) (p : Nat) : Option (List UInt8) := match m.boxes[p]? with
  | some [.lit 1 xs] => decX xs
  | _ => none
@[simp] theorem boxB_of {m : Mem} {p : Nat} {b : List UInt8} (h : m.boxes[p]? = some [.lit 1 (b.map cs)]) : boxB m p = some b := by
  simp [boxB, h, decX_map]
/-- So many extents that bytes are. -/
def readN : Nat → List UInt8 → Option (List Xt)
  | 0, b => if b = [] then some [] else none
  | n + 1, b => if 7 ≤ b.length ∧ extOk (nextX b).1 = true then (readN n (nextX b).2).map ((nextX b).1 :: ·) else none
def readX : List UInt8 → Option (List Xt)
  | [] => none
  | c :: b => if c.toNat ≤ 64 then readN c.toNat b else none
def readL (b : List UInt8) : List Xt := (readX b).getD []
def readE (b : List UInt8) : Int := if (readX b).isSome = true then 0 else 70
end Go.Av

namespace Go.Av
open Enc (enc dec)
open Cel (cs dc)
open Go.Proofs Pl

@[simp] def sp_write (l : List Xt) : Option (V × List Tip) := some (.tuple [.row 0 1 ((writeB l).map cs), enc (writeE l)], [(5, 1, (writeB l).length)])
end Go.Av

namespace Go.Av
open Enc (enc dec)
open Cel (cs dc)
open Go.Proofs Pl

/-- Extents one behind the other, from a block on; where they end. -/
def mapFrom (a : Int) (prev : Option Xt) : List Xt → Option Int
  | [] => some a
  | x :: l => if extOk x = true ∧ x.lba = a ∧ (prev.map fun y => joins y x) ≠ some true then mapFrom (a + x.len) (some x) l else none
def mapOk (n : Int) (l : List Xt) : Bool := decide (l ≠ []) && decide (mapFrom 0 none l = some n)
theorem mapFrom_le : ∀ {l : List Xt} {a b : Int} {p : Option Xt}, mapFrom a p l = some b → 0 ≤ a → l ≠ [] → 1 ≤ b ∧ b ≤ 64
  | [], _, _, _, _, _, h => absurd rfl h
  | x :: l, a, b, p, h, ha, _ => by
    simp only [mapFrom] at h
    split at h
    · rename_i hc
      have hx := extOk_iff.1 hc.1
      cases l with
      | nil => simp only [mapFrom, Option.some.injEq] at h; omega
      | cons y l => exact mapFrom_le h (by omega) (by simp)
    · cases h
theorem mapOk_le {n : Int} {l : List Xt} (h : mapOk n l = true) : 1 ≤ n ∧ n ≤ 64 := by
  simp only [mapOk, Bool.and_eq_true, decide_eq_true_eq] at h
  exact mapFrom_le h.2 (Int.le_refl _) h.1
def prevOf (l : List Xt) (i : Nat) : Option Xt := if i = 0 then none else l[i - 1]?
@[simp] theorem prevOf_succ (l : List Xt) (i : Nat) : prevOf l (i + 1) = l[i]? := by simp [prevOf]

@[simp] def sp_joins (x y : Xt) : Option (V × List Tip) := some (enc (joins x y), [])
theorem sp_joins_ok : EOk Try.prog n_extent_Joins (sp2 sp_joins) := sp2_ok fun x y r h => by cases h; exact c_ext_Joins x y
def D21 : Orc := (Orc.nil.add n_extent_Check (sp1 sp_extOk)).add n_extent_Joins (sp2 sp_joins)
theorem D21_ok : OOk Try.prog D21 := (OOk.nil.add sp_extOk_ok).add sp_joins_ok
def MCheckI (n : Int) (l : List Xt) (k : Nat) (s : Nat → V) (m : Mem) : Prop :=
  ∃ (i : Nat) (a : Int), i + k = l.length ∧ 0 ≤ a ∧ a ≤ 64 ∧ mapFrom 0 none l = mapFrom a (prevOf l i) (l.drop i) ∧ s 0 = .val (.int .i64 n) ∧ s 1 = .lit 5 (l.map cs) ∧ s 5 = .val (.int .i64 a) ∧ s 8 = .lit 5 (l.map cs) ∧ s 9 = .val (.int .i64 l.length) ∧ s 10 = .val (.int .i64 i)
theorem c_map_Check (n : Int) (l : List Xt) (hl : l.length ≤ 2 ^ 40) : Pure Try.prog n_extmap_Check [enc n, enc l] (enc (mapOk n l)) [] := by
  refine Pure.ofC D21_ok hm F_extmap_Check_ok (by simp [F_extmap_Check]) rfl ?_
  simp [F_extmap_Check]
  refine wp_loop (MCheckI n l) l.length (IW.of ⟨0, 0, by omega, by omega, by omega, rfl, by simp, by simp, by simp, by simp, by simp, by simp⟩) fun k s m ⟨i, a, hik, ha1, ha2, hr, h0, h1, h5, h8, h9, h10⟩ => ?_
  by_cases hi : i < l.length
  · have hg : l[i]? = some l[i] := List.getElem?_eq_getElem hi
    have w1 := IntWalk.i64_in ((i : Int) + 1) (by omega)
    rw [List.drop_eq_getElem_cons hi, mapFrom] at hr
    obtain ⟨x, hxe⟩ : ∃ x, x = l[i] := ⟨_, rfl⟩
    rw [← hxe] at hr
    cases hx : extOk x with
    | false =>
      have e : mapOk n l = false := by simp [mapOk, hr, hx]
      simp [F_extmap_Check_L0, D21, h0, h1, h5, h8, h9, h10, hi, hg, ← hxe, hx, e]
    | true =>
      have hxb := extOk_iff.1 hx
      have w2 := IntWalk.i64_in (a + x.len) (by omega)
      by_cases hla : x.lba = a
      · subst hla
        by_cases h0i : i = 0
        · subst h0i
          simp [hx, prevOf] at hr
          simp [F_extmap_Check_L0, D21, h0, h1, h5, h8, h9, h10, hi, hg, ← hxe, hx, w2]
          refine ⟨k - 1, by omega, IW.of (show MCheckI n l _ _ _ from ⟨1, x.lba + x.len, by omega, by omega, by omega, ?_, by simpa using h0, by simpa using h1, by simp [w2], by simpa using h8, by simpa using h9, by simp; decide⟩)⟩
          rw [hr, prevOf, if_neg (by omega), hg, ← hxe, List.drop_one]
        · have hi1 : i - 1 < l.length := by omega
          have hg1 : l[i - 1]? = some l[i - 1] := List.getElem?_eq_getElem hi1
          have w3 := IntWalk.i64_in ((i : Int) - 1) (by omega)
          have w4 : ((i : Int) - 1).toNat = i - 1 := by omega
          have w5 : (1 : Int) ≤ i := by omega
          have w6 : (0 : Int) < i := by omega
          simp only [prevOf, if_neg h0i, hg1] at hr
          obtain ⟨y, hye⟩ : ∃ y, y = l[i - 1] := ⟨_, rfl⟩
          rw [← hye] at hr
          cases hj : joins y x with
          | true =>
            have e : mapOk n l = false := by simp [mapOk, hr, hj]
            simp [F_extmap_Check_L0, D21, h0, h1, h5, h8, h9, h10, hi, hg, ← hxe, hx, hg1, ← hye, w3, w4, w5, w6, h0i, hj, e]
          | false =>
            simp [hx, hj] at hr
            simp [F_extmap_Check_L0, D21, h0, h1, h5, h8, h9, h10, hi, hg, ← hxe, hx, hg1, ← hye, w2, w3, w4, w5, w6, h0i, hj]
            refine fun _ => ⟨k - 1, by omega, IW.of (show MCheckI n l _ _ _ from ⟨i + 1, x.lba + x.len, by omega, by omega, by omega, ?_, by simpa using h0, by simpa using h1, by simp [w2], by simpa using h8, by simpa using h9, by simp [w1]⟩)⟩
            rw [hr, prevOf_succ, hg, ← hxe]
      · have e : mapOk n l = false := by simp [mapOk, hr, hla]
        simp [F_extmap_Check_L0, D21, h0, h1, h5, h8, h9, h10, hi, hg, ← hxe, hx, hla, e]
  · have hil : i = l.length := by omega
    rw [hil, List.drop_length, mapFrom] at hr
    have e : mapOk n l = (decide (0 < l.length) && decide (a = n)) := by
      rw [mapOk, hr]
      cases l <;> simp
    simp [F_extmap_Check_L0, D21, h0, h1, h5, h8, h9, h10, hi, e]
    exact ⟨fun h _ => h, fun h h' => by simp [h] at h'⟩
end Go.Av
