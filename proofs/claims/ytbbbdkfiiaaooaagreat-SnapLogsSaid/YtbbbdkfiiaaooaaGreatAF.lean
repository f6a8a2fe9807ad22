/-
  ZlDvK: Contracts of package dev, seventh part: own, Limit, Do.
  ZlSnB: Contracts of package le: Take, size, Pack, Unpack.
  ZlSnC: Contracts of package le: letters, Pack, Unpack.
  ZlSnD: Contracts of package le: Pack, Unpack.
  ZlSnPk: Numbers by a form: as contracts are asked.
  ZlSnE: Contracts of the reference of chapter 1.
  ZlSnF: Contracts of the reference of chapter 1: Pack, Unpack.
  ZlPlA: Sums, by numbers: no Go here.
  ZlSnG: Contracts of package crc, and of the reference of chapter 2.
  ZlDvL: Contracts of package record: what is written; of package log: where it may be.
  ZlDvM: Contracts of package log: a record appended.
  ZlDvO: Contracts of package log: records appended.
  ZlDvQ: The plain law of appending: what a device is behind a record.
  ZlDvR: The plain law of appending, second part.
  ZlDvRa: What the laws of logs ask: records appended, a device new, zones that are empty.
  ZlToFa: Contracts: slices.Backward.
  ZlToGa: Maps of records.
  ZlDvW: Contracts of package slices: records sorted, where they lie.
  ZlDvX: Contracts of package slices: records sorted in their box.
  ZlPlR: The plain law of records: what is read is what was written.
  ZlDvV: Contracts of package record: what is read.
  ZlDvY: Contracts of package record: records one behind the other.
  AvMt: A row of one's own, from some place on a slice that is written; all else is forgotten there.
  ZlDvZ: Contracts of package log: all records.
  ZlDvZg: The plain law of records that a device holds.
  ZlDvZb: Contracts of package log: records that follow one another.
  ZlDvZga: The plain law of sorted records, and of those that run.
  ZlDvZi: The plain law of records that are found.
  ZlPlB: Extents: no Go here.
  ZlSnH: Contracts of package extent, and of the reference of chapter 7.
  ZlSnI: Contracts of package extent, and of the reference of chapter 7: bytes.
-/
import Derived.Test.YtbbbdkfiiaaooaaGreatAE
import Derived.Laws.StandIn
import Derived.Lib.Bytealg
import Derived.Laws.RangeString
import Derived.IntWalk
set_option linter.unusedSimpArgs false
set_option linter.unusedVariables false

namespace Go.Av
open Enc (enc dec)
open Cel (cs dc)
open Go.Proofs Pl

def zeroDv : List V := [.val (.int .i64 0), .lit 4 [], .val (.int .i64 0), .val (.bool false), .val (.int .i64 0)]
def Dk1 : Orc := (Orc.nil.add n_bytes_Clone (sp1 sp_clone)).addL n_slices_Clone_Zone sp_zClone
theorem Dk1_ok : OOk Tryz.prog Dk1 := (OOk.nil.add sp_zclone_ok).addL sp_zClone_ok
def OwnI (M0 : Mem) (L n : Nat) (fv : V) (k : Nat) (s : Nat → V) (m : Mem) : Prop :=
  ∃ (i : Nat), i + k = n ∧ s 1 = fv ∧ s 2 = .ptr L 0 ∧ s 4 = .ptr (L + 1) 0 ∧ s 12 = .val (.int .i64 n) ∧ s 13 = .val (.int .i64 i) ∧ m = M0
theorem box_new3 (l bs : List (List V)) (a b c : List V) : (l ++ a :: b :: c :: bs)[l.length + 2]? = some c := by simp
theorem box_set3 (l bs : List (List V)) (a b c x : List V) : (l ++ a :: b :: c :: bs).set (l.length + 2) x = l ++ a :: b :: x :: bs := by
  rw [List.set_append_right _ _ (by omega)]; simp
theorem c_own (f : FuncId) (cap : List V) (sp : List V → Mem → Option (V × Mem)) (he : EOkL Tryz.prog f sp) (hf1 : ¬ n_bytes_Clone = f) (hf2 : ¬ n_slices_Clone_Zone = f) (m : Mem) (d d' : Dv) (hs : DSm d) (hne : d.zones ≠ []) (hln : d'.zones.length = d.zones.length)
    (hsp : sp (.ptr m.boxes.length 0 :: cap) ⟨m.boxes ++ [dvB d (m.boxes.length + 2), zeroDv, zC d.zones], m.tips⟩ = some (.tuple [], ⟨m.boxes ++ [dvB d' (m.boxes.length + 2), zeroDv, zC d'.zones], m.tips⟩)) :
    Loc Tryz.prog n_dev_own [enc d, .func f cap] m (enc d') m := by
  refine Loc.ofU (Dk1_ok.addL he) hm F_dev_own_ok (by simp [F_dev_own]) (.inl (by simp [clean_cs])) m.boxes.length m.tips.length (Nat.le_refl _) (Nat.le_refl _) fun hu => ?_
  have hsn := hs.n
  have hun : unref1 m.boxes.length ⟨m.boxes ++ [dvB d' (m.boxes.length + 2), dvB d' (m.boxes.length + 2), zC d'.zones], m.tips⟩ (.ref (.sli 0 4 d'.zones.length) (m.boxes.length + 2)) = .lit 4 (d'.zones.map cs) := by
    simp only [unref1, box_new3]
    rw [if_pos ⟨by omega, zC_obj _, by rw [zC_length]; omega⟩, zC_top1, List.drop_zero, chunk_zC]
  simp [F_dev_own, Dk1, hf1, hf2, box_new, box_new2, box_set, sp_zClone, hsn, hne, decX_map]
  refine wp_loop (OwnI ⟨m.boxes ++ [dvB d (m.boxes.length + 2), zeroDv, zC d.zones], m.tips⟩ m.boxes.length d.zones.length (.func f cap)) d.zones.length (IW.of ⟨0, by omega, by simp, by simp, by simp, by simp, by simp, rfl⟩) fun k s m' ⟨i, hik, s1, s2, s4, s12, s13, hm'⟩ => ?_
  subst hm'
  by_cases hi : i < d.zones.length
  · have hiI : (i : Int) < d.zones.length := by omega
    have w1 := IntWalk.i64_in ((i : Int) + 1) (by omega)
    have g0 := zC_drop d.zones i 2 hi
    have g1 := zC_set2 d.zones i hi
    have g2 : i * 4 + 2 + 1 ≤ (zC d.zones).length := by rw [zC_length]; omega
    have hzd := hs.z _ (List.getElem_mem hi)
    have hzd' : d.zones[i].data.length ≤ 140737488355328 := by omega
    simp at g0 g1
    simp [F_dev_own_L0, hf1, hf2, s1, s2, s4, s12, s13, dvB, box_new, box_new3, box_set3, hi, hiI, w1, g0, g1, g2, zC_obj, hzd', decX_cs, clean_cs]
    exact ⟨k - 1, by omega, IW.of (show OwnI _ _ _ _ _ _ _ from ⟨i + 1, by omega, by simpa using s1, by simpa using s2, by simpa using s4, by simpa using s12, by simp, rfl⟩)⟩
  · have hiI : ¬ (i : Int) < d.zones.length := by omega
    simp only [dvB, zeroDv] at hsp hun
    simp [F_dev_own_L0, hf1, hf2, s1, s2, s4, s12, s13, dvB, zeroDv, box_new, box_new2, box_set2, hi, hiI, hsp, hu]
    have hv : ∀ (k : Nat) (m : Mem) (x : Value), unref1 k m (.val x) = .val x := fun _ _ _ => rfl
    simp only [unref, unrefA, List.map_cons, List.map_nil, hun, hv]
    simp [wkL, wk1]
theorem dCmd_len (k : Int) (d : Dv) (zs : List Zo) (i : Nat) (z : Zo) : (dDid d (zs.set i z)).zones.length = zs.length := by simp [dDid]
/-- What a command must find to be done. -/
structure CmdOk (k : Int) (d : Dv) (i : Nat) (b : List UInt8) (hi : i < d.zones.length) (z' : Zo) : Prop where
  hb : b.length ≤ 2 ^ 30
  hc : dCmd k d d.zones[i] b = (z', 0)
  ok : dOk d = true
  hd : d.down = false
  hl : ¬ d.left = 0
  hll : -(2 ^ 62) ≤ d.left ∧ d.left ≤ 2 ^ 62
  hdn : 0 ≤ d.done ∧ d.done ≤ 2 ^ 62
theorem dOk_sm {d : Dv} (h : dOk d = true) : DSm d ∧ d.zones ≠ [] := by
  simp only [dOk, Bool.and_eq_true, Bool.not_eq_true', decide_eq_true_eq, List.any_eq_false] at h
  refine ⟨⟨by omega, fun z hz => ?_⟩, List.ne_nil_of_length_pos h.2.1⟩
  have h1 := h.1 z hz
  have h2 : zOk z d.size = true := by simpa using h1
  have := zOk_len h2
  omega
theorem c_dDo (k : Int) (fid : FuncId) (hk5 : ¬ k = 5) (hk : mpAt doesK k = some (.func fid [])) (he : EOkL Tryz.prog fid (sp_cmd k)) (hf : ¬ 93 = fid) (d : Dv) (i : Nat) (b : List UInt8) (hi : i < d.zones.length) (z' : Zo) (h : CmdOk k d i b hi z') :
    Pure Tryz.prog n_dev_Do [enc d, enc (⟨k, i, b⟩ : Rec)] (.tuple [enc (dDid d (d.zones.set i z')), .val (.int .i64 0)]) [] := by
  obtain ⟨hs, hne⟩ := dOk_sm h.ok
  have key : ∃ sp, EOkL Tryz.prog n_dev_own sp ∧ sp [enc d, .func n_dev_Do_1 [.ptr 3 0, .ptr 1 0]] ⟨[cs d, cs (⟨k, i, b⟩ : Rec), zeroDv, [.val (.int .i64 0)]], []⟩ = some (enc (dDid d (d.zones.set i z')), ⟨[cs d, cs (⟨k, i, b⟩ : Rec), zeroDv, [.val (.int .i64 0)]], []⟩) := by
    have hDB : DB ⟨[cs d, cs (⟨k, i, b⟩ : Rec), zeroDv, [.val (.int .i64 0)], dvB d 6, zeroDv, zC d.zones], []⟩ 4 6 d := ⟨rfl, rfl⟩
    obtain ⟨sp1, h1, e1⟩ := oneL (c_do1 k fid hk5 hk he hf _ 4 6 3 1 d hDB (by decide) (by decide) (by decide) (by decide) hs i b hi h.hb z' h.hc rfl rfl h.ok h.hd h.hl h.hll h.hdn)
    refine oneL (c_own n_dev_Do_1 [.ptr 3 0, .ptr 1 0] sp1 h1 (by decide) (by decide) _ d _ hs hne (dCmd_len k d d.zones i z') ?_)
    have e2 : dvB (dDid d d.zones) 6 = dvB (dDid d (d.zones.set i z')) 6 := by simp [dvB, dDid, dLeft]
    rw [e2] at e1
    exact e1
  obtain ⟨sp, hsp, e⟩ := key
  refine Pure.ofC (OOk.nil.addL hsp) hm F_dev_Do_ok (by simp [F_dev_Do]) (by simp [V.res, V.res1]) ?_
  simp [zeroDv] at e
  simp [F_dev_Do, e, keepB]
theorem c_dLimit (d : Dv) (n : Int) (hs : DSm d) (hne : d.zones ≠ []) : Pure Tryz.prog n_dev_Limit [enc d, enc n] (enc { d with left := n }) [] := by
  have key : ∃ sp, EOkL Tryz.prog n_dev_own sp ∧ sp [enc d, .func n_dev_Limit_1 [.ptr 1 0]] ⟨[cs d, [.val (.int .i64 n)], zeroDv], []⟩ = some (enc { d with left := n }, ⟨[cs d, [.val (.int .i64 n)], zeroDv], []⟩) := by
    obtain ⟨sp1, h1, e1⟩ := oneL (c_limit1 ⟨[cs d, [.val (.int .i64 n)], zeroDv, dvB d 5, zeroDv, zC d.zones], []⟩ 3 1 d 5 n rfl rfl)
    exact oneL (c_own n_dev_Limit_1 [.ptr 1 0] sp1 h1 (by decide) (by decide) _ d { d with left := n } hs hne rfl e1)
  obtain ⟨sp, hsp, e⟩ := key
  refine Pure.ofC (OOk.nil.addL hsp) hm F_dev_Limit_ok (by simp [F_dev_Limit]) (by simp [V.res, V.res1]) ?_
  simp [zeroDv] at e
  simp [F_dev_Limit, e]
end Go.Av

namespace Go.Av
open Enc (enc dec)
open Cel (cs dc)
open Go.Proofs

/-- The number that bytes are. -/
def leN : List UInt8 → Nat
  | [] => 0
  | b :: l => b.toNat + 256 * leN l
theorem leN_lt : ∀ l : List UInt8, leN l < 256 ^ l.length
  | [] => by simp [leN]
  | b :: l => by
    have := leN_lt l
    have := b.toNat_lt
    simp only [leN, List.length_cons, Nat.pow_succ]
    omega
theorem leN_append : ∀ l m : List UInt8, leN (l ++ m) = leN l + 256 ^ l.length * leN m
  | [], m => by simp [leN]
  | b :: l, m => by
    simp only [List.cons_append, leN, leN_append l m, List.length_cons, Nat.pow_succ, Nat.mul_add]
    rw [← Nat.mul_assoc, Nat.mul_comm 256 (256 ^ l.length)]
    omega
def okT (b : List UInt8) (w : Int) : Bool := mayB 0 w && decide (w ≤ b.length)
def takeV (b : List UInt8) (w : Int) : Nat := if okT b w = true then leN (b.take w.toNat) else 0
def takeR (b : List UInt8) (w : Int) : List UInt8 := if okT b w = true then b.drop w.toNat else []
def takeE (b : List UInt8) (w : Int) : Int := if okT b w = true then 0 else 10
theorem or_shl (x y k : Nat) (hx : x < 2 ^ k) (hy : x + y * 2 ^ k < 2 ^ 64) : bitOr .u64 (x : Int) (y * 2 ^ k : Nat) = ((x + y * 2 ^ k : Nat) : Int) := by
  have h2 : y * 2 ^ k < 2 ^ 64 := by omega
  have hx2 : x < 2 ^ 64 := by omega
  have e : x ||| y * 2 ^ k = x + y * 2 ^ k := by
    have := Nat.two_pow_add_eq_or_of_lt hx y
    rw [Nat.mul_comm y, Nat.or_comm, ← this]; omega
  unfold bitOr
  rw [IntKind.wrap_u64]
  have e2 : (BitVec.ofInt 64 (x : Int) ||| BitVec.ofInt 64 ((y * 2 ^ k : Nat) : Int)).toNat = x + y * 2 ^ k := by
    rw [BitVec.ofInt_natCast, BitVec.ofInt_natCast, BitVec.toNat_or, BitVec.toNat_ofNat, BitVec.toNat_ofNat, Nat.mod_eq_of_lt hx2, Nat.mod_eq_of_lt h2, e]
  show (((BitVec.ofInt 64 (x : Int) ||| BitVec.ofInt 64 ((y * 2 ^ k : Nat) : Int)).toNat : Nat) : Int) % 18446744073709551616 = _
  rw [e2]
  omega

theorem c_le_Take (b : List UInt8) (w : Int) (hb : b.length ≤ 2 ^ 40) : Pure Tryz.prog n_le_Take [enc b, enc w] (.tuple [enc (takeV b w), .row 0 1 ((takeR b w).map cs), enc (takeE b w)]) [(5, 1, (takeR b w).length)] := by
  refine Pure.ofR D1_ok hm F_le_Take_ok (by simp [F_le_Take]) (by simp [V.res, V.res1]) ?_
  simp [F_le_Take, D1]
  refine ⟨fun h => ⟨fun hlt => ?_, fun hle => ?_⟩, fun h => ?_⟩
  · have : okT b w = false := by simp [okT]; omega
    simp [takeV, takeR, takeE, this]
  · obtain ⟨n, rfl, hn, _⟩ := mayB_cases h
    have ok : okT b n = true := by simp [okT, h]; omega
    have e1 : takeV b n = leN (b.take n) := by simp [takeV, ok]
    have e2 : takeR b n = b.drop n := by simp [takeR, ok]
    have e3 : takeE b n = 0 := by simp [takeE, ok]
    rw [e1, e2, e3]
    have hnb : n ≤ b.length := by omega
    refine wp_loop (fun k s m => ∃ i, i + k = n ∧ s 17 = .val (.int .i64 n) ∧ s 18 = .val (.int .i64 i) ∧ s 1 = .val (.int .i64 n) ∧ s 0 = .lit 1 (b.map cs) ∧ s 4 = .val (.int .u64 (leN (b.take i) : Nat)) ∧ m = ⟨[], [(5, 1, 0)]⟩)
      n (IW.of ⟨0, by omega, by simp, by simp, by simp, by simp, by simp [leN], by simp⟩) fun k s m ⟨i, hik, h17, h18, h1, h0, h4, hm⟩ => ?_
    subst hm
    by_cases hlt : i < n
    · have hg : b[i]? = some b[i] := List.getElem?_eq_getElem (by omega)
      have hs : b.take (i + 1) = b.take i ++ [b[i]] := by rw [List.take_add_one, hg]; rfl
      have hl : (b.take i).length = i := by simp; omega
      have hlt1 := leN_lt (b.take i)
      have hlt2 := leN_lt (b.take (i + 1))
      have hl2 : (b.take (i + 1)).length = i + 1 := by simp; omega
      rw [hl] at hlt1
      rw [hl2] at hlt2
      have e5 : leN (b.take (i + 1)) = leN (b.take i) + b[i].toNat * 2 ^ (8 * i) := by
        rw [hs, leN_append, hl, Nat.pow_mul]; simp [leN, Nat.mul_comm]
      have h64 : 256 ^ (i + 1) ≤ 2 ^ 64 := by
        have : 256 ^ (i + 1) ≤ 256 ^ 8 := Nat.pow_le_pow_right (by omega) (by omega)
        simpa using this
      have h64' : leN (b.take (i + 1)) < 2 ^ 64 := Nat.lt_of_lt_of_le hlt2 h64
      have eb : IntKind.u64.wrap (b[i].toNat : Int) = b[i].toNat := by have := b[i].toNat_lt; exact IntWalk.u64_in _ (by omega)
      have e8 : IntKind.i64.wrap (8 * (i : Int)) = ((8 * i : Nat) : Int) := by rw [IntWalk.i64_in _ (by omega)]; omega
      have e9 : min (8 * i) IntKind.u64.bits = 8 * i := Nat.min_eq_left (show 8 * i ≤ 64 by omega)
      have e10 : IntKind.u64.wrap ((b[i].toNat * 2 ^ (8 * i) : Nat) : Int) = ((b[i].toNat * 2 ^ (8 * i) : Nat) : Int) := IntWalk.u64_in _ (by omega)
      have e11 : (b[i].toNat : Int) * 2 ^ (8 * i) = ((b[i].toNat * 2 ^ (8 * i) : Nat) : Int) := by simp
      have e12 := or_shl (leN (b.take i)) b[i].toNat (8 * i) (by rw [Nat.pow_mul]; exact hlt1) (by rw [← e5]; exact h64')
      simp [F_le_Take_L0, h17, h18, h1, h0, h4, hg, hlt, eb, e8, e9, e10, e11, e12, -Int.natCast_mul, -Int.natCast_pow, -Int.natCast_add]
      refine ⟨k - 1, by omega, IW.of ⟨i + 1, by omega, by simpa using h17, ?_, by simpa using h1, by simpa using h0, ?_, by simp⟩⟩
      · simp; rw [IntWalk.i64_in _ (by omega)]
      · simp [e5]
    · obtain rfl : i = n := by omega
      simp [F_le_Take_L0, h17, h18, h1, h0, h4, D1]
      omega
  · have : okT b w = false := by simp [okT, h]
    simp [takeV, takeR, takeE, this]

@[simp] def sp_Put (b : List UInt8) (v : Nat) (w : Int) : Option (V × List Tip) := if b.length ≤ 2 ^ 40 then some (.tuple [.row 0 1 ((bytesPut b v w).map cs), enc (errPut v w)], [(5, 1, (bytesPut b v w).length)]) else none
@[simp] def sp_Take (b : List UInt8) (w : Int) : Option (V × List Tip) := if b.length ≤ 2 ^ 40 then some (.tuple [enc (takeV b w), .row 0 1 ((takeR b w).map cs), enc (takeE b w)], [(5, 1, (takeR b w).length)]) else none

/-- The extern that looks for a byte. -/
theorem x_indexByte (b : ByteArray) (c : Int) : ExtR Tryz.prog n_internal_bytealg_IndexByteString [.val (.string b), .val (.int .u8 c)] (.val (.int .i64 (Lib.indexByte b.data.toList c.toNat.toUInt8))) := by
  intro M w vals hr
  obtain ⟨x, r, e, ⟨rfl, _⟩, y, r2, rfl, ⟨rfl, _⟩, e3⟩ := hr
  simp only [RepL] at e3
  subst e3
  have hv : vals = #[.string b, .int .u8 c] := by apply Array.ext'; simpa using e
  subst hv
  refine ⟨_, ?_, ⟨rfl, rfl⟩⟩
  rw [run_callFunc_indexByte (P := Tryz.prog) (f := n_internal_bytealg_IndexByteString) (fn := (Tryz.prog.funcs[n_internal_bytealg_IndexByteString]?).getD default) (by kernel_rfl) (by kernel_rfl) (by kernel_rfl) (by kernel_rfl) (by kernel_rfl), Lib.run_indexByteString]
  rfl
end Go.Av

namespace Go.Av
open Enc (enc dec)
open Cel (cs dc)
open Go.Proofs

/-- A letter's size. -/
def sizeL (c : Nat) : Int := if c = 98 then 1 else if c = 104 then 2 else if c = 119 then 4 else if c = 113 then 8 else 0

/-- The place of a byte, as the extern tells it. -/
@[simp] def sp_ixb : List V → Option (V × List Tip)
  | [.val (.string b), .val (.int .u8 c)] => some (.val (.int .i64 (Lib.indexByte b.data.toList c.toNat.toUInt8)), [])
  | _ => none
theorem sp_ixb_ok : EOk Tryz.prog n_internal_bytealg_IndexByteString sp_ixb := by
  intro args v tips h
  unfold sp_ixb at h
  split at h
  · cases h; exact .inr ⟨rfl, rfl, x_indexByte _ _⟩
  · cases h
def D2a : Orc := Orc.nil.add n_internal_bytealg_IndexByteString sp_ixb
theorem D2a_ok : OOk Tryz.prog D2a := OOk.nil.add sp_ixb_ok
theorem c_slite (b : ByteArray) (c : UInt8) : Pure Tryz.prog n_internal_stringslite_IndexByte [enc b, enc c] (enc (Lib.indexByte b.data.toList c)) [] := by
  refine Pure.ofC D2a_ok hm F_internal_stringslite_IndexByte_ok (by simp [F_internal_stringslite_IndexByte]) rfl ?_
  simp [F_internal_stringslite_IndexByte, D2a]
@[simp] def sp_slite (b : ByteArray) (c : UInt8) : Option (V × List Tip) := some (enc (Lib.indexByte b.data.toList c), [])
def D2b : Orc := Orc.nil.add n_internal_stringslite_IndexByte (sp2 sp_slite)
theorem D2b_ok : OOk Tryz.prog D2b := OOk.nil.add (sp2_ok fun b c r h => by cases h; exact c_slite b c)
theorem c_strIndexByte (b : ByteArray) (c : UInt8) : Pure Tryz.prog n_strings_IndexByte [enc b, enc c] (enc (Lib.indexByte b.data.toList c)) [] := by
  refine Pure.ofC D2b_ok hm F_strings_IndexByte_ok (by simp [F_strings_IndexByte]) rfl ?_
  simp [F_strings_IndexByte, D2b]
def D2c : Orc := Orc.nil.add n_strings_IndexByte (sp2 sp_slite)
theorem D2c_ok : OOk Tryz.prog D2c := OOk.nil.add (sp2_ok fun b c r h => by cases h; exact c_strIndexByte b c)
theorem c_IndexRune (b : ByteArray) (c : Nat) (hc : c < 128) : Pure Tryz.prog n_strings_IndexRune [enc b, enc (Rune.mk c)] (enc (Lib.indexByte b.data.toList (UInt8.ofNat c))) [] := by
  refine Pure.ofC D2c_ok hm F_strings_IndexRune_ok (by simp [F_strings_IndexRune]) rfl ?_
  have e : IntKind.u8.wrap (c : Int) = c := IntWalk.u8_in _ (by omega)
  have h0 : (0 : Int) ≤ c := by omega
  have h1 : (c : Int) < 128 := by omega
  have h2 : (c : Int) < 256 := by omega
  simp [F_strings_IndexRune, D2c, h1, e, h2]
/-- The place of a letter in a text. -/
def ixr (b : ByteArray) (c : Nat) : Int := Lib.indexByte b.data.toList (UInt8.ofNat c)
@[simp] def sp_ixr (b : ByteArray) (c : Rune) : Option (V × List Tip) := if 0 ≤ c.v ∧ c.v < 128 then some (enc (ixr b c.v.toNat), []) else none
def D2d : Orc := Orc.nil.add n_strings_IndexRune (sp2 sp_ixr)
theorem D2d_ok : OOk Tryz.prog D2d := OOk.nil.add (sp2_ok fun b c r h => by
  simp only [sp_ixr] at h
  split at h <;> cases h
  rename_i hc
  obtain ⟨n, hn⟩ : ∃ n : Nat, c = ⟨n⟩ := ⟨c.v.toNat, by cases c; simp at hc ⊢; omega⟩
  subst hn
  exact c_IndexRune b n (by simp at hc; omega))
theorem idx_bhwq (c : Nat) (hc : c < 128) : (if 0 ≤ Lib.indexByte [98, 104, 119, 113] (UInt8.ofNat c) then (2 : Int) ^ (Lib.indexByte [98, 104, 119, 113] (UInt8.ofNat c)).toNat else 0) = sizeL c := by
  have : ∀ c : _root_.Fin 128, (if 0 ≤ Lib.indexByte [98, 104, 119, 113] (UInt8.ofNat c.val) then (2 : Int) ^ (Lib.indexByte [98, 104, 119, 113] (UInt8.ofNat c.val)).toNat else 0) = sizeL c.val := by decide
  exact this ⟨c, hc⟩
theorem idx_le (c : UInt8) : -1 ≤ Lib.indexByte [98, 104, 119, 113] c ∧ Lib.indexByte [98, 104, 119, 113] c ≤ 3 := by
  simp only [Lib.indexByte]
  repeat' split
  all_goals simp_all
theorem c_le_size (c : Nat) (hc : c < 128) : Pure Tryz.prog n_le_size [enc (Rune.mk c)] (enc (sizeL c)) [] := by
  refine Pure.ofC D2d_ok hm F_le_size_ok (by simp [F_le_size]) rfl ?_
  have h1 : (c : Int) < 128 := by omega
  have h2 : (if 0 ≤ ixr ⟨#[98, 104, 119, 113]⟩ c then (2 : Int) ^ (ixr ⟨#[98, 104, 119, 113]⟩ c).toNat else 0) = sizeL c := idx_bhwq c hc
  have h3 : -1 ≤ ixr ⟨#[98, 104, 119, 113]⟩ c ∧ ixr ⟨#[98, 104, 119, 113]⟩ c ≤ 3 := idx_le _
  simp [F_le_size, D2d, h1]
  generalize ixr ⟨#[98, 104, 119, 113]⟩ c = x at h2 h3
  refine ⟨fun h => ⟨h, ?_⟩, fun h => ?_⟩
  · rw [if_pos h] at h2
    rw [← h2]
    have : x = 0 ∨ x = 1 ∨ x = 2 ∨ x = 3 := by omega
    rcases this with rfl | rfl | rfl | rfl <;> decide
  · rw [if_neg (by omega)] at h2
    exact h2
end Go.Av

namespace Go.Av
open Enc (enc dec)
open Cel (cs dc)
open Go.Proofs

/-- Numbers by a form. -/
def packS : List UInt8 → List Nat → Option (List UInt8)
  | [], [] => some []
  | c :: f, n :: l => if mayB n (sizeL c.toNat) = true then (packS f l).map (leB n (sizeL c.toNat).toNat ++ ·) else none
  | _, _ => none
def packB (f : List UInt8) (l : List Nat) : List UInt8 := (packS f l).getD []
def packE (f : List UInt8) (l : List Nat) : Int := if (packS f l).isSome = true then 0 else 10

@[simp] def sp_size (c : Rune) : Option (V × List Tip) := if 0 ≤ c.v ∧ c.v < 128 then some (enc (sizeL c.v.toNat), []) else none
def D3 : Orc := ((Orc.nil.add n_le_size (sp1 sp_size)).add n_le_Put (sp3 sp_Put)).add n_le_Take (sp2 sp_Take)
theorem D3_ok : OOk Tryz.prog D3 := by
  refine ((OOk.nil.add (sp1_ok fun c r h => ?_)).add (sp3_ok fun b v w r h => ?_)).add (sp2_ok fun b w r h => ?_)
  · simp only [sp_size] at h
    split at h <;> cases h
    rename_i hc
    obtain ⟨n, hn⟩ : ∃ n : Nat, c = ⟨n⟩ := ⟨c.v.toNat, by cases c; simp at hc ⊢; omega⟩
    subst hn
    exact c_le_size n (by simp at hc; omega)
  · simp only [sp_Put] at h
    split at h <;> cases h
    exact c_le_Put b v w (by assumption)
  · simp only [sp_Take] at h
    split at h <;> cases h
    exact c_le_Take b w (by assumption)
theorem sizeL_le (c : Nat) : 0 ≤ sizeL c ∧ sizeL c ≤ 8 := by
  unfold sizeL
  repeat' split
  all_goals omega
theorem dec_form (f : List UInt8) (i : Nat) (c : UInt8) (hf : ∀ c ∈ f, c.toNat < 128) (h : f[i]? = some c) : Utf8.decode ⟨f.toArray⟩ i = (c.toNat, 1) ∧ c.toNat < 128 := by
  obtain ⟨hlt, he⟩ := List.getElem?_eq_some_iff.1 h
  have hc := hf c (he ▸ List.getElem_mem hlt)
  refine ⟨?_, hc⟩
  have e : (⟨f.toArray⟩ : ByteArray)[i]'(by show i < f.toArray.size; simpa using hlt) = c := by
    show f.toArray[i] = c
    simpa using he
  rw [decode_ascii ⟨f.toArray⟩ i (by show i < f.toArray.size; simpa using hlt) (by rw [e]; exact hc), e]

def PackI (f : List UInt8) (l : List Nat) (k : Nat) (s : Nat → V) (m : Mem) : Prop :=
  ∃ i acc t tips, i + k = f.length ∧ i ≤ l.length ∧ packS f l = (packS (f.drop i) (l.drop i)).map (acc ++ ·) ∧ acc.length ≤ 8 * i ∧ s 1 = .lit 1 (l.map cs) ∧ s 10 = .ptr 0 0 ∧ s 6 = .val (.int .i64 i) ∧ s 4 = .row t 1 (acc.map cs) ∧
      m = ⟨[[.tuple [.val (.string ⟨f.toArray⟩), .val (.int .i64 i)]]], tips⟩ ∧ tips[t]? = some (5, 1, acc.length)
theorem c_le_Pack (f : List UInt8) (l : List Nat) (hf : ∀ c ∈ f, c.toNat < 128) (hl : f.length ≤ 2 ^ 30) (hn : l.length ≤ 2 ^ 30) :
    Pure Tryz.prog n_le_Pack [enc (⟨f.toArray⟩ : ByteArray), enc l] (.tuple [.row 0 1 ((packB f l).map cs), enc (packE f l)]) [(5, 1, (packB f l).length)] := by
  refine Pure.ofR D3_ok hm F_le_Pack_ok (by simp [F_le_Pack]) (by simp [V.res, V.res1]) ?_
  simp [F_le_Pack]
  refine wp_loop (PackI f l)
    f.length (IW.of ⟨0, [], 0, [(5, 1, 0)], by omega, by omega, by simp, by simp, by simp, by simp, by simp, by simp, by simp, by simp⟩) fun k s m ⟨i, acc, t, tips, hik, hil, hp, ha, h1, h10, h6, h4, hm, ht⟩ => ?_
  subst hm
  by_cases hlt : i < f.length
  · have hfi : f[i]? = some f[i] := List.getElem?_eq_getElem hlt
    obtain ⟨hd, hc⟩ := dec_form f i f[i] hf hfi
    have hfd : f.drop i = f[i] :: f.drop (i + 1) := List.drop_eq_getElem_cons hlt
    have hc' : (f[i].toNat : Int) < 128 := by omega
    have hsz : (⟨f.toArray⟩ : ByteArray).size = f.length := by show f.toArray.size = _; simp
    by_cases hln : i < l.length
    · have hli : l[i]? = some l[i] := List.getElem?_eq_getElem hln
      have hld : l.drop i = l[i] :: l.drop (i + 1) := List.drop_eq_getElem_cons hln
      have hne : ¬ ((i : Int) = l.length) := by omega
      have hw := sizeL_le f[i].toNat
      cases hmay : mayB l[i] (sizeL f[i].toNat) with
      | false =>
        have hnone : packS f l = none := by rw [hp, hfd, hld]; simp [packS, hmay]
        simp [F_le_Pack_L0, h1, h10, h6, h4, hd, hsz, hlt, D3, hc', hli, hne, packB, packE, hnone, errPut, hmay]
        omega
      | true =>
        have e1 : bytesPut acc l[i] (sizeL f[i].toNat) = acc ++ leB l[i] (sizeL f[i].toNat).toNat := by simp [bytesPut, hmay]
        have e2 : errPut l[i] (sizeL f[i].toNat) = 0 := by simp [errPut, hmay]
        simp [F_le_Pack_L0, h1, h10, h6, h4, hd, hsz, hlt, D3, hc', hli, hne, e1, e2, leB_length]
        refine ⟨by omega, k - 1, by omega, IW.of ⟨i + 1, acc ++ leB l[i] (sizeL f[i].toNat).toNat, tips.length, tips ++ [(5, 1, acc.length + (sizeL f[i].toNat).toNat)], by omega, by omega, ?_, by simp [leB_length]; omega, by simpa using h1, by simpa using h10, ?_, by simp, by simp, by simp [leB_length]⟩⟩
        · rw [hp, hfd, hld]
          simp [packS, hmay, Function.comp_def]
        · simp; rw [IntWalk.i64_in _ (by omega)]
    · have hnil : l.drop i = [] := List.drop_eq_nil_of_le (by omega)
      have he : ((i : Int) = l.length) := by omega
      have hnone : packS f l = none := by rw [hp, hfd, hnil]; simp [packS]
      simp [F_le_Pack_L0, h1, h10, h6, h4, hsz, D3, he, packB, packE, hnone]
      omega
  · have hfnil : f.drop i = [] := List.drop_eq_nil_of_le (by omega)
    have hsz : (⟨f.toArray⟩ : ByteArray).size = f.length := by show f.toArray.size = _; simp
    by_cases hln : i < l.length
    · have hld : l.drop i = l[i] :: l.drop (i + 1) := List.drop_eq_getElem_cons hln
      have hnone : packS f l = none := by rw [hp, hfnil, hld]; simp [packS]
      simp [F_le_Pack_L0, h1, h10, h6, h4, hsz, hlt, hln, packB, packE, hnone]
    · have hnil : l.drop i = [] := List.drop_eq_nil_of_le (by omega)
      have hsome : packS f l = some acc := by rw [hp, hfnil, hnil]; simp [packS]
      simp [F_le_Pack_L0, h1, h10, h6, h4, hsz, hlt, hln, packB, packE, hsome, ht]

/-- The numbers that bytes are, by a form. -/
def unpackS : List UInt8 → List UInt8 → Option (List Nat)
  | [], b => if b = [] then some [] else none
  | c :: f, b => if okT b (sizeL c.toNat) = true then (unpackS f (b.drop (sizeL c.toNat).toNat)).map (leN (b.take (sizeL c.toNat).toNat) :: ·) else none
def unpackN (f b : List UInt8) : List Nat := (unpackS f b).getD []
def unpackE (f b : List UInt8) : Int := if (unpackS f b).isSome = true then 0 else 10
def UnpackI (f b : List UInt8) (k : Nat) (s : Nat → V) (m : Mem) : Prop :=
  ∃ (i : Nat) (acc : List Nat) (rest : List UInt8) (t : Nat) (v : V) (tips : List Tip), i + k = f.length ∧ unpackS f b = (unpackS (f.drop i) rest).map (acc ++ ·) ∧ acc.length = i ∧ rest.length ≤ 2 ^ 40 ∧ s 1 = v ∧ dec v = some rest ∧ s 10 = .ptr 0 0 ∧ s 4 = .row t 1 (acc.map cs) ∧
      m = ⟨[[.tuple [.val (.string ⟨f.toArray⟩), .val (.int .i64 i)]]], tips⟩ ∧ tips[t]? = some (69, 1, acc.length)
theorem c_le_Unpack (f b : List UInt8) (hf : ∀ c ∈ f, c.toNat < 128) (hl : f.length ≤ 2 ^ 30) (hb : b.length ≤ 2 ^ 40) :
    Pure Tryz.prog n_le_Unpack [enc (⟨f.toArray⟩ : ByteArray), enc b] (.tuple [.row 0 1 ((unpackN f b).map cs), enc (unpackE f b)]) [(69, 1, (unpackN f b).length)] := by
  refine Pure.ofR D3_ok hm F_le_Unpack_ok (by simp [F_le_Unpack]) (by simp [V.res, V.res1]) ?_
  simp [F_le_Unpack]
  refine wp_loop (UnpackI f b)
    f.length (IW.of ⟨0, [], b, 0, _, [(69, 1, 0)], by omega, by simp, by simp, by omega, rfl, by simp, by simp, by simp, by simp, by simp⟩) fun k s m ⟨i, acc, rest, t, v, tips, hik, hp, ha, hr, h1, hv, h10, h4, hm, ht⟩ => ?_
  subst hm
  have hsz : (⟨f.toArray⟩ : ByteArray).size = f.length := by show f.toArray.size = _; simp
  by_cases hlt : i < f.length
  · have hfi : f[i]? = some f[i] := List.getElem?_eq_getElem hlt
    obtain ⟨hd, hc⟩ := dec_form f i f[i] hf hfi
    have hfd : f.drop i = f[i] :: f.drop (i + 1) := List.drop_eq_getElem_cons hlt
    have hc' : (f[i].toNat : Int) < 128 := by omega
    have hw := sizeL_le f[i].toNat
    cases hok : okT rest (sizeL f[i].toNat) with
    | false =>
      have hnone : unpackS f b = none := by rw [hp, hfd]; simp [unpackS, hok]
      simp [F_le_Unpack_L0, h1, hv, h10, h4, hd, hsz, hlt, D3, hc', takeE, takeR, takeV, hok, unpackN, unpackE, hnone]
      omega
    | true =>
      have htl : t < tips.length := lt_of_some ht
      simp [F_le_Unpack_L0, h1, hv, h10, h4, hd, hsz, hlt, D3, hc', takeE, takeR, takeV, hok, List.getElem?_append_left htl, ht]
      refine ⟨by omega, by omega, k - 1, by omega, IW.of (show UnpackI f b _ _ _ from ⟨i + 1, acc ++ [leN (rest.take (sizeL f[i].toNat).toNat)], rest.drop (sizeL f[i].toNat).toNat, t, _, _, by omega, ?_, by simp [ha], by simp; omega, rfl, by simp, by simpa using h10, by simp, rfl, ?_⟩)⟩
      · rw [hp, hfd]
        simp [unpackS, hok, Function.comp_def]
      · rw [List.getElem?_set_self (by simp; omega)]
        simp [ha]
  · have hfnil : f.drop i = [] := List.drop_eq_nil_of_le (by omega)
    by_cases hre : rest = []
    · have hsome : unpackS f b = some acc := by rw [hp, hfnil]; simp [unpackS, hre]
      subst hre
      have hcond : ∀ F : Int → Prop, lenW v F = F 0 := lenW_dec hv
      simp [F_le_Unpack_L0, h1, hv, h10, h4, hsz, hlt, unpackN, unpackE, hsome, ht, hcond]
    · have hnone : unpackS f b = none := by rw [hp, hfnil]; simp [unpackS, hre]
      have hcond : ∀ F : Int → Prop, lenW v F = F rest.length := lenW_dec hv
      have hpos : 0 < rest.length := List.length_pos_iff.2 hre
      simp [F_le_Unpack_L0, h1, hv, h10, h4, hsz, hlt, unpackN, unpackE, hnone, hcond, hpos]
end Go.Av

namespace Go.Av
open Enc (enc dec)
open Cel (cs dc)
open Go.Proofs

/-- A form's letters are letters of a byte each. -/
def formOk (f : ByteArray) : Bool := f.data.toList.all (fun c => decide (c.toNat < 128)) && decide (f.size ≤ 2 ^ 30)
theorem formOk_spec {f : ByteArray} (h : formOk f = true) : (∀ c ∈ f.data.toList, c.toNat < 128) ∧ f.data.toList.length ≤ 2 ^ 30 := by
  simp only [formOk, Bool.and_eq_true, List.all_eq_true, decide_eq_true_eq] at h
  exact ⟨h.1, by rw [Array.length_toList]; exact h.2⟩
@[simp] def sp_pack (f : ByteArray) (l : List Nat) : Option (V × List Tip) := if formOk f = true ∧ l.length ≤ 2 ^ 30 then some (.tuple [.row 0 1 ((packB f.data.toList l).map cs), enc (packE f.data.toList l)], [(5, 1, (packB f.data.toList l).length)]) else none
@[simp] def sp_unpack (f : ByteArray) (b : List UInt8) : Option (V × List Tip) := if formOk f = true ∧ b.length ≤ 2 ^ 40 then some (.tuple [.row 0 1 ((unpackN f.data.toList b).map cs), enc (unpackE f.data.toList b)], [(69, 1, (unpackN f.data.toList b).length)]) else none
theorem ba_eta (f : ByteArray) : (⟨f.data.toList.toArray⟩ : ByteArray) = f := by cases f; simp
theorem sp_pack_ok : EOk Tryz.prog n_le_Pack (sp2 sp_pack) := sp2_ok fun f l r h => by
  simp only [sp_pack] at h
  split at h <;> cases h
  rename_i h
  have := c_le_Pack f.data.toList l (formOk_spec h.1).1 (formOk_spec h.1).2 h.2
  rwa [ba_eta] at this
theorem sp_unpack_ok : EOk Tryz.prog n_le_Unpack (sp2 sp_unpack) := sp2_ok fun f b r h => by
  simp only [sp_unpack] at h
  split at h <;> cases h
  rename_i h
  have := c_le_Unpack f.data.toList b (formOk_spec h.1).1 (formOk_spec h.1).2 h.2
  rwa [ba_eta] at this
theorem tipset {tips xs : List Tip} {t : Nat} {b : Tip} (h : t < tips.length) : ((tips ++ xs).set t b)[t]? = some b := by rw [List.getElem?_set_self (by simp; omega)]
end Go.Av

namespace Go.Av
open Enc (enc dec)
open Cel (cs dc)
open Go.Proofs

@[simp] def sp_rmay (w : Int) : Option (V × List Tip) := some (enc (mayB 0 w), [])
@[simp] def sp_rsize (c : UInt8) : Option (V × List Tip) := some (enc (sizeL c.toNat), [])
@[simp] def sp_Pack (f : ByteArray) (l : List Nat) : Option (V × List Tip) := if (∀ c ∈ f.data.toList, c.toNat < 128) ∧ f.size ≤ 2 ^ 30 ∧ l.length ≤ 2 ^ 30 then some (.tuple [.row 0 1 ((packB f.data.toList l).map cs), enc (packE f.data.toList l)], [(5, 1, (packB f.data.toList l).length)]) else none
end Go.Av

namespace Go.Av
open Enc (enc dec)
open Cel (cs dc)
open Go.Proofs

end Go.Av

/- Sums, by numbers: no Go here. -/
namespace Go.Av.Pl

def poly : Nat := 2197175160
def stepN (n : Nat) : Nat := if n % 2 = 1 then n / 2 ^^^ poly else n / 2
def step4 (n : Nat) : Nat := stepN (stepN (stepN (stepN n)))
def tabL : List Nat := [0, 274646895, 549293790, 820201905, 1098587580, 1361435347, 1640403810, 1905808397, 2197175160, 2460548119, 2722870694, 2987750089, 3280807620, 3553878443, 3811616794, 4084100981]
theorem stepN_xor (a b : Nat) : stepN (a ^^^ b) = stepN a ^^^ stepN b := by
  have h1 : (a ^^^ b) / 2 = a / 2 ^^^ b / 2 := by
    have := Nat.shiftRight_xor_distrib (a := a) (b := b) (i := 1)
    simpa [Nat.shiftRight_eq_div_pow] using this
  have h2 : (a ^^^ b) % 2 = (a + b) % 2 := by
    have h : (a ^^^ b) % 2 ^ 1 = a % 2 ^ 1 ^^^ b % 2 ^ 1 := Nat.xor_mod_two_pow
    rw [Nat.pow_one] at h
    rw [h, Nat.add_mod]
    rcases Nat.mod_two_eq_zero_or_one a with ha | ha <;> rcases Nat.mod_two_eq_zero_or_one b with hb | hb <;> rw [ha, hb] <;> rfl
  unfold stepN
  rw [h1, h2]
  rcases Nat.mod_two_eq_zero_or_one a with ha | ha <;> rcases Nat.mod_two_eq_zero_or_one b with hb | hb
  · rw [if_neg (by omega), if_neg (by omega), if_neg (by omega)]
  · rw [if_pos (by omega), if_neg (by omega), if_pos (by omega), Nat.xor_assoc]
  · rw [if_pos (by omega), if_pos (by omega), if_neg (by omega), Nat.xor_assoc, Nat.xor_assoc, Nat.xor_comm poly]
  · rw [if_neg (by omega), if_pos (by omega), if_pos (by omega)]
    rw [Nat.xor_assoc, Nat.xor_comm poly, Nat.xor_assoc, Nat.xor_self, Nat.xor_zero]
theorem stepN_two (x : Nat) : stepN (2 * x) = x := by
  unfold stepN
  rw [if_neg (by omega)]
  omega
theorem split16 (n : Nat) : n = (16 * (n / 16)) ^^^ (n % 16) := by
  apply Nat.eq_of_testBit_eq
  intro i
  rw [Nat.testBit_xor, show 16 * (n / 16) = 2 ^ 4 * (n / 16) from rfl, show n % 16 = n % 2 ^ 4 from rfl, show n / 16 = n / 2 ^ 4 from rfl, Nat.testBit_mod_two_pow, Nat.testBit_two_pow_mul, Nat.testBit_div_two_pow]
  by_cases h : i < 4
  · have : ¬ (4 ≤ i) := by omega
    simp [h, this]
  · have : 4 ≤ i := by omega
    simp [h, this]
/-- The table's. -/
def tabN (n : Nat) : Nat := tabL.getD (n % 16) 0
theorem step4_tab (n : Nat) : step4 n = (n / 16) ^^^ tabN n := by
  have h16 : ∀ q, step4 (16 * q) = q := fun q => by
    unfold step4
    rw [show 16 * q = 2 * (2 * (2 * (2 * q))) by omega, stepN_two, stepN_two, stepN_two, stepN_two]
  have hx : ∀ a b, step4 (a ^^^ b) = step4 a ^^^ step4 b := fun a b => by unfold step4; rw [stepN_xor, stepN_xor, stepN_xor, stepN_xor]
  have ht : ∀ r : _root_.Fin 16, step4 r.val = tabL.getD r.val 0 := by decide
  conv => lhs; rw [split16 n]
  rw [hx, h16, ht ⟨n % 16, by omega⟩]
  rfl
theorem stepN_lt {n : Nat} (h : n < 2 ^ 32) : stepN n < 2 ^ 32 := by
  unfold stepN
  split
  · exact Nat.xor_lt_two_pow (by omega) (by decide)
  · omega
/-- A byte more. -/
def crcB (n : Nat) (b : UInt8) : Nat := step4 (step4 (n ^^^ b.toNat))
def crcF (n : Nat) (l : List UInt8) : Nat := l.foldl crcB n
def crcN (sum : Nat) (l : List UInt8) : Nat := crcF (sum ^^^ 4294967295) l ^^^ 4294967295
theorem step4_lt {n : Nat} (h : n < 2 ^ 32) : step4 n < 2 ^ 32 := stepN_lt (stepN_lt (stepN_lt (stepN_lt h)))
theorem crcB_lt {n : Nat} (h : n < 2 ^ 32) (b : UInt8) : crcB n b < 2 ^ 32 := by
  have := b.toNat_lt
  exact step4_lt (step4_lt (Nat.xor_lt_two_pow h (by omega)))
theorem crcF_lt : ∀ (l : List UInt8) {n : Nat}, n < 2 ^ 32 → crcF n l < 2 ^ 32
  | [], _, h => h
  | b :: l, _, h => crcF_lt l (crcB_lt h b)
theorem crcN_lt {sum : Nat} (h : sum < 2 ^ 32) (l : List UInt8) : crcN sum l < 2 ^ 32 :=
  Nat.xor_lt_two_pow (crcF_lt l (Nat.xor_lt_two_pow h (by decide))) (by decide)
theorem crcF_append (n : Nat) (a b : List UInt8) : crcF n (a ++ b) = crcF (crcF n a) b := List.foldl_append ..
end Go.Av.Pl

namespace Go.Av
open Enc (enc dec)
open Cel (cs dc)
open Go.Proofs Pl

theorem xor32 {a b : Nat} (ha : a < 2 ^ 32) (hb : b < 2 ^ 32) : bitXor .u32 (a : Int) (b : Int) = ((a ^^^ b : Nat) : Int) := by
  unfold bitXor
  have e : (BitVec.ofInt 32 (a : Int) ^^^ BitVec.ofInt 32 (b : Int)).toNat = a ^^^ b := by
    rw [BitVec.ofInt_natCast, BitVec.ofInt_natCast, BitVec.toNat_xor, BitVec.toNat_ofNat, BitVec.toNat_ofNat, Nat.mod_eq_of_lt ha, Nat.mod_eq_of_lt hb]
  show IntKind.u32.wrap (((BitVec.ofInt 32 (a : Int) ^^^ BitVec.ofInt 32 (b : Int)).toNat : Nat) : Int) = _
  have := Nat.xor_lt_two_pow ha hb
  rw [e, IntWalk.u32_in _ (by omega)]
theorem and15 {a : Nat} (ha : a < 2 ^ 32) : bitAnd .u32 (a : Int) 15 = ((a % 16 : Nat) : Int) := by
  unfold bitAnd
  have e : (BitVec.ofInt 32 (a : Int) &&& BitVec.ofInt 32 (15 : Int)).toNat = a % 16 := by
    rw [BitVec.ofInt_natCast, show BitVec.ofInt 32 (15 : Int) = BitVec.ofNat 32 15 from rfl, BitVec.toNat_and, BitVec.toNat_ofNat, BitVec.toNat_ofNat, Nat.mod_eq_of_lt ha]
    exact Nat.and_two_pow_sub_one_eq_mod a 4
  show IntKind.u32.wrap (((BitVec.ofInt 32 (a : Int) &&& BitVec.ofInt 32 (15 : Int)).toNat : Nat) : Int) = _
  rw [e, IntWalk.u32_in _ (by omega)]
def u32V (n : Nat) : V := .val (.int .u32 n)
theorem c_bytes_Equal (a b : List UInt8) : Pure Tryz.prog n_bytes_Equal [enc a, enc b] (enc (a == b)) [] := by
  refine Pure.ofC OOk.nil hm F_bytes_Equal_ok (by simp [F_bytes_Equal]) rfl ?_
  simp [F_bytes_Equal]
theorem c_halves : Pure Tryz.prog n_crc_halves [] (.agg (tabL.map u32V)) [] := by
  refine Pure.ofC OOk.nil hm F_crc_halves_ok (by simp [F_crc_halves]) rfl ?_
  simp [F_crc_halves, tabL, u32V]
@[simp] def sp_halves : Option (V × List Tip) := some (.agg (tabL.map u32V), [])
def D6 : Orc := Orc.nil.add n_crc_halves (sp0 sp_halves)
theorem D6_ok : OOk Tryz.prog D6 := OOk.nil.add (sp0_ok fun r h => by cases h; exact c_halves)
def MoreI (sum : Nat) (l : List UInt8) (k : Nat) (s : Nat → V) (m : Mem) : Prop :=
  ∃ i : Nat, i + k = l.length ∧ s 0 = u32V (crcF sum (l.take i)) ∧ s 5 = .ptr 0 0 ∧ s 11 = .lit 1 (l.map cs) ∧ s 12 = .val (.int .i64 l.length) ∧ s 13 = .val (.int .i64 i) ∧ m = ⟨[tabL.map u32V], []⟩
theorem tab_get (n : Nat) : (tabL.map u32V)[n % 16]? = some (u32V (tabN n)) := by
  have : n % 16 < tabL.length := by show n % 16 < 16; omega
  rw [List.getElem?_map, List.getElem?_eq_getElem this]
  simp [tabN, List.getD_eq_getElem?_getD, List.getElem?_eq_getElem this]
theorem tab_lt (n : Nat) : tabN n < 2 ^ 32 := by
  have ht : ∀ r : _root_.Fin 16, tabL.getD r.val 0 < 2 ^ 32 := by decide
  exact ht ⟨n % 16, by omega⟩
theorem c_crc_More (sum : Nat) (l : List UInt8) (hs : sum < 2 ^ 32) (hl : l.length ≤ 2 ^ 40) : Pure Tryz.prog n_crc_More [u32V sum, enc l] (u32V (crcN sum l)) [] := by
  refine Pure.ofC D6_ok hm F_crc_More_ok (by simp [F_crc_More]) rfl ?_
  have hx := xor32 hs (show 4294967295 < 2 ^ 32 by decide)
  have hx' : bitXor .u32 (sum : Int) 4294967295 = ((sum ^^^ 4294967295 : Nat) : Int) := hx
  have hlt := Nat.xor_lt_two_pow hs (show 4294967295 < 2 ^ 32 by decide)
  have htl : (tabL.map u32V).length = 16 := rfl
  simp [F_crc_More, u32V, hx', D6]
  refine ⟨by rfl, ?_⟩
  refine wp_loop (MoreI (sum ^^^ 4294967295) l) l.length (IW.of ⟨0, Nat.zero_add _, by simp [u32V, crcF], by simp, by simp, by simp, by simp, by simp⟩) fun k s m ⟨i, hik, h0, h5, h11, h12, h13, hm⟩ => ?_
  subst hm
  have hc := crcF_lt (l.take i) hlt
  by_cases hi : i < l.length
  · have hg : l[i]? = some l[i] := List.getElem?_eq_getElem hi
    have hb := l[i].toNat_lt
    have hobj : isObj (tabL.map u32V) = false := rfl
    have w1 : IntKind.u32.wrap (l[i].toNat : Int) = l[i].toNat := IntWalk.u32_in _ (by omega)
    have x1 := xor32 hc (show l[i].toNat < 2 ^ 32 by omega)
    have hn1 := Nat.xor_lt_two_pow hc (show l[i].toNat < 2 ^ 32 by omega)
    have hd : ∀ n : Nat, (n : Int).fdiv (2 ^ min 4 IntKind.u32.bits) = ((n / 16 : Nat) : Int) := fun n => by
      rw [show min 4 IntKind.u32.bits = 4 from rfl, shr_eq]
    have hm16 : ∀ n : Nat, ((n % 16 : Nat) : Int) < 16 := fun n => by omega
    have a1 := and15 hn1
    have x2 := xor32 (show (crcF (sum ^^^ 4294967295) (l.take i) ^^^ l[i].toNat) / 16 < 2 ^ 32 by omega) (tab_lt (crcF (sum ^^^ 4294967295) (l.take i) ^^^ l[i].toNat))
    rw [← step4_tab] at x2
    have hn2 := step4_lt hn1
    have a2 := and15 hn2
    have x3 := xor32 (show step4 (crcF (sum ^^^ 4294967295) (l.take i) ^^^ l[i].toNat) / 16 < 2 ^ 32 by omega) (tab_lt (step4 (crcF (sum ^^^ 4294967295) (l.take i) ^^^ l[i].toNat)))
    rw [← step4_tab] at x3
    simp only [u32V] at h0
    have tg := tab_get
    simp only [u32V] at tg hobj
    simp [F_crc_More_L0, h0, h5, h11, h12, h13, hg, hi, hobj, w1, x1, hd, a1, x2, a2, x3, hm16, u32V, tg, -Int.natCast_emod, -Int.natCast_ediv, -List.getElem?_map]
    refine ⟨k - 1, by omega, IW.of (show MoreI (sum ^^^ 4294967295) l _ _ _ from ⟨i + 1, by omega, ?_, by simpa using h5, by simpa using h11, by simpa using h12, ?_, rfl⟩)⟩
    · have e1 : l.take (i + 1) = l.take i ++ [l[i]] := by rw [List.take_add_one, hg]; rfl
      have e2 : crcF (sum ^^^ 4294967295) (l.take (i + 1)) = crcB (crcF (sum ^^^ 4294967295) (l.take i)) l[i] := by rw [e1, crcF_append]; rfl
      rw [e2]
      simp [u32V, crcB]
    · simp; rw [IntWalk.i64_in _ (by omega)]
  · have hil : i = l.length := by omega
    have ht : l.take i = l := by rw [hil, List.take_length]
    rw [ht] at h0 hc
    have hx2 : bitXor .u32 ((crcF (sum ^^^ 4294967295) l : Nat) : Int) 4294967295 = ((crcN sum l : Nat) : Int) := xor32 hc (show 4294967295 < 2 ^ 32 by decide)
    simp only [u32V] at h0
    simp [F_crc_More_L0, h0, h12, h13, hi, hx2]

@[simp] def sp_More (s : UInt32) (l : List UInt8) : Option (V × List Tip) := if l.length ≤ 2 ^ 40 then some (u32V (crcN s.toNat l), []) else none
def D7 : Orc := Orc.nil.add n_crc_More (sp2 sp_More)
theorem D7_ok : OOk Tryz.prog D7 := OOk.nil.add (sp2_ok fun s l r h => by
  simp only [sp_More] at h
  split at h <;> cases h
  exact c_crc_More s.toNat l s.toNat_lt (by assumption))
theorem c_crc_Sum (l : List UInt8) (hl : l.length ≤ 2 ^ 40) : Pure Tryz.prog n_crc_Sum [enc l] (u32V (crcN 0 l)) [] := by
  refine Pure.ofC D7_ok hm F_crc_Sum_ok (by simp [F_crc_Sum]) rfl ?_
  simp [F_crc_Sum, D7, u32V]
  omega
@[simp] def sp_Sum (l : List UInt8) : Option (V × List Tip) := if l.length ≤ 2 ^ 40 then some (u32V (crcN 0 l), []) else none
/-- A text with its sum behind. -/
def sealS (l : List UInt8) : List UInt8 := l ++ leB (crcN 0 l) 4
theorem put4 (l b : List UInt8) : bytesPut b (crcN 0 l) 4 = b ++ leB (crcN 0 l) 4 ∧ errPut (crcN 0 l) 4 = 0 := by
  have h := crcN_lt (sum := 0) (by decide) l
  have : mayB (crcN 0 l) 4 = true := by simp [mayB]; exact h
  simp [bytesPut, errPut, this]
def D8 : Orc := (Orc.nil.add n_crc_Sum (sp1 sp_Sum)).add n_le_Put (sp3 sp_Put)
theorem D8_ok : OOk Tryz.prog D8 := by
  refine (OOk.nil.add (sp1_ok fun l r h => ?_)).add (sp3_ok fun b v w r h => ?_)
  · simp only [sp_Sum] at h
    split at h <;> cases h
    exact c_crc_Sum l (by assumption)
  · simp only [sp_Put] at h
    split at h <;> cases h
    exact c_le_Put b v w (by assumption)
theorem u64_32 {n : Nat} (h : n < 2 ^ 32) : IntKind.u64.wrap (n : Int) = n := IntWalk.u64_in _ (by omega)
theorem c_crc_Seal (l : List UInt8) (hl : l.length ≤ 2 ^ 40) : Pure Tryz.prog n_crc_Seal [enc l] (.row 0 1 ((sealS l).map cs)) [(5, 1, (sealS l).length)] := by
  refine Pure.ofR D8_ok hm F_crc_Seal_ok (by simp [F_crc_Seal]) (by simp [V.res, V.res1]) ?_
  have h := u64_32 (crcN_lt (sum := 0) (by decide) l)
  have h4 := put4 l l
  simp [F_crc_Seal, D8, u32V, h, h4.1, h4.2, sealS]
  omega
@[simp] def sp_Seal (l : List UInt8) : Option (V × List Tip) := if l.length ≤ 2 ^ 40 then some (.row 0 1 ((sealS l).map cs), [(5, 1, (sealS l).length)]) else none
@[simp] def sp_Equal (a b : List UInt8) : Option (V × List Tip) := some (enc (a == b), [])
def D9 : Orc := (Orc.nil.add n_crc_Seal (sp1 sp_Seal)).add n_bytes_Equal (sp2 sp_Equal)
theorem D9_ok : OOk Tryz.prog D9 := by
  refine (OOk.nil.add (sp1_ok fun l r h => ?_)).add (sp2_ok fun a b r h => ?_)
  · simp only [sp_Seal] at h
    split at h <;> cases h
    exact c_crc_Seal l (by assumption)
  · cases h; exact c_bytes_Equal a b
/-- The text of one. -/
def openOk (b : List UInt8) : Bool := decide (4 ≤ b.length) && (sealS (b.take (b.length - 4)) == b)
def openT (b : List UInt8) : List UInt8 := if openOk b = true then b.take (b.length - 4) else []
def openE (b : List UInt8) : Int := if openOk b = true then 0 else 20
theorem c_crc_Open (b : List UInt8) (hb : b.length ≤ 2 ^ 40) : Pure Tryz.prog n_crc_Open [enc b] (.tuple [.row 0 1 ((openT b).map cs), enc (openE b)]) [(5, 1, (openT b).length)] := by
  refine Pure.ofR D9_ok hm F_crc_Open_ok (by simp [F_crc_Open]) (by simp [V.res, V.res1]) ?_
  have hw : IntKind.i64.wrap ((b.length : Int) - 4) = (b.length : Int) - 4 := IntWalk.i64_in _ (by omega)
  by_cases h4 : 4 ≤ b.length
  · have hn : (4 : Int) ≤ b.length := by omega
    have h0 : (0 : Int) ≤ (b.length : Int) - 4 := by omega
    have hs : ((b.length : Int) - 4).toNat = b.length - 4 := by omega
    have hle : (b.length : Int) - 4 ≤ b.length := by omega
    have hb2 : b.length ≤ 1099511627780 := by omega
    have hb3 : b.length ≤ 140737488355332 := by omega
    cases he : (sealS (b.take (b.length - 4)) == b) with
    | true =>
      have he' : sealS (b.take (b.length - 4)) = b := by simpa using he
      simp [F_crc_Open, D9, hw, hn, hs, hle, he', hb2, hb3, openT, openE, openOk, h4]
    | false =>
      have he' : ¬ sealS (b.take (b.length - 4)) = b := by simpa using he
      simp [F_crc_Open, D9, hw, hn, hs, hle, he', hb2, openT, openE, openOk, h4]
  · have hn : ¬ ((4 : Int) ≤ b.length) := by omega
    simp [F_crc_Open, D9, hw, hn, openT, openE, openOk, h4]

-- The reference of chapter 2.
@[simp] def sp_step (n : UInt32) : Option (V × List Tip) := some (u32V (stepN n.toNat), [])
end Go.Av

namespace Go.Av.Pl
def recOk (r : Rec) : Bool := decide (1 ≤ r.kind ∧ r.kind ≤ 5 ∧ 0 ≤ r.seq ∧ r.seq ≤ 4611686018427387903 ∧ r.body.length ≤ 4096)
def recE (r : Rec) : Int := if recOk r = true then 0 else 50
def recH (r : Rec) : List UInt8 := leB 1196184151 4 ++ (leB r.kind.toNat 2 ++ (leB r.body.length 2 ++ leB r.seq.toNat 8))
def recB (r : Rec) : List UInt8 := if recOk r = true then sealS (recH r ++ r.body) else []
def recSz (n : Int) : Int := if n < 0 ∨ 4096 < n then 0 else n + 20
/-- The first zone of a state that has room for so many bytes. -/
def dFirst (d : Dv) (q n : Int) : Int := zIdx (fun z => decide (z.st = q) && decide (n ≤ zRoom z d.size)) d.zones
def placeE (d : Dv) (n : Int) : Int := if dOk d = false ∨ n < 1 ∨ d.size < n then 1 else if 0 ≤ dFirst d 1 n then 0 else if dFirst d 0 n < 0 then 60 else 0
def placeN (d : Dv) (n : Int) : Int := if dOk d = false ∨ n < 1 ∨ d.size < n then 0 else if 0 ≤ dFirst d 1 n then dFirst d 1 n else if dFirst d 0 n < 0 then 0 else dFirst d 0 n
def placeL (d : Dv) (n : Int) : List Rec := if dOk d = false ∨ n < 1 ∨ d.size < n then [] else if 0 ≤ dFirst d 1 n then [] else if dFirst d 0 n < 0 then [] else if 3 ≤ stN 1 d.zones then [⟨3, dFirst d 1 0, []⟩] else []
end Go.Av.Pl
namespace Go.Av
open Enc (enc dec)
open Cel (cs dc)
open Go.Proofs Pl

theorem c_rSize (n : Int) : Pure Tryz.prog n_record_Size [enc n] (enc (recSz n)) [] := by
  refine Pure.ofC OOk.nil hm F_record_Size_ok (by simp [F_record_Size]) rfl ?_
  by_cases h1 : n < 0
  · simp [F_record_Size, recSz, h1]
  · by_cases h2 : 4096 < n
    · simp [F_record_Size, recSz, h1, h2]
    · have w1 := IntWalk.i64_in (16 + n) (by omega)
      have w2 := IntWalk.i64_in (16 + n + 4) (by omega)
      simp [F_record_Size, recSz, h1, h2, w1, w2]
      omega
theorem c_rCheck (r : Rec) : Pure Tryz.prog n_record_Check [enc r] (enc (recE r)) [] := by
  refine Pure.ofC OOk.nil hm F_record_Check_ok (by simp [F_record_Check]) rfl ?_
  obtain ⟨k, s, b⟩ := r
  by_cases h1 : k < 1
  · have : ¬ 1 ≤ k := by omega
    simp [F_record_Check, recE, recOk, h1, this]
  by_cases h2 : 5 < k
  · have : ¬ k ≤ 5 := by omega
    simp [F_record_Check, recE, recOk, h1, h2, this]
  by_cases h3 : s < 0
  · have : ¬ 0 ≤ s := by omega
    simp [F_record_Check, recE, recOk, h1, h2, h3, this]
  by_cases h4 : 4611686018427387903 < s
  · have : ¬ s ≤ 4611686018427387903 := by omega
    simp [F_record_Check, recE, recOk, h1, h2, h3, h4, this]
  by_cases h5 : 4096 < (b.length : Int)
  · have : ¬ b.length ≤ 4096 := by omega
    simp [F_record_Check, recE, recOk, h1, h2, h3, h4, h5, this]
  have e1 : 1 ≤ k := by omega
  have e2 : k ≤ 5 := by omega
  have e3 : 0 ≤ s := by omega
  have e4 : s ≤ 4611686018427387903 := by omega
  have e5 : b.length ≤ 4096 := by omega
  simp [F_record_Check, recE, recOk, h1, h2, h3, h4, h5, e1, e2, e3, e4, e5]
@[simp] def sp_rCheck (r : Rec) : Option (V × List Tip) := some (enc (recE r), [])
theorem sp_rCheck_ok : EOk Tryz.prog n_record_Check (sp1 sp_rCheck) := sp1_ok fun a r h => by cases h; exact c_rCheck a
theorem sp_zSeal_ok : EOk Tryz.prog n_crc_Seal (sp1 sp_Seal) := sp1_ok fun l r h => by
  simp only [sp_Seal] at h
  split at h <;> cases h
  exact c_crc_Seal l (by assumption)
def Dl1 : Orc := ((Orc.nil.add n_record_Check (sp1 sp_rCheck)).add n_le_Pack (sp2 sp_pack)).add n_crc_Seal (sp1 sp_Seal)
theorem Dl1_ok : OOk Tryz.prog Dl1 := ((OOk.nil.add sp_rCheck_ok).add sp_pack_ok).add sp_zSeal_ok
theorem f_whhq : formOk ⟨#[119, 104, 104, 113]⟩ = true := by decide
theorem recH_length (r : Rec) : (recH r).length = 16 := by simp [recH, leB_length]
theorem recOk_iff {r : Rec} : recOk r = true ↔ (1 ≤ r.kind ∧ r.kind ≤ 5 ∧ 0 ≤ r.seq ∧ r.seq ≤ 4611686018427387903 ∧ r.body.length ≤ 4096) := by simp [recOk]
theorem pack_rec {r : Rec} (h : recOk r = true) : packS [119, 104, 104, 113] [1196184151, r.kind.toNat, r.body.length, r.seq.toNat] = some (recH r) := by
  have h := recOk_iff.1 h
  have m1 : mayB 1196184151 4 = true := by decide
  have m2 : mayB r.kind.toNat 2 = true := by simp [mayB]; omega
  have m3 : mayB r.body.length 2 = true := by simp [mayB]; omega
  have m4 : mayB r.seq.toNat 8 = true := by simp [mayB]
  simp [packS, sizeL, m1, m2, m3, m4, recH]
theorem sealS_length (l : List UInt8) : (sealS l).length = l.length + 4 := by simp [sealS, leB_length]
theorem recB_length {r : Rec} (h : recOk r = true) : (recB r).length = r.body.length + 20 := by
  rw [recB, if_pos h, sealS_length, List.length_append, recH_length]; omega
theorem c_rWrite (r : Rec) : Pure Tryz.prog n_record_Write [enc r] (.tuple [enc (recB r), enc (recE r)]) [] := by
  refine Pure.ofC Dl1_ok hm F_record_Write_ok (by simp [F_record_Write]) (by simp [V.res, V.res1]) ?_
  by_cases h : recOk r = true
  · have h2 := recOk_iff.1 h
    have hp := pack_rec h
    have w1 := IntWalk.u64_in r.kind (by omega)
    have w2 := IntWalk.u64_in (r.body.length : Int) (by omega)
    have w3 := IntWalk.u64_in r.seq (by omega)
    have k1 : 0 ≤ r.kind := by omega
    have k2 := h2.2.2.1
    have hl := recH_length r
    have hb := h2.2.2.2.2
    obtain ⟨k, s, b⟩ := r
    simp at w1 w2 w3 k1 k2 hl hb hp
    have g1 : (recH ⟨k, s, b⟩).length + b.length ≤ 2 ^ 40 := by omega
    simp [F_record_Write, Dl1, recE, recB, h, w1, w2, w3, k1, k2, f_whhq, packB, packE, hp, hl, decX_cs, decX_append, clean_cs]
    omega
  · have h' : recOk r = false := by simpa using h
    obtain ⟨k, s, b⟩ := r
    simp [F_record_Write, Dl1, recE, recB, h', decX_cs]
@[simp] def sp_dCheck (d : Dv) : Option (V × List Tip) := if d.zones.length ≤ 2 ^ 40 then some (enc (dOk d), []) else none
theorem sp_dCheck_ok : EOk Tryz.prog n_dev_Check (sp1 sp_dCheck) := sp1_ok fun d r h => by
  simp only [sp_dCheck] at h
  split at h <;> cases h
  exact c_dCheck d (by assumption)
@[simp] def sp_dOpen (d : Dv) : Option (V × List Tip) := if d.zones.length ≤ 2 ^ 40 then some (enc (stN 1 d.zones : Int), []) else none
theorem sp_dOpen_ok : EOk Tryz.prog n_dev_Open (sp1 sp_dOpen) := sp1_ok fun d r h => by
  simp only [sp_dOpen] at h
  split at h <;> cases h
  exact c_dOpen d (by assumption)
@[simp] def sp_lFirst (d : Dv) (a b : Int) : Option (V × List Tip) := if d.zones.length ≤ 2 ^ 40 then some (enc (dFirst d a b), []) else none
theorem sp_lFirst_ok : EOk Tryz.prog n_log_first (sp3 sp_lFirst) := sp3_ok fun d a b r h => by
  simp only [sp_lFirst] at h
  split at h <;> cases h
  exact c_logFirst d a b (by assumption)
def Dl2 : Orc := ((Orc.nil.add n_dev_Check (sp1 sp_dCheck)).add n_dev_Open (sp1 sp_dOpen)).add n_log_first (sp3 sp_lFirst)
theorem Dl2_ok : OOk Tryz.prog Dl2 := ((OOk.nil.add sp_dCheck_ok).add sp_dOpen_ok).add sp_lFirst_ok
theorem c_lPlace (d : Dv) (n : Int) (hl : d.zones.length ≤ 2 ^ 40) : Pure Tryz.prog n_log_Place [enc d, enc n] (.tuple [enc (placeN d n), .row 0 3 ((placeL d n).map cs), enc (placeE d n)]) [(128, 3, (placeL d n).length)] := by
  refine Pure.ofR Dl2_ok hm F_log_Place_ok (by simp [F_log_Place]) (by simp [V.res, V.res1]) ?_
  by_cases h1 : dOk d = true
  · by_cases h2 : n < 1
    · simp [F_log_Place, Dl2, decX_map, hl, h1, h2, placeN, placeL, placeE]
    by_cases h3 : d.size < n
    · simp [F_log_Place, Dl2, decX_map, hl, h1, h2, h3, placeN, placeL, placeE]
    by_cases h4 : 0 ≤ dFirst d 1 n
    · simp [F_log_Place, Dl2, decX_map, hl, h1, h2, h3, h4, placeN, placeL, placeE]
    by_cases h5 : dFirst d 0 n < 0
    · simp [F_log_Place, Dl2, decX_map, hl, h1, h2, h3, h4, h5, placeN, placeL, placeE]
    by_cases h6 : 3 ≤ (stN 1 d.zones : Int)
    · have h6' : 3 ≤ stN 1 d.zones := by omega
      simp [F_log_Place, Dl2, decX_map, hl, h1, h2, h3, h4, h5, h6, h6', placeN, placeL, placeE]
    · have h6' : ¬ 3 ≤ stN 1 d.zones := by omega
      simp [F_log_Place, Dl2, decX_map, hl, h1, h2, h3, h4, h5, h6, h6', placeN, placeL, placeE]
  · have h1' : dOk d = false := by simpa using h1
    simp [F_log_Place, Dl2, decX_map, hl, h1', placeN, placeL, placeE]
end Go.Av

namespace Go.Av.Pl
structure Cx where
  re : Nat
  im : Nat
deriving DecidableEq
/-- What a command makes of its zone, if it is done. -/
def dDoZ (d : Dv) (c : Rec) : Option Zo := (d.zones[c.seq.toNat]?).bind fun z => if 0 ≤ c.seq ∧ 1 ≤ c.kind ∧ c.kind ≤ 4 ∧ (dCmd c.kind d z c.body).2 = 0 then some (dCmd c.kind d z c.body).1 else none
def dDoR (d : Dv) (c : Rec) : Option Dv := if dOk d = true ∧ d.down = false ∧ ¬ d.left = 0 ∧ (-(2 ^ 62) ≤ d.left ∧ d.left ≤ 2 ^ 62) ∧ (0 ≤ d.done ∧ d.done ≤ 2 ^ 62) ∧ c.body.length ≤ 2 ^ 30 then (dDoZ d c).map fun z => dDid d (d.zones.set c.seq.toNat z) else none
/-- The commands that append a record. -/
def cmdL (d : Dv) (r : Rec) : List Rec := placeL d (recB r).length ++ [⟨1, placeN d (recB r).length, recB r⟩]
def oneD (d : Dv) (r : Rec) : Option Dv := (cmdL d r).foldlM dDoR d
def oneC (d : Dv) (r : Rec) : Cx := ⟨FloatKind.f64.nearest (placeN d (recB r).length), FloatKind.f64.nearest ((d.zones.getD (placeN d (recB r).length).toNat ⟨0, 0, [], 0⟩).data.length : Int)⟩
def one1 (d : Dv) (r : Rec) : Option (Dv × Cx × Int) :=
  if d.zones.length ≤ 2 ^ 40 then (if recOk r = false then some (d, ⟨0, 0⟩, 50) else if placeE d (recB r).length ≠ 0 then some (d, ⟨0, 0⟩, placeE d (recB r).length) else (oneD d r).map fun d' => (d', oneC d r, 0)) else none
end Go.Av.Pl
namespace Go.Av
open Enc (enc dec)
open Cel (cs dc)
open Go.Proofs Pl

instance : Enc Cx where
  enc x := .val (.complex .f64 x.re x.im)
  dec v := match v with
    | .val (.complex .f64 a b) => some ⟨a, b⟩
    | _ => none
  cl x := rfl
  ok v x h M w us hr := by
    split at h
    · cases h; exact hr
    · cases h
  de x := rfl
instance : Cel Cx := ⟨1, fun a => [enc a], dc1, fun _ => rfl, dc1_ok, fun a => by simp [Enc.cl], fun a => by simp [dc1, Enc.de]⟩
@[simp] theorem dv_eta (d : Dv) : (⟨d.size, d.zones, d.left, d.down, d.done⟩ : Dv) = d := rfl
@[simp] theorem rec_eta (d : Rec) : (⟨d.kind, d.seq, d.body⟩ : Rec) = d := rfl
@[simp] theorem zo_eta (d : Zo) : (⟨d.st, d.rs, d.data, d.la⟩ : Zo) = d := rfl
@[simp] theorem enc_cx (n : Cx) : (enc n : V) = .val (.complex .f64 n.re n.im) := rfl
@[simp] theorem dec_cx (a b : Nat) : (dec (.val (.complex .f64 a b)) : Option Cx) = some ⟨a, b⟩ := rfl
@[simp] theorem cs_cx (n : Cx) : cs n = [.val (.complex .f64 n.re n.im)] := rfl
@[simp] theorem dc_cx (l : List V) : (dc l : Option Cx) = dc1 l := rfl
@[simp] theorem sz_cx : Cel.sz Cx = 1 := rfl
@[simp] def sp_dDo (d : Dv) (c : Rec) : Option (V × List Tip) := (dDoR d c).map fun d' => (.tuple [enc d', .val (.int .i64 0)], [])
theorem sp_dDo_ok : EOk Tryz.prog n_dev_Do (sp2 sp_dDo) := sp2_ok fun d c r h => by
  simp only [sp_dDo, Option.map_eq_some_iff] at h
  obtain ⟨d', hd, rfl⟩ := h
  unfold dDoR at hd
  split at hd
  · rename_i hc
    obtain ⟨k1, k2, k3, k4, k5, k6⟩ := hc
    simp only [Option.map_eq_some_iff] at hd
    obtain ⟨z, hz, rfl⟩ := hd
    unfold dDoZ at hz
    simp only [Option.bind_eq_some_iff] at hz
    obtain ⟨z0, hz0, hz⟩ := hz
    split at hz
    · rename_i hq
      cases hz
      obtain ⟨q1, q2, q3, q4⟩ := hq
      obtain ⟨k, n, b⟩ := c
      simp only at q1 q2 q3 q4 hz0 k6 ⊢
      obtain ⟨hi, he⟩ := List.getElem?_eq_some_iff.1 hz0
      have en : ((n.toNat : Nat) : Int) = n := Int.toNat_of_nonneg q1
      have hcm : CmdOk k d n.toNat b hi (dCmd k d z0 b).1 := ⟨k6, by rw [he]; exact Prod.ext rfl q4, k1, k2, k3, k4, k5⟩
      have hk : k = 1 ∨ k = 2 ∨ k = 3 ∨ k = 4 := by omega
      have key := fun fid h1 h2 h3 h4 => c_dDo k fid h1 h2 h3 h4 d n.toNat b hi _ hcm
      rw [en] at key
      rcases hk with rfl | rfl | rfl | rfl
      · exact key n_dev_command_append (by decide) (by simp [doesK]) sp_capp_ok (by decide)
      · exact key n_dev_command_reset (by decide) (by simp [doesK]) sp_cres_ok (by decide)
      · exact key n_dev_command_finish (by decide) (by simp [doesK]) sp_cfin_ok (by decide)
      · exact key n_dev_command_close (by decide) (by simp [doesK]) sp_cclo_ok (by decide)
    · cases hz
  · cases hd
@[simp] def sp_rWrite (r : Rec) : Option (V × List Tip) := some (.tuple [enc (recB r), enc (recE r)], [])
theorem sp_rWrite_ok : EOk Tryz.prog n_record_Write (sp1 sp_rWrite) := sp1_ok fun a r h => by cases h; exact c_rWrite a
@[simp] def sp_lPlace (d : Dv) (n : Int) : Option (V × List Tip) := if d.zones.length ≤ 2 ^ 40 then some (.tuple [enc (placeN d n), .row 0 3 ((placeL d n).map cs), enc (placeE d n)], [(128, 3, (placeL d n).length)]) else none
theorem sp_lPlace_ok : EOk Tryz.prog n_log_Place (sp2 sp_lPlace) := sp2_ok fun a n r h => by
  simp only [sp_lPlace] at h
  split at h <;> cases h
  exact c_lPlace a n (by assumption)
def Dm1 : Orc := ((Orc.nil.add n_dev_Do (sp2 sp_dDo)).add n_record_Write (sp1 sp_rWrite)).add n_log_Place (sp2 sp_lPlace)
theorem Dm1_ok : OOk Tryz.prog Dm1 := ((OOk.nil.add sp_dDo_ok).add sp_rWrite_ok).add sp_lPlace_ok
theorem run_step {d d' : Dv} {l : List Rec} (h : l.foldlM dDoR d = some d') (i : Nat) (hi : i < l.length) : ∃ a b, (l.take i).foldlM dDoR d = some a ∧ dDoR a l[i] = some b ∧ (l.take (i + 1)).foldlM dDoR d = some b := by
  have e1 : l = l.take i ++ (l[i] :: l.drop (i + 1)) := by simp
  rw [e1, List.foldlM_append] at h
  simp only [Option.bind_eq_bind, Option.bind_eq_some_iff, List.foldlM_cons] at h
  obtain ⟨a, ha, b, hb, _⟩ := h
  refine ⟨a, b, ha, hb, ?_⟩
  rw [List.take_add_one, List.getElem?_eq_getElem hi, List.foldlM_append, ha]
  simp [hb]
def OneI (d : Dv) (l : List Rec) (c : Cx) (k : Nat) (s : Nat → V) (m : Mem) : Prop :=
  ∃ (i : Nat) (di : Dv) (t : Nat) (b1 : List V) (r : List (List V)), i + k = l.length ∧ (l.take i).foldlM dDoR d = some di ∧ s 51 = .row t 3 (l.map cs) ∧ s 52 = .val (.int .i64 l.length) ∧ s 53 = .val (.int .i64 i) ∧ s 2 = .ptr 0 0 ∧ s 4 = .ptr 2 0 ∧ s 8 = .val (.int .i64 0) ∧ s 11 = enc c ∧
    m.boxes = cs di :: b1 :: zeroDv :: r
theorem placeL_len (d : Dv) (n : Int) : (placeL d n).length ≤ 1 := by
  unfold placeL
  repeat' split
  all_goals simp
theorem zIdx_lt {pr : Zo → Bool} {l : List Zo} (h : 0 ≤ zIdx pr l) : ∃ (i : Nat) (hi : i < l.length), zIdx pr l = i ∧ pr l[i] = true := by
  unfold zIdx at h ⊢
  split at h
  · rename_i i e
    obtain ⟨hi, hp, _⟩ := List.findIdx?_eq_some_iff_getElem.1 e
    exact ⟨i, hi, rfl, hp⟩
  · omega
theorem place_lt {d : Dv} {n : Int} (h : placeE d n = 0) : ∃ (i : Nat), i < d.zones.length ∧ placeN d n = i := by
  unfold placeE at h
  unfold placeN
  split at h
  · cases h
  · rename_i h1
    rw [if_neg h1]
    split at h
    · rename_i h2
      rw [if_pos h2]
      obtain ⟨i, hi, e, _⟩ := zIdx_lt h2
      exact ⟨i, hi, e⟩
    · rename_i h2
      rw [if_neg h2]
      split at h
      · cases h
      · rename_i h3
        rw [if_neg h3]
        obtain ⟨i, hi, e, _⟩ := zIdx_lt (show 0 ≤ dFirst d 0 n by omega)
        exact ⟨i, hi, e⟩
theorem c_lOne (d : Dv) (r : Rec) (R : Dv × Cx × Int) (h : one1 d r = some R) : Pure Tryz.prog n_log_one [enc d, enc r] (.tuple [enc R.1, enc R.2.1, enc R.2.2]) [] := by
  refine Pure.ofC Dm1_ok hm F_log_one_ok (by simp [F_log_one]) (by simp [V.res, V.res1]) ?_
  unfold one1 at h
  split at h
  case isFalse => cases h
  rename_i hl
  split at h
  · rename_i h1
    cases h
    have e1 : recE r = 50 := by simp [recE, h1]
    simp [F_log_one, Dm1, e1, decX_cs]
  rename_i h1
  have h1 : recOk r = true := by simpa using h1
  have e1 : recE r = 0 := by simp [recE, h1]
  split at h
  · rename_i h2
    cases h
    simp [F_log_one, Dm1, e1, decX_cs, decX_map, hl, h2]
  rename_i h2
  have h2 : placeE d (recB r).length = 0 := by simpa using h2
  simp only [Option.map_eq_some_iff] at h
  obtain ⟨d', hd, rfl⟩ := h
  obtain ⟨i, hi, hn⟩ := place_lt h2
  have hg : d.zones[i]? = some d.zones[i] := List.getElem?_eq_getElem hi
  have hll := placeL_len d (recB r).length
  have hc : oneC d r = ⟨FloatKind.f64.nearest (i : Int), FloatKind.f64.nearest (d.zones[i].data.length : Int)⟩ := by simp [oneC, hn, List.getD_eq_getElem?_getD, hg]
  have hm : (cmdL d r).map cs = (placeL d (recB r).length).map cs ++ [[V.val (.int .i64 1), .val (.int .i64 i), .lit 1 ((recB r).map cs)]] := by simp [cmdL, hn]
  have hlen : (cmdL d r).length = (placeL d (recB r).length).length + 1 := by simp [cmdL]
  simp [F_log_one, Dm1, e1, decX_cs, decX_map, hl, h2, hn, hg]
  refine ⟨by omega, wp_loop (OneI d (cmdL d r) (oneC d r)) (cmdL d r).length (IW.of ⟨0, d, 0, cs r, [], by omega, rfl, by rw [hm]; simp, by rw [hlen]; simp, by simp, by simp, by simp, by simp, by rw [hc]; simp, by simp [zeroDv]⟩) fun k s m ⟨j, di, t, b1, rr, hjk, hdi, s51, s52, s53, s2, s4, s8, s11, hb⟩ => ?_⟩
  obtain ⟨bx, tips⟩ := m
  simp only at hb
  subst hb
  by_cases hj : j < (cmdL d r).length
  · have hjg : (cmdL d r)[j]? = some (cmdL d r)[j] := List.getElem?_eq_getElem hj
    have w1 := IntWalk.i64_in ((j : Int) + 1) (by omega)
    obtain ⟨a, b, ha, hb, hab⟩ := run_step hd j hj
    rw [hdi] at ha
    cases ha
    simp [F_log_one_L0, Dm1, zeroDv, s51, s52, s53, s2, s4, s8, hj, hjg, w1, decX_cs, decX_map, hb]
    refine ⟨k - 1, by omega, IW.of ⟨j + 1, b, t, b1, _, by omega, hab, by simpa using s51, by simpa using s52, by simp, by simpa using s2, by simpa using s4, by simp, by simpa using s11, by rfl⟩⟩
  · have e : (cmdL d r).take j = cmdL d r := List.take_of_length_le (by omega)
    rw [e] at hdi
    have : di = d' := Option.some.inj (hdi.symm.trans hd)
    subst this
    simp [F_log_one_L0, zeroDv, s51, s52, s53, s2, s4, s8, s11, hj, clean_cs]
end Go.Av

namespace Go.Av.Pl
def appR : Dv → List Rec → Option (Dv × List Cx × Int)
  | d, [] => some (d, [], 0)
  | d, r :: l => (one1 d r).bind fun R => if R.2.2 ≠ 0 then some (R.1, [], R.2.2) else (appR R.1 l).map fun Q => (Q.1, R.2.1 :: Q.2.1, Q.2.2)
end Go.Av.Pl
namespace Go.Av
open Enc (enc dec)
open Cel (cs dc)
open Go.Proofs Pl

@[simp] def sp_dLimit (d : Dv) (n : Int) : Option (V × List Tip) := if d.zones.length ≤ 2 ^ 40 ∧ d.zones.all (fun z => decide (z.data.length ≤ 2 ^ 30)) = true ∧ d.zones ≠ [] then some (enc { d with left := n }, []) else none
theorem sp_dLimit_ok : EOk Tryz.prog n_dev_Limit (sp2 sp_dLimit) := sp2_ok fun d n r h => by
  simp only [sp_dLimit] at h
  split at h <;> cases h
  rename_i hc
  exact c_dLimit d n ⟨hc.1, fun z hz => by simpa using List.all_eq_true.1 hc.2.1 z hz⟩ hc.2.2
@[simp] def sp_lOne (d : Dv) (r : Rec) : Option (V × List Tip) := (one1 d r).map fun R => (.tuple [enc R.1, enc R.2.1, enc R.2.2], [])
theorem sp_lOne_ok : EOk Tryz.prog n_log_one (sp2 sp_lOne) := sp2_ok fun d c r h => by
  simp only [sp_lOne, Option.map_eq_some_iff] at h
  obtain ⟨R, hR, rfl⟩ := h
  exact c_lOne d c R hR
def Do1 : Orc := (Orc.nil.add n_dev_Limit (sp2 sp_dLimit)).add n_log_one (sp2 sp_lOne)
theorem Do1_ok : OOk Tryz.prog Do1 := (OOk.nil.add sp_dLimit_ok).add sp_lOne_ok
def AppI (d : Dv) (l : List Rec) (k : Nat) (s : Nat → V) (m : Mem) : Prop :=
  ∃ (i : Nat) (di : Dv) (p : List Cx) (t : Nat) (b0 : List V) (r : List (List V)) (tips : List Tip), i + k = l.length ∧ appR d l = (appR di (l.drop i)).map (fun Q => (Q.1, p ++ Q.2.1, Q.2.2)) ∧ p.length ≤ i ∧ s 14 = .lit 3 (l.map cs) ∧ s 15 = .val (.int .i64 l.length) ∧ s 16 = .val (.int .i64 i) ∧ s 4 = .ptr 1 0 ∧
    s 5 = .row t 1 (p.map cs) ∧ m = ⟨b0 :: cs di :: r, tips⟩ ∧ tips[t]? = some (71, 1, p.length)
theorem c_lAppend (d : Dv) (l : List Rec) (hs : DSm d) (hne : d.zones ≠ []) (hl : l.length ≤ 2 ^ 30) (R : Dv × List Cx × Int) (h : appR d l = some R) : Pure Tryz.prog n_log_Append [enc d, enc l] (.tuple [enc R.1, enc R.2.1, enc R.2.2]) [] := by
  refine Pure.ofC Do1_ok hm F_log_Append_ok (by simp [F_log_Append]) (by simp [V.res, V.res1]) ?_
  have hz : d.zones.all (fun z => decide (z.data.length ≤ 2 ^ 30)) = true := List.all_eq_true.2 fun z hz => by simpa using hs.z z hz
  have hsn := hs.n
  simp only [Nat.reducePow] at hz hsn hl
  simp [F_log_Append, Do1, decX_map, hsn, hne]
  simp at hz
  refine ⟨hz, wp_loop (AppI d l) l.length (IW.of ⟨0, d, [], 0, cs d, [], [(71, 1, 0)], by omega, by simp, by simp, by simp, by simp, by simp, by simp, by simp, by simp, by simp⟩) fun k s m ⟨i, di, p, t, b0, r, tips, hik, hap, hpl, s14, s15, s16, s4, s5, hm, ht⟩ => ?_⟩
  subst hm
  rw [h] at hap
  by_cases hi : i < l.length
  · have hg : l[i]? = some l[i] := List.getElem?_eq_getElem hi
    have w1 := IntWalk.i64_in ((i : Int) + 1) (by omega)
    rw [List.drop_eq_getElem_cons hi] at hap
    cases h1 : one1 di l[i] with
    | none => simp [appR, h1] at hap
    | some Q =>
      simp only [appR, h1, Option.bind_some] at hap
      by_cases he : Q.2.2 = 0
      · simp only [he, ne_eq, not_true_eq_false, if_false] at hap
        simp [F_log_Append_L0, Do1, s14, s15, s16, s4, s5, hi, hg, w1, decX_cs, decX_map, h1, he, ht]
        refine ⟨by omega, k - 1, by omega, IW.of ⟨i + 1, Q.1, p ++ [Q.2.1], t, b0, _, _, by omega, ?_, by simp; omega, by simpa using s14, by simpa using s15, by simp, by simpa using s4, by simp, by rfl, by rw [List.getElem?_set_self (lt_of_some ht)]; simp⟩⟩
        rw [h, hap, Option.map_map]
        congr 1
        funext Q2
        simp
      · simp only [he, ne_eq, not_false_eq_true, if_true, Option.map_some, Option.some.injEq] at hap
        subst hap
        simp [F_log_Append_L0, Do1, s14, s15, s16, s4, s5, hi, hg, w1, decX_cs, decX_map, h1, he, clean_cs]
  · rw [List.drop_eq_nil_of_le (by omega)] at hap
    simp only [appR, Option.map_some, List.append_nil, Option.some.injEq] at hap
    subst hap
    simp [F_log_Append_L0, s14, s15, s16, s4, s5, hi, clean_cs]
end Go.Av

namespace Go.Av.Pl
def zAdd (z : Zo) (s : Int) (b : List UInt8) : Zo := { z with data := z.data ++ b, st := zFill (z.data ++ b).length s 1 }
def zEnd (z : Zo) : Zo := { z with st := 3 }
/-- A device that does commands. -/
structure DG (d : Dv) (k : Nat) : Prop where
  ok : dOk d = true
  dn : d.down = false
  lf : d.left = -1
  dd : 0 ≤ d.done ∧ d.done ≤ k
  op : stN 1 d.zones ≤ 3

theorem cnt_set (p : Zo → Bool) : ∀ (l : List Zo) (i : Nat) (hi : i < l.length) (z : Zo), (l.set i z).countP p + (p l[i]).toNat = l.countP p + (p z).toNat
  | a :: l, 0, hi, z => by
    simp only [List.set_cons_zero, List.countP_cons, List.getElem_cons_zero]
    cases p a <;> cases p z <;> simp <;> omega
  | a :: l, i + 1, hi, z => by
    have := cnt_set p l i (by simpa using hi) z
    simp only [List.set_cons_succ, List.countP_cons, List.getElem_cons_succ]
    omega
theorem stN_set (q : Int) (l : List Zo) (i : Nat) (hi : i < l.length) (z : Zo) : stN q (l.set i z) + (if l[i].st = q then 1 else 0) = stN q l + (if z.st = q then 1 else 0) := by
  have := cnt_set (fun z => decide (z.st = q)) l i hi z
  unfold stN
  by_cases h1 : l[i].st = q <;> by_cases h2 : z.st = q <;> simp [h1, h2] at this ⊢ <;> omega
theorem dOk_iff {d : Dv} : dOk d = true ↔ (∀ z ∈ d.zones, zOk z d.size = true) ∧ 0 < d.zones.length ∧ d.zones.length ≤ 64 ∧ 0 < d.size ∧ d.size ≤ 1048576 := by
  simp only [dOk, Bool.and_eq_true, Bool.not_eq_true', decide_eq_true_eq, List.any_eq_false]
  constructor
  · rintro ⟨h1, h2⟩
    exact ⟨fun z hz => by simpa using h1 z hz, h2⟩
  · rintro ⟨h1, h2⟩
    exact ⟨fun z hz => by simpa using h1 z hz, h2⟩
theorem zOk_iff {z : Zo} {n : Int} : zOk z n = true ↔ (1 ≤ n ∧ n ≤ 1048576 ∧ (z.data.length : Int) ≤ n ∧ 0 ≤ z.la ∧ z.la ≤ z.data.length ∧ 0 ≤ z.rs ∧ z.rs ≤ 1073741824) ∧
    ((z.st = 0 ∧ z.data.length = 0) ∨ ((z.st = 1 ∨ z.st = 2) ∧ 0 < z.data.length ∧ (z.data.length : Int) < n) ∨ z.st = 3) := by
  simp only [zOk, Bool.and_eq_true, decide_eq_true_eq]
  refine and_congr_right fun _ => ?_
  by_cases h0 : z.st = 0
  · simp [h0]
  · by_cases h1 : z.st = 1
    · simp [h1, zTakes]
    · by_cases h2 : z.st = 2
      · simp [h2, zTakes]
      · simp [h0, h1, h2, zTakes]
theorem zRoom_pos {z : Zo} {n k : Int} (hk : 0 < k) (h : k ≤ zRoom z n) : zOk z n = true ∧ zTakes z = true ∧ k + z.data.length ≤ n := by
  unfold zRoom at h
  split at h
  · rename_i hc
    exact ⟨hc.1, hc.2, by omega⟩
  · omega
theorem zAdd_ok {z : Zo} {n : Int} {b : List UInt8} (hb : b ≠ []) (h : (b.length : Int) ≤ zRoom z n) : zOk (zAdd z n b) n = true ∧ ((zAdd z n b).st = 1 ∨ (zAdd z n b).st = 3 ∧ ((zAdd z n b).data.length : Int) = n) := by
  have hb0 : 0 < b.length := List.length_pos_iff.2 hb
  obtain ⟨h1, h2, h3⟩ := zRoom_pos (by omega) h
  have h4 := zOk_iff.1 h1
  have hne : ¬ (z.data ++ b).length = 0 := by rw [List.length_append]; omega
  by_cases hf : ((z.data ++ b).length : Int) = n
  · have e : zAdd z n b = { z with data := z.data ++ b, st := 3 } := by simp only [zAdd, zFill]; rw [if_neg hne, if_pos hf]
    rw [e]
    refine ⟨zOk_iff.2 ⟨⟨h4.1.1, h4.1.2.1, ?_, h4.1.2.2.2.1, ?_, h4.1.2.2.2.2.2.1, h4.1.2.2.2.2.2.2⟩, .inr (.inr rfl)⟩, .inr ⟨rfl, hf⟩⟩
    · simp; omega
    · have := h4.1.2.2.2.2.1
      simp
      omega
  · have e : zAdd z n b = { z with data := z.data ++ b, st := 1 } := by simp only [zAdd, zFill]; rw [if_neg hne, if_neg hf]
    rw [e]
    have hl : ((z.data ++ b).length : Int) = z.data.length + b.length := by simp
    refine ⟨zOk_iff.2 ⟨⟨h4.1.1, h4.1.2.1, ?_, h4.1.2.2.2.1, ?_, h4.1.2.2.2.2.2.1, h4.1.2.2.2.2.2.2⟩, .inr (.inl ⟨.inl rfl, ?_, ?_⟩)⟩, .inl rfl⟩
    · simp; omega
    · have := h4.1.2.2.2.2.1
      simp
      omega
    · simp; omega
    · simp only
      omega
theorem zApp_ok {z : Zo} {n : Int} {b : List UInt8} (hb : b ≠ []) (h : (b.length : Int) ≤ zRoom z n) : zApp z n b = (zAdd z n b, 0) := by
  have hb0 : 0 < b.length := List.length_pos_iff.2 hb
  obtain ⟨h1, h2, h3⟩ := zRoom_pos (by omega) h
  unfold zApp
  rw [if_neg (by simp [h1, hb]), if_pos h]
  rfl
theorem dOk_set {d : Dv} (h : dOk d = true) {i : Nat} {z : Zo} (hz : zOk z d.size = true) (l : Int) (w : Bool) (k : Int) : dOk ⟨d.size, d.zones.set i z, l, w, k⟩ = true := by
  have h := dOk_iff.1 h
  refine dOk_iff.2 ⟨fun y hy => ?_, by simpa using h.2⟩
  rcases List.mem_or_eq_of_mem_set hy with hy | rfl
  · exact h.1 y hy
  · exact hz
/-- An append that is done. -/
theorem do_app {d : Dv} {k : Nat} (hg : DG d k) (hk : k ≤ 2 ^ 62) {i : Nat} (hi : i < d.zones.length) {b : List UInt8} (hb : b ≠ []) (hbl : b.length ≤ 2 ^ 30) (hr : (b.length : Int) ≤ zRoom d.zones[i] d.size) (ho : d.zones[i].st = 1 ∨ stN 1 d.zones < 3) :
    dDoR d ⟨1, i, b⟩ = some (dDid d (d.zones.set i (zAdd d.zones[i] d.size b))) ∧ DG (dDid d (d.zones.set i (zAdd d.zones[i] d.size b))) (k + 1) := by
  have hc : dCmd 1 d d.zones[i] b = (zAdd d.zones[i] d.size b, 0) := by
    simp only [dCmd, if_true]
    rw [if_neg (by rintro ⟨h1, h2⟩; rcases ho with h | h <;> first | exact h1 h | omega), zApp_ok hb hr]
  refine ⟨?_, ?_⟩
  · have hz : dDoZ d ⟨1, i, b⟩ = some (zAdd d.zones[i] d.size b) := by
      simp only [dDoZ, Int.toNat_natCast, List.getElem?_eq_getElem hi, Option.bind_some, hc]
      rw [if_pos ⟨by omega, by omega, by omega, trivial⟩]
    unfold dDoR
    rw [if_pos ⟨hg.ok, hg.dn, by rw [hg.lf]; omega, by rw [hg.lf]; omega, by have := hg.dd; omega, hbl⟩, hz]
    rfl
  · obtain ⟨h1, h2⟩ := zAdd_ok hb hr
    refine ⟨dOk_set hg.ok h1 _ _ _, hg.dn, ?_, ?_, ?_⟩
    · simp only [dDid, dLeft, hg.lf]
      rfl
    · have := hg.dd
      simp only [dDid]
      omega
    · have h3 := stN_set 1 d.zones i hi (zAdd d.zones[i] d.size b)
      have h4 := hg.op
      show stN 1 (d.zones.set i (zAdd d.zones[i] d.size b)) ≤ 3
      have h5 : (if (zAdd d.zones[i] d.size b).st = 1 then 1 else 0) ≤ 1 := by split <;> omega
      rcases ho with h | h
      · rw [if_pos h] at h3
        omega
      · omega
/-- A finish that is done. -/
theorem do_fin {d : Dv} {k : Nat} (hg : DG d k) (hk : k ≤ 2 ^ 62) {j : Nat} (hj : j < d.zones.length) (ho : d.zones[j].st = 1) :
    dDoR d ⟨3, j, []⟩ = some (dDid d (d.zones.set j (zEnd d.zones[j]))) ∧ DG (dDid d (d.zones.set j (zEnd d.zones[j]))) (k + 1) ∧ stN 1 (d.zones.set j (zEnd d.zones[j])) + 1 = stN 1 d.zones := by
  have hc : dCmd 3 d d.zones[j] [] = (zEnd d.zones[j], 0) := by
    have : zFin d.zones[j] = (zEnd d.zones[j], 0) := by
      unfold zFin
      rw [if_pos ⟨by simp [zTakes, ho], by rw [ho]; decide⟩]
      rfl
    simp [dCmd, this]
  have h3 := stN_set 1 d.zones j hj (zEnd d.zones[j])
  rw [if_pos ho, if_neg (by simp [zEnd])] at h3
  refine ⟨?_, ?_, by omega⟩
  · have hz : dDoZ d ⟨3, j, []⟩ = some (zEnd d.zones[j]) := by
      simp only [dDoZ, Int.toNat_natCast, List.getElem?_eq_getElem hj, Option.bind_some, hc]
      rw [if_pos ⟨by omega, by omega, by omega, trivial⟩]
    unfold dDoR
    rw [if_pos ⟨hg.ok, hg.dn, by rw [hg.lf]; omega, by rw [hg.lf]; omega, by have := hg.dd; omega, by simp⟩, hz]
    rfl
  · have h1 := zOk_iff.1 ((dOk_iff.1 hg.ok).1 _ (List.getElem_mem hj))
    refine ⟨dOk_set (z := zEnd d.zones[j]) hg.ok (zOk_iff.2 ⟨h1.1, .inr (.inr rfl)⟩) _ _ _, hg.dn, ?_, ?_, ?_⟩
    · simp only [dDid, dLeft, hg.lf]
      rfl
    · have := hg.dd
      simp only [dDid]
      omega
    · have h4 := hg.op
      show stN 1 (d.zones.set j (zEnd d.zones[j])) ≤ 3
      omega
end Go.Av.Pl

namespace Go.Av.Pl
theorem zIdx_none {pr : Zo → Bool} {l : List Zo} (h : zIdx pr l < 0) : ∀ z ∈ l, pr z = false := by
  unfold zIdx at h
  split at h
  · omega
  · rename_i e
    intro z hz
    simpa using List.findIdx?_eq_none_iff.1 e z hz
theorem DG.mono {d : Dv} {k k' : Nat} (h : DG d k) (hk : k ≤ k') : DG d k' := ⟨h.ok, h.dn, h.lf, ⟨h.dd.1, by have := h.dd.2; omega⟩, h.op⟩
theorem recB_ne {r : Rec} (h : recOk r = true) : recB r ≠ [] := by
  intro e
  have := recB_length h
  rw [e] at this
  simp at this
theorem one_bad {d : Dv} (hl : d.zones.length ≤ 2 ^ 40) {r : Rec} (hr : recOk r = false) : one1 d r = some (d, ⟨0, 0⟩, 50) := by
  unfold one1
  rw [if_pos hl, if_pos hr]
/-- Behind a record. -/
structure OneS (d : Dv) (k : Nat) (b : List UInt8) (d' : Dv) (i : Nat) (hi : i < d.zones.length) : Prop where
  room : (b.length : Int) ≤ zRoom d.zones[i] d.size
  good : DG d' (k + 2)
  size : d'.size = d.size
  zones : (d.zones[i].st = 1 ∧ d'.zones = d.zones.set i (zAdd d.zones[i] d.size b)) ∨
    (d.zones[i].st = 0 ∧ (∀ z ∈ d.zones, z.st = 1 → zRoom z d.size < b.length) ∧ (d'.zones = d.zones.set i (zAdd d.zones[i] d.size b) ∨
      ∃ (j : Nat) (hj : j < d.zones.length), j ≠ i ∧ d.zones[j].st = 1 ∧ stN 1 d.zones = 3 ∧ d'.zones = (d.zones.set j (zEnd d.zones[j])).set i (zAdd d.zones[i] d.size b)))
theorem one_good {d : Dv} {k : Nat} (hg : DG d k) (hk : k + 2 ≤ 2 ^ 62) {r : Rec} (hr : recOk r = true) :
    (placeE d (recB r).length ≠ 0 ∧ one1 d r = some (d, ⟨0, 0⟩, placeE d (recB r).length)) ∨
    ∃ (i : Nat) (hi : i < d.zones.length) (d' : Dv), one1 d r = some (d', ⟨FloatKind.f64.nearest (i : Int), FloatKind.f64.nearest (d.zones[i].data.length : Int)⟩, 0) ∧ OneS d k (recB r) d' i hi := by
  have hd := dOk_iff.1 hg.ok
  have hl : d.zones.length ≤ 2 ^ 40 := by omega
  have hr' : ¬ recOk r = false := by simp [hr]
  by_cases hp : placeE d (recB r).length = 0
  · refine .inr ?_
    have hb := recB_ne hr
    have hbl := recB_length hr
    have hbody := (recOk_iff.1 hr).2.2.2.2
    have hb0 : 0 < (recB r).length := by omega
    have hn1 : ¬ (dOk d = false ∨ ((recB r).length : Int) < 1 ∨ d.size < (recB r).length) := by
      intro h
      unfold placeE at hp
      rw [if_pos h] at hp
      cases hp
    have hone : ∀ d', oneD d r = some d' → one1 d r = some (d', oneC d r, 0) := fun d' h => by
      unfold one1
      rw [if_pos hl, if_neg hr', if_neg (by simp [hp]), h]
      rfl
    by_cases h1 : 0 ≤ dFirst d 1 (recB r).length
    · obtain ⟨i, hi, e, hpr⟩ := zIdx_lt h1
      simp only [Bool.and_eq_true, decide_eq_true_eq] at hpr
      have eN : placeN d (recB r).length = i := by unfold placeN; rw [if_neg hn1, if_pos h1]; exact e
      have eL : placeL d (recB r).length = [] := by unfold placeL; rw [if_neg hn1, if_pos h1]
      obtain ⟨k1, k2⟩ := do_app hg (by omega) hi hb (by omega) hpr.2 (.inl hpr.1)
      refine ⟨i, hi, _, (hone _ (by unfold oneD cmdL; rw [eL, eN]; simp only [List.nil_append, List.foldlM_cons, List.foldlM_nil]; rw [k1]; rfl)).trans ?_, ⟨hpr.2, k2.mono (by omega), rfl, .inl ⟨hpr.1, rfl⟩⟩⟩
      unfold oneC
      rw [eN, Int.toNat_natCast, List.getD_eq_getElem?_getD, List.getElem?_eq_getElem hi]
      rfl
    · have h1' : dFirst d 1 (recB r).length < 0 := by omega
      have h2 : 0 ≤ dFirst d 0 (recB r).length := by
        refine Classical.byContradiction fun h2 => ?_
        unfold placeE at hp
        rw [if_neg hn1, if_neg h1, if_pos (by omega)] at hp
        cases hp
      have h2' : ¬ dFirst d 0 (recB r).length < 0 := by omega
      obtain ⟨i, hi, e, hpr⟩ := zIdx_lt h2
      simp only [Bool.and_eq_true, decide_eq_true_eq] at hpr
      have eN : placeN d (recB r).length = i := by unfold placeN; rw [if_neg hn1, if_neg h1, if_neg h2']; exact e
      have hno : ∀ z ∈ d.zones, z.st = 1 → zRoom z d.size < (recB r).length := fun z hz hs => by
        have := zIdx_none h1' z hz
        simp [hs] at this
        omega
      have eC : oneC d r = ⟨FloatKind.f64.nearest (i : Int), FloatKind.f64.nearest (d.zones[i].data.length : Int)⟩ := by
        unfold oneC
        rw [eN, Int.toNat_natCast, List.getD_eq_getElem?_getD, List.getElem?_eq_getElem hi]
        rfl
      by_cases h3 : 3 ≤ stN 1 d.zones
      · have h30 := hg.op
        have hex : 0 ≤ dFirst d 1 0 := by
          refine Classical.byContradiction fun hx => ?_
          have hall := zIdx_none (show dFirst d 1 0 < 0 by omega)
          have : stN 1 d.zones = 0 := by
            unfold stN
            rw [List.countP_eq_zero]
            intro z hz hs
            have hs' : z.st = 1 := by simpa using hs
            have := hall z hz
            simp only [hs', decide_true, Bool.true_and, decide_eq_false_iff_not] at this
            apply this
            unfold zRoom
            split
            · have := zOk_iff.1 (hd.1 z hz)
              omega
            · omega
          omega
        obtain ⟨j, hj, ej, hpj⟩ := zIdx_lt hex
        simp only [Bool.and_eq_true, decide_eq_true_eq] at hpj
        have hji : j ≠ i := by
          rintro rfl
          rw [hpr.1] at hpj
          exact absurd hpj.1 (by decide)
        have eL : placeL d (recB r).length = [⟨3, j, []⟩] := by unfold placeL; rw [if_neg hn1, if_neg h1, if_neg h2', if_pos h3]; rw [show dFirst d 1 0 = (j : Int) from ej]
        obtain ⟨f1, f2, f3⟩ := do_fin hg (by omega) hj hpj.1
        have hi' : i < (dDid d (d.zones.set j (zEnd d.zones[j]))).zones.length := by simpa [dDid] using hi
        have eg : (dDid d (d.zones.set j (zEnd d.zones[j]))).zones[i] = d.zones[i] := by
          exact List.getElem_set_ne hji (show i < (d.zones.set j (zEnd d.zones[j])).length by simpa using hi)
        obtain ⟨k1, k2⟩ := do_app f2 (by omega) hi' hb (by omega) (by rw [eg]; exact hpr.2) (.inr (by show stN 1 (d.zones.set j _) < 3; omega))
        rw [eg] at k1 k2
        refine ⟨i, hi, _, (hone _ (by unfold oneD cmdL; rw [eL, eN]; simp only [List.cons_append, List.nil_append, List.foldlM_cons, List.foldlM_nil]; rw [f1]; simp only [Option.bind_eq_bind, Option.bind_some]; rw [k1]; rfl)).trans (by rw [eC]), ⟨hpr.2, k2.mono (by omega), rfl, .inr ⟨hpr.1, hno, .inr ⟨j, hj, hji, hpj.1, by omega, rfl⟩⟩⟩⟩
      · have eL : placeL d (recB r).length = [] := by unfold placeL; rw [if_neg hn1, if_neg h1, if_neg h2', if_neg h3]
        obtain ⟨k1, k2⟩ := do_app hg (by omega) hi hb (by omega) hpr.2 (.inr (by omega))
        exact ⟨i, hi, _, (hone _ (by unfold oneD cmdL; rw [eL, eN]; simp only [List.nil_append, List.foldlM_cons, List.foldlM_nil]; rw [k1]; rfl)).trans (by rw [eC]), ⟨hpr.2, k2.mono (by omega), rfl, .inr ⟨hpr.1, hno, .inl rfl⟩⟩⟩
  · refine .inl ⟨hp, ?_⟩
    unfold one1
    rw [if_pos hl, if_neg hr', if_pos hp]
end Go.Av.Pl

namespace Go.Av
open Enc (enc dec)
open Cel (cs dc)
open Go.Proofs Pl

@[simp] def sp_lApp (d : Dv) (l : List Rec) : Option (V × List Tip) := if (d.zones.length ≤ 2 ^ 40 ∧ d.zones.all (fun z => decide (z.data.length ≤ 2 ^ 30)) = true ∧ d.zones ≠ []) ∧ l.length ≤ 2 ^ 30 then (appR d l).map fun R => (.tuple [enc R.1, enc R.2.1, enc R.2.2], []) else none
theorem sp_lApp_ok : EOk Tryz.prog n_log_Append (sp2 sp_lApp) := sp2_ok fun d l r h => by
  simp only [sp_lApp] at h
  split at h
  · rename_i hc
    simp only [Option.map_eq_some_iff] at h
    obtain ⟨R, hR, rfl⟩ := h
    exact c_lAppend d l ⟨hc.1.1, fun z hz => by simpa using List.all_eq_true.1 hc.1.2.1 z hz⟩ hc.1.2.2 hc.2 R hR
  · cases h
@[simp] def sp_dNew (a b : Int) : Option (V × List Tip) := some (.tuple [enc (dNew a b), enc (dNewE a b)], [])
theorem sp_dNew_ok : EOk Tryz.prog n_dev_New (sp2 sp_dNew) := sp2_ok fun a b r h => by cases h; exact c_dNew a b
@[simp] def sp_lEmpty (d : Dv) : Option (V × List Tip) := if d.zones.length ≤ 2 ^ 40 then some (enc (stN 0 d.zones : Int), []) else none
@[simp] def sp_true : Option (V × List Tip) := some (.val (.bool true), [])
theorem dg_app {d : Dv} {k : Nat} (h : DG d k) : d.zones.length ≤ 2 ^ 40 ∧ d.zones.all (fun z => decide (z.data.length ≤ 2 ^ 30)) = true ∧ d.zones ≠ [] := by
  obtain ⟨h1, h2⟩ := dOk_sm h.ok
  exact ⟨h1.n, List.all_eq_true.2 fun z hz => by simpa using h1.z z hz, h2⟩
end Go.Av

namespace Go.Av.Pl
structure Fnd where
  rcd : Rec
  zone : Int
  at_ : Int
deriving DecidableEq
end Go.Av.Pl
namespace Go.Av
open Enc (enc dec)
open Cel (cs dc)
open Go.Proofs Pl

instance : Cel Fnd where
  sz := 5
  cs x := [enc x.rcd.kind, enc x.rcd.seq, enc x.rcd.body, enc x.zone, enc x.at_]
  dc l := match l with
    | [a, b, c, d, e] => (dec a).bind fun a => (dec b).bind fun b => (dec c).bind fun c => (dec d).bind fun d => (dec e).bind fun e => some ⟨⟨a, b, c⟩, d, e⟩
    | _ => none
  len _ := rfl
  ok l x h := by
    split at h
    · simp only [Option.bind_eq_some_iff] at h
      obtain ⟨a, ha, b, hb, c, hc, d, hd, e, he, h⟩ := h
      cases h
      exact wk_dec (wk_dec (wk_dec (wk_dec (wk_dec wk_nil he) hd) hc) hb) ha
    · cases h
  cl x := by simp [clean_cs]
  de x := by simp [decX_map]
instance : Enc Fnd := encC
@[simp] theorem sz_fnd : Cel.sz Fnd = 5 := rfl
@[simp] theorem cs_fnd (x : Fnd) : cs x = [.val (.int .i64 x.rcd.kind), .val (.int .i64 x.rcd.seq), .lit 1 (x.rcd.body.map cs), .val (.int .i64 x.zone), .val (.int .i64 x.at_)] := rfl
@[simp] theorem enc_fnd (x : Fnd) : (enc x : V) = .agg [.val (.int .i64 x.rcd.kind), .val (.int .i64 x.rcd.seq), .lit 1 (x.rcd.body.map cs), .val (.int .i64 x.zone), .val (.int .i64 x.at_)] := rfl
@[simp] theorem dc_fnd (a b c d e : V) : (dc [a, b, c, d, e] : Option Fnd) = (dec a).bind fun a => (dec b).bind fun b => (dec c).bind fun c => (dec d).bind fun d => (dec e).bind fun e => some ⟨⟨a, b, c⟩, d, e⟩ := rfl
@[simp] theorem dec_fnd (l : List V) : (dec (.agg l) : Option Fnd) = dc l := rfl

/-- An iterator that runs to its end, over a list. -/
theorem YRun.list {α : Type} {Y : YRel} {L : Nat} {K : Mem → Prop} (arg : α → List V) (S : List α → Mem) (all : List α)
    (hstep : ∀ acc x r, all = acc ++ x :: r → Y L (arg x) (S acc) (.val (.bool true)) (S (acc ++ [x]))) (hK : ∀ acc x r, all = acc ++ x :: r → K (S (acc ++ [x]))) : YRun Y L K (all.map arg) (S []) (S all) := by
  have key : ∀ rest acc, all = acc ++ rest → YRun Y L K (rest.map arg) (S acc) (S all) := by
    intro rest
    induction rest with
    | nil => intro acc h; rw [h, List.append_nil]; exact .done
    | cons x r ih => intro acc h; exact .next (hstep acc x r h) (hK acc x r h) (ih (acc ++ [x]) (by simp [h]))
  exact key all [] rfl
/-- An iterator that looks for one. -/
theorem YRun.find {α β : Type} {Y : YRel} {L : Nat} {K : Mem → Prop} (arg : α → List V) (g : α → Option β) (m0 : Mem) (m1 : β → Mem) (hK : K m0) : ∀ (all : List α), (∀ x ∈ all, Y L (arg x) m0 (.val (.bool (g x).isNone)) ((g x).elim m0 m1)) →
    YRun Y L K (all.map arg) m0 ((all.findSome? g).elim m0 m1)
  | [], _ => .done
  | x :: r, h1 => by
    have h := h1 x (List.mem_cons_self ..)
    rw [List.findSome?_cons]
    cases hg : g x with
    | none =>
      rw [hg] at h
      exact .next h hK (YRun.find arg g m0 m1 hK r (fun x hx => h1 x (List.mem_cons_of_mem _ hx)))
    | some y =>
      rw [hg] at h
      exact .stop h
/-- The first so many, with their places, from behind. -/
def bwTo {α : Type} (l : List α) : Nat → List (Nat × α)
  | 0 => []
  | k + 1 => match l[k]? with
    | some x => (k, x) :: bwTo l k
    | none => bwTo l k
theorem bwTo_snd {α : Type} (l : List α) : ∀ k, k ≤ l.length → (bwTo l k).map (·.2) = (l.take k).reverse
  | 0, _ => by simp [bwTo]
  | k + 1, h => by
    have hk : k < l.length := by omega
    rw [bwTo, List.getElem?_eq_getElem hk]
    simp only [List.map_cons, bwTo_snd l k (by omega)]
    rw [List.take_add_one, List.getElem?_eq_getElem hk, Option.toList_some, List.reverse_append]
    rfl
def bwArg {α : Type} [Cel α] (p : Nat × α) : List V := [.val (.int .i64 p.1), .agg (cs p.2)]
def BwK (a : Nat) (l : List Fnd) (m : Mem) : Prop := m.boxes[a]? = some [.lit 5 (l.map cs)]
def BwI (Y : YRel) (L a : Nat) (l : List Fnd) (m1 : Mem) (k : Nat) (s : Nat → V) (m : Mem) : Prop :=
  k ≤ l.length ∧ s 0 = .yld L ∧ s 1 = .ptr a 0 ∧ s 3 = .val (.int .i64 ((k : Int) - 1)) ∧ BwK a l m ∧ YRun Y L (BwK a l) ((bwTo l k).map bwArg) m m1
theorem c_backward1 (Y : YRel) (L a : Nat) (l : List Fnd) (hl : l.length ≤ 2 ^ 40) (m m1 : Mem) (hK : BwK a l m)
    (h : YRun Y L (BwK a l) ((bwTo l l.length).map bwArg) m m1) : LocY Tryz.prog Y n_slices_Backward_Found_1 [.yld L, .ptr a 0] m (.tuple []) m1 := by
  refine LocY.ofX OOk.nil hm F_slices_Backward_Found_1_ok (by simp [F_slices_Backward_Found_1]) ?_
  have w1 := IntWalk.i64_in ((l.length : Int) - 1) (by omega)
  have hK' : m.boxes[a]? = some [.lit 5 (l.map cs)] := hK
  simp [F_slices_Backward_Found_1, hK', w1]
  refine wp_loop (BwI Y L a l m1) l.length (IW.of ⟨by omega, by simp, by simp, by simp, hK, h⟩) fun k s m ⟨hk, s0, s1, s3, k1, hr⟩ => ?_
  unfold BwK at k1
  cases k with
  | zero =>
    have hm1 : m = m1 := by
      cases hr
      rfl
    simp [F_slices_Backward_Found_1_L0, s0, s1, s3, k1]
    exact hm1
  | succ k =>
    have hk2 : k < l.length := by omega
    rw [bwTo, List.getElem?_eq_getElem hk2, List.map_cons] at hr
    have w2 := IntWalk.i64_in ((k : Int) - 1) (by omega)
    have e0 : ((k + 1 : Nat) : Int) - 1 = k := by omega
    rw [e0] at s3
    simp [F_slices_Backward_Found_1_L0, s0, s1, s3, k1, hk2]
    cases hr with
    | stop hy =>
      refine ⟨_, _, hy, ?_⟩
      simp
    | next hy hk3 h2 =>
      refine ⟨_, _, hy, ?_⟩
      simp [s3, w2]
      exact ⟨k, by omega, IW.of ⟨by omega, by simp [s0], by simp [s1], by simp, hk3, h2⟩⟩
def sp_bw : List V → Mem → Option (V × Mem)
  | [v], m => (dec v : Option (List Fnd)).bind fun l => some (.func n_slices_Backward_Found_1 [.ptr m.boxes.length 0], ⟨m.boxes ++ [[.lit 5 (l.map cs)]], m.tips⟩)
  | _, _ => none
theorem sp_bw_ok : EOkL Tryz.prog n_slices_Backward_Found sp_bw := by
  intro args m v m' h
  unfold sp_bw at h
  split at h
  · rename_i a
    simp only [Option.bind_eq_some_iff] at h
    obtain ⟨l, hl, h⟩ := h
    cases h
    refine Loc.wk (wk_dec wk_nil hl) (Loc.ofX OOk.nil hm F_slices_Backward_Found_ok (by simp [F_slices_Backward_Found]) ?_)
    simp [F_slices_Backward_Found]
  · cases h
end Go.Av

namespace Go.Av
open Enc (enc dec)
open Cel (cs dc)
open Go.Proofs Pl

@[simp] theorem isObj_ref {k : Rk} {b : Nat} : isObj [.ref k b] = false := rfl
mutual
theorem clean_under (k j : Nat) : ∀ v : V, v.isClean = true → v.under k j = true
  | .val _, _ => rfl
  | .agg l, h => cleanL_under k j l h
  | .lit _ xs, h => cleanX_under k j xs h
  | .full _ xs, h => cleanX_under k j xs h
  | .emp _, _ => rfl
  | .any, _ => rfl
  | .row _ _ _, h => by simp [V.isClean] at h
  | .ptr _ _, h => by simp [V.isClean] at h
  | .yld _, h => by simp [V.isClean] at h
  | .ref _ _, h => by simp [V.isClean] at h
  | .eptr cs, h => cleanL_under k j cs h
  | .func _ cap, h => cleanL_under k j cap h
  | .iface _ v, h => clean_under k j v h
  | .tuple l, h => cleanL_under k j l h
theorem cleanL_under (k j : Nat) : ∀ l : List V, cleanL l = true → underL k j l = true
  | [], _ => rfl
  | v :: l, h => by
    simp only [cleanL, Bool.and_eq_true] at h
    simp only [underL, clean_under k j v h.1, cleanL_under k j l h.2]; rfl
theorem cleanX_under (k j : Nat) : ∀ l : List (List V), cleanX l = true → underX k j l = true
  | [], _ => rfl
  | e :: l, h => by
    simp only [cleanX, Bool.and_eq_true] at h
    simp only [underX, cleanL_under k j e h.1, cleanX_under k j l h.2]; rfl
end
theorem under_map {α : Type} [Cel α] (k j : Nat) (l : List α) : underX k j (l.map cs) = true := cleanX_under k j _ (clean_cs l)
def kvClean (kvs : List (Int × V)) : Prop := ∀ p ∈ kvs, p.2.isClean = true
theorem kvClean.under {kvs : List (Int × V)} (h : kvClean kvs) (k j : Nat) : underL k j (mpV kvs) = true := by
  have : ∀ kvs : List (Int × V), kvClean kvs → cleanL (kvs.map fun p => V.tuple [.val (.int .i64 p.1), p.2]) = true := by
    intro kvs
    induction kvs with
    | nil => intro _; rfl
    | cons p l ih =>
      intro h
      simp only [List.map_cons, cleanL, V.isClean, h p (List.mem_cons_self ..), ih fun q hq => h q (List.mem_cons_of_mem _ hq)]; rfl
  simp only [mpV, underL, V.under, cleanL_under k j _ (this kvs h)]; rfl
theorem kvClean.put {kvs : List (Int × V)} (h : kvClean kvs) (q : Int) {v : V} (hv : v.isClean = true) : kvClean (mpPut kvs q v) := by
  induction kvs with
  | nil => intro p hp; simp [mpPut] at hp; subst hp; exact hv
  | cons a l ih =>
    intro p hp
    rw [mpPut] at hp
    split at hp
    · rcases List.mem_cons.1 hp with rfl | hp
      · exact hv
      · exact h p (List.mem_cons_of_mem _ hp)
    · rcases List.mem_cons.1 hp with rfl | hp
      · exact h _ (List.mem_cons_self ..)
      · exact ih (fun q hq => h q (List.mem_cons_of_mem _ hq)) p hp
/-- The records by their numbers, as they are put. -/
def kvF (kvs : List (Int × V)) (acc : List (Nat × Fnd)) : List (Int × V) := acc.foldl (fun kv p => mpPut kv p.2.rcd.seq (enc p.2.rcd)) kvs
theorem kvF_clean : ∀ (acc : List (Nat × Fnd)) {kvs : List (Int × V)}, kvClean kvs → kvClean (kvF kvs acc)
  | [], _, h => h
  | p :: l, _, h => kvF_clean l (h.put _ (Enc.cl p.2.rcd))
/-- The first record of a number. -/
def lookF (l : List Fnd) (q : Int) : Option Rec := (l.find? fun f => f.rcd.seq == q).map (·.rcd)
theorem kvF_at (l : List Fnd) (q : Int) : ∀ (k : Nat) (kvs : List (Int × V)), k ≤ l.length → mpAt (kvF kvs (bwTo l k)) q = match lookF (l.take k) q with
    | some r => some (enc r)
    | none => mpAt kvs q
  | 0, kvs, _ => rfl
  | k + 1, kvs, h => by
    have hk : k < l.length := by omega
    rw [bwTo, List.getElem?_eq_getElem hk]
    show mpAt (kvF (mpPut kvs l[k].rcd.seq (enc l[k].rcd)) (bwTo l k)) q = _
    rw [kvF_at l q k _ (by omega)]
    have e : l.take (k + 1) = l.take k ++ [l[k]] := by rw [List.take_add_one, List.getElem?_eq_getElem hk]; rfl
    rw [e, lookF, lookF, List.find?_append]
    cases hf : (l.take k).find? fun f => f.rcd.seq == q with
    | some f => simp
    | none =>
      simp only [Option.map_none, Option.none_or, mpAt_put]
      by_cases hq : q = l[k].rcd.seq
      · simp [hq]
      · simp [hq, Ne.symm hq]
theorem kvF_look (l : List Fnd) (q : Int) : mpAt (kvF [] (bwTo l l.length)) q = (lookF l q).map enc := by
  rw [kvF_at l q l.length [] (Nat.le_refl _), List.take_length]
  cases lookF l q <;> rfl
end Go.Av

namespace Go.Av.Pl
/-- One more, behind those that are not later. -/
def insS (acc : List Fnd) (x : Fnd) : List Fnd := acc.filter (fun y => decide (y.rcd.seq ≤ x.rcd.seq)) ++ x :: acc.filter (fun y => decide (x.rcd.seq < y.rcd.seq))
def sortF (l : List Fnd) : List Fnd := l.foldl insS []
def SortedF (l : List Fnd) : Prop := l.Pairwise fun a b => a.rcd.seq ≤ b.rcd.seq
def cmpZ (x y : Int) : Int := if x < y then -1 else if y < x then 1 else 0
theorem insS_length (acc : List Fnd) (x : Fnd) : (insS acc x).length = acc.length + 1 := by
  unfold insS
  rw [List.length_append, List.length_cons]
  have : ∀ l : List Fnd, (l.filter (fun y => decide (y.rcd.seq ≤ x.rcd.seq))).length + (l.filter (fun y => decide (x.rcd.seq < y.rcd.seq))).length = l.length := by
    intro l
    induction l with
    | nil => rfl
    | cons a l ih =>
      by_cases h : a.rcd.seq ≤ x.rcd.seq
      · have h' : ¬ x.rcd.seq < a.rcd.seq := by omega
        simp [h, h']; omega
      · have h' : x.rcd.seq < a.rcd.seq := by omega
        simp [h, h']; omega
  have := this acc
  omega
theorem sortF_snoc (l : List Fnd) (x : Fnd) : sortF (l ++ [x]) = insS (sortF l) x := by simp [sortF]
theorem sortF_length : ∀ (l : List Fnd) , (sortF l).length = l.length := by
  intro l
  have : ∀ (l acc : List Fnd), (l.foldl insS acc).length = acc.length + l.length := by
    intro l
    induction l with
    | nil => intro acc; simp
    | cons a l ih => intro acc; rw [List.foldl_cons, ih, insS_length, List.length_cons]; omega
  simpa [sortF] using this l []
theorem insS_mem {acc : List Fnd} {x y : Fnd} : y ∈ insS acc x ↔ y ∈ acc ∨ y = x := by
  unfold insS
  simp only [List.mem_append, List.mem_filter, List.mem_cons, decide_eq_true_eq]
  constructor
  · rintro (⟨h, _⟩ | h | ⟨h, _⟩)
    · exact .inl h
    · exact .inr h
    · exact .inl h
  · rintro (h | h)
    · by_cases hh : y.rcd.seq ≤ x.rcd.seq
      · exact .inl ⟨h, hh⟩
      · exact .inr (.inr ⟨h, by omega⟩)
    · exact .inr (.inl h)
theorem insS_sorted {acc : List Fnd} (x : Fnd) (h : SortedF acc) : SortedF (insS acc x) := by
  unfold SortedF insS at *
  rw [List.pairwise_append]
  refine ⟨h.filter _, ?_, ?_⟩
  · rw [List.pairwise_cons]
    refine ⟨fun y hy => ?_, h.filter _⟩
    simp only [List.mem_filter, decide_eq_true_eq] at hy
    omega
  · intro a ha b hb
    simp only [List.mem_filter, decide_eq_true_eq] at ha
    rcases List.mem_cons.1 hb with rfl | hb
    · exact ha.2
    · simp only [List.mem_filter, decide_eq_true_eq] at hb
      omega
theorem sortF_sorted (l : List Fnd) : SortedF (sortF l) := by
  have : ∀ (l acc : List Fnd), SortedF acc → SortedF (l.foldl insS acc) := by
    intro l
    induction l with
    | nil => intro acc h; exact h
    | cons a l ih => intro acc h; exact ih _ (insS_sorted a h)
  exact this l [] List.Pairwise.nil
/-- Where one is put among those that are sorted. -/
theorem insS_at {A : List Fnd} {x : Fnd} (h : SortedF A) {j : Nat} (hj : j ≤ A.length) (h1 : ∀ y ∈ A.drop j, x.rcd.seq < y.rcd.seq) (h2 : ∀ (h0 : 0 < j), (A[j - 1]'(by omega)).rcd.seq ≤ x.rcd.seq) : insS A x = A.take j ++ x :: A.drop j := by
  have e : A = A.take j ++ A.drop j := (List.take_append_drop j A).symm
  have h3 : ∀ y ∈ A.take j, y.rcd.seq ≤ x.rcd.seq := by
    intro y hy
    by_cases h0 : 0 < j
    · obtain ⟨k, hk, rfl⟩ := List.getElem_of_mem hy
      have hk2 : k < j := by simp only [List.length_take] at hk; omega
      rw [List.getElem_take]
      have := h2 h0
      by_cases hkj : k = j - 1
      · subst hkj; exact this
      · have := List.pairwise_iff_getElem.1 h k (j - 1) (by omega) (by omega) (by omega)
        omega
    · have : j = 0 := by omega
      subst this
      simp at hy
  unfold insS
  have f1 : A.filter (fun y => decide (y.rcd.seq ≤ x.rcd.seq)) = A.take j := by
    conv => lhs; rw [e]
    rw [List.filter_append, List.filter_eq_self.2 (fun y hy => by simpa using h3 y hy), List.filter_eq_nil_iff.2 (fun y hy => by have := h1 y hy; simp; omega), List.append_nil]
  have f2 : A.filter (fun y => decide (x.rcd.seq < y.rcd.seq)) = A.drop j := by
    conv => lhs; rw [e]
    rw [List.filter_append, List.filter_eq_nil_iff.2 (fun y hy => by have := h3 y hy; simp; omega), List.filter_eq_self.2 (fun y hy => by simpa using h1 y hy), List.nil_append]
  rw [f1, f2]
end Go.Av.Pl
namespace Go.Av
open Enc (enc dec)
open Cel (cs dc)
open Go.Proofs Pl

theorem c_isNaN (n : Int) : Pure Tryz.prog n_cmp_isNaN_int [enc n] (enc false) [] := by
  refine Pure.ofC OOk.nil hm F_cmp_isNaN_int_ok (by simp [F_cmp_isNaN_int]) rfl ?_
  simp [F_cmp_isNaN_int]
def Dw1 : Orc := Orc.nil.add n_cmp_isNaN_int (sp1 fun _ : Int => some (enc false, []))
theorem Dw1_ok : OOk Tryz.prog Dw1 := OOk.nil.add (sp1_ok fun n r h => by cases h; exact c_isNaN n)
theorem c_cmp (a b : Int) : Pure Tryz.prog n_cmp_Compare_int [enc a, enc b] (enc (cmpZ a b)) [] := by
  refine Pure.ofC Dw1_ok hm F_cmp_Compare_int_ok (by simp [F_cmp_Compare_int]) rfl ?_
  by_cases h1 : a < b
  · simp [F_cmp_Compare_int, Dw1, cmpZ, h1]
  · by_cases h2 : b < a
    · simp [F_cmp_Compare_int, Dw1, cmpZ, h1, h2]
    · simp [F_cmp_Compare_int, Dw1, cmpZ, h1, h2]
def Dw2 : Orc := Orc.nil.add n_cmp_Compare_int (sp2 fun a b : Int => some (enc (cmpZ a b), []))
theorem Dw2_ok : OOk Tryz.prog Dw2 := OOk.nil.add (sp2_ok fun a b r h => by cases h; exact c_cmp a b)
theorem c_all1 (a b : Fnd) : Pure Tryz.prog n_log_All_1 [enc a, enc b] (enc (cmpZ a.rcd.seq b.rcd.seq)) [] := by
  refine Pure.ofC Dw2_ok hm F_log_All_1_ok (by simp [F_log_All_1]) rfl ?_
  simp [F_log_All_1, Dw2]
@[simp] def sp_all1 (a b : Fnd) : Option (V × List Tip) := some (enc (cmpZ a.rcd.seq b.rcd.seq), [])
def Dw3 : Orc := Orc.nil.add n_log_All_1 (sp2 sp_all1)
theorem Dw3_ok : OOk Tryz.prog Dw3 := OOk.nil.add (sp2_ok fun a b r h => by cases h; exact c_all1 a b)
/-- The cells of records. -/
def fC (l : List Fnd) : List V := (l.map cs).flatten
theorem cs5 (z : Fnd) : (cs z : List V).length = 5 := rfl
theorem fC_cons (z : Fnd) (l : List Fnd) : fC (z :: l) = cs z ++ fC l := rfl
theorem fC_app (a b : List Fnd) : fC (a ++ b) = fC a ++ fC b := by simp [fC]
theorem fC_length : ∀ (l : List Fnd), (fC l).length = l.length * 5
  | [] => rfl
  | z :: l => by rw [fC_cons, List.length_append, fC_length l, cs5, List.length_cons]; omega
theorem fC_split (l : List Fnd) (i : Nat) (hi : i < l.length) : fC l = fC (l.take i) ++ (cs l[i] ++ fC (l.drop (i + 1))) := by
  have : l = l.take i ++ l[i] :: l.drop (i + 1) := by simp
  rw [← fC_cons, ← fC_app]
  exact congrArg fC this
theorem fC_take_len (l : List Fnd) (i : Nat) (hi : i < l.length) : (fC (l.take i)).length = i * 5 := by rw [fC_length, List.length_take, Nat.min_eq_left (by omega)]
theorem fC_drop (l : List Fnd) (i k : Nat) (hi : i < l.length) : (fC l).drop (i * 5 + k) = (cs l[i] ++ fC (l.drop (i + 1))).drop k := by
  rw [fC_split l i hi, ← fC_take_len l i hi, List.drop_append, List.drop_eq_nil_of_le (by omega), Nat.add_sub_cancel_left]
  rfl
theorem fC_set (l : List Fnd) (i : Nat) (hi : i < l.length) (z : Fnd) : (fC l).take (i * 5) ++ cs z ++ (fC l).drop (i * 5 + 5) = fC (l.set i z) := by
  rw [fC_drop l i 5 hi]
  have h1 : (fC l).take (i * 5) = fC (l.take i) := by rw [fC_split l i hi, ← fC_take_len l i hi, List.take_left']; rfl
  have h2 : (cs l[i] ++ fC (l.drop (i + 1))).drop 5 = fC (l.drop (i + 1)) := by rw [← cs5 l[i], List.drop_left']; rfl
  rw [h1, h2, List.append_assoc, ← fC_cons, ← fC_app, List.set_eq_take_append_cons_drop, if_pos hi]
theorem fC_obj (l : List Fnd) : isObj (fC l) = false := by
  cases l with
  | nil => rfl
  | cons z l => rfl
theorem chunk_fC (l : List Fnd) : chunkV 5 l.length (fC l) = l.map cs := by
  have := chunkV_of (sz := 5) (l.map cs) (by intro e he; obtain ⟨z, _, rfl⟩ := List.mem_map.1 he; rfl) []
  simpa [fC] using this
/-- One on its way down, among those that are sorted. -/
def curF (A : List Fnd) (x : Fnd) (R : List Fnd) (j : Nat) : List Fnd := A.take j ++ x :: (A.drop j ++ R)
theorem curF_length (A : List Fnd) (x : Fnd) (R : List Fnd) {j : Nat} (hj : j ≤ A.length) : (curF A x R j).length = A.length + 1 + R.length := by
  simp only [curF, List.length_append, List.length_take, List.length_cons, List.length_drop]; omega
theorem curF_at (A : List Fnd) (x : Fnd) (R : List Fnd) {j : Nat} (hj : j ≤ A.length) : (curF A x R j)[j]? = some x := by
  unfold curF
  rw [List.getElem?_append_right (by simp; omega)]
  simp [Nat.min_eq_left hj]
theorem curF_prev (A : List Fnd) (x : Fnd) (R : List Fnd) {j : Nat} (hj : j + 1 ≤ A.length) : (curF A x R (j + 1))[j]? = some (A[j]'(by omega)) := by
  unfold curF
  rw [List.getElem?_append_left (by simp; omega), List.getElem?_take, if_pos (by omega), List.getElem?_eq_getElem (by omega)]
theorem curF_swap (A : List Fnd) (x : Fnd) (R : List Fnd) {j : Nat} (hj : j + 1 ≤ A.length) : ((curF A x R (j + 1)).set (j + 1) (A[j]'(by omega))).set j x = curF A x R j := by
  have hA : A.take (j + 1) = A.take j ++ [A[j]'(by omega)] := by rw [List.take_add_one, List.getElem?_eq_getElem (by omega)]; rfl
  have hD : A.drop j = A[j]'(by omega) :: A.drop (j + 1) := List.drop_eq_getElem_cons (by omega)
  have hl : (A.take j).length = j := by simp; omega
  unfold curF
  rw [hD, hA, List.append_assoc, List.set_append_right _ _ (by omega), List.set_append_right _ _ (by omega)]
  simp [hl]
  rw [List.drop_eq_getElem_cons (show j < A.length by omega)]
  rfl
end Go.Av

namespace Go.Av
open Enc (enc dec)
open Cel (cs dc)
open Go.Proofs Pl

/-- The memory of a sort. -/
def srtM (m : Mem) (b : Nat) (l : List Fnd) : Mem := ⟨m.boxes.set b (fC l), m.tips⟩
def InsI (m0 : Mem) (b : Nat) (A : List Fnd) (x : Fnd) (R : List Fnd) (N n : Nat) (k : Nat) (s : Nat → V) (m : Mem) : Prop :=
  k ≤ A.length ∧ (∀ y ∈ A.drop k, x.rcd.seq < y.rcd.seq) ∧ s 0 = .ref (.sli 0 5 N) b ∧ s 1 = .val (.int .i64 0) ∧ s 2 = .val (.int .i64 n) ∧ s 3 = .func n_log_All_1 [] ∧ s 8 = .val (.int .i64 A.length) ∧ s 9 = .val (.int .i64 k) ∧ m = srtM m0 b (curF A x R k)
def OutI (m0 : Mem) (b : Nat) (l : List Fnd) (N n : Nat) (k : Nat) (s : Nat → V) (m : Mem) : Prop :=
  ∃ i : Nat, i + k = n ∧ 1 ≤ i ∧ s 0 = .ref (.sli 0 5 N) b ∧ s 1 = .val (.int .i64 0) ∧ s 2 = .val (.int .i64 n) ∧ s 3 = .func n_log_All_1 [] ∧ s 8 = .val (.int .i64 i) ∧ m = srtM m0 b (sortF (l.take i) ++ l.drop i)
theorem c_insertion (m : Mem) (b : Nat) (l : List Fnd) (n : Nat) (hb : m.boxes[b]? = some (fC l)) (hn : n ≤ l.length) (hn1 : 1 ≤ n) (hl : l.length ≤ 2 ^ 30) :
    Loc Tryz.prog n_slices_insertionSortCmpFunc_Found [.ref (.sli 0 5 l.length) b, .val (.int .i64 0), .val (.int .i64 n), .func n_log_All_1 []] m (.tuple []) (srtM m b (sortF (l.take n) ++ l.drop n)) := by
  refine Loc.ofX Dw3_ok hm F_slices_insertionSortCmpFunc_Found_ok (by simp [F_slices_insertionSortCmpFunc_Found]) ?_
  have hbl := lt_of_some hb
  have f0 : ∀ (x y : List V), (m.boxes.set b x).set b y = m.boxes.set b y := fun x y => List.set_set ..
  have f1 : ∀ (x : List V), (m.boxes.set b x)[b]? = some x := fun x => List.getElem?_set_self hbl
  have w0 : IntKind.i64.wrap (0 + 1) = 1 := by decide
  have w00 : IntKind.i64.wrap 1 = 1 := by decide
  simp [F_slices_insertionSortCmpFunc_Found, w0]
  have e0 : sortF (l.take 1) ++ l.drop 1 = l := by
    cases l with
    | nil => rfl
    | cons a l => rfl
  refine wp_loop (OutI m b l l.length n) (n - 1) (IW.of ⟨1, by omega, by omega, by simp, by simp, by simp, by simp, by simp [w00], ?_⟩) fun k s m' ⟨i, hik, hi1, s0, s1, s2, s3, s8, hm'⟩ => ?_
  · rw [e0]
    unfold srtM
    rw [setC_self hb]
  subst hm'
  by_cases hi : i < n
  · have hil : i < l.length := by omega
    have hiI : (i : Int) < n := by omega
    have w1 := IntWalk.i64_in ((i : Int) + 1) (by omega)
    have hA := sortF_length (l.take i)
    rw [List.length_take, Nat.min_eq_left (by omega)] at hA
    have hcur : sortF (l.take i) ++ l.drop i = curF (sortF (l.take i)) l[i] (l.drop (i + 1)) i := by
      have e1 : (sortF (l.take i)).take i = sortF (l.take i) := List.take_of_length_le (by omega)
      have e2 : (sortF (l.take i)).drop i = [] := List.drop_eq_nil_of_le (by omega)
      unfold curF
      rw [e1, e2, List.nil_append, ← List.drop_eq_getElem_cons hil]
    have hs := sortF_sorted (l.take i)
    have hnext : sortF (l.take (i + 1)) = insS (sortF (l.take i)) l[i] := by
      rw [List.take_add_one, List.getElem?_eq_getElem hil]
      exact sortF_snoc _ _
    generalize hAA : sortF (l.take i) = A at hA hcur hs hnext
    rw [hcur]
    simp [F_slices_insertionSortCmpFunc_Found_L1, s0, s1, s2, s3, s8, hiI, hi]
    refine wp_loop (InsI m b A l[i] (l.drop (i + 1)) l.length n) i (IW.of ⟨by omega, by rw [List.drop_eq_nil_of_le (by omega)]; simp, by simpa using s0, by simpa using s1, by simpa using s2, by simpa using s3, by simpa [hA] using s8, by simp, rfl⟩) fun j s' m'' ⟨hj, hgt, t0, t1, t2, t3, t8, t9, hm''⟩ => ?_
    subst hm''
    have hend : ∀ (h1 : ∀ (h0 : 0 < j), (A[j - 1]'(by omega)).rcd.seq ≤ l[i].rcd.seq), curF A l[i] (l.drop (i + 1)) j = sortF (l.take (i + 1)) ++ l.drop (i + 1) := fun h1 => by
      rw [hnext, insS_at hs hj hgt h1]
      simp [curF]
    cases j with
    | zero =>
      have he := hend (fun h => absurd h (by omega))
      simp [F_slices_insertionSortCmpFunc_Found_L0, t0, t1, t2, t3, t8, t9, hA, w1]
      exact ⟨k - 1, by omega, IW.of ⟨i + 1, by omega, by omega, by simpa using t0, by simpa using t1, by simpa using t2, by simpa using t3, by simp, by rw [he]⟩⟩
    | succ j =>
      have hjl : j < A.length := by omega
      have hcl := curF_length A l[i] (l.drop (i + 1)) hj
      have hx := curF_at A l[i] (l.drop (i + 1)) hj
      have hp := curF_prev A l[i] (l.drop (i + 1)) hj
      have hsw := curF_swap A l[i] (l.drop (i + 1)) hj
      have hN : A.length + 1 + (l.drop (i + 1)).length = l.length := by rw [List.length_drop]; omega
      generalize hC : curF A l[i] (l.drop (i + 1)) (j + 1) = C at hcl hx hp hsw hend
      have c1 : j + 1 < C.length := by omega
      have c2 : j < C.length := by omega
      have hx' : C[j + 1] = l[i] := by rw [List.getElem?_eq_getElem c1] at hx; exact Option.some.inj hx
      have hp' : C[j] = A[j] := by rw [List.getElem?_eq_getElem c2] at hp; exact Option.some.inj hp
      have g1 := fC_drop C (j + 1) 0 c1
      have g2 := fC_drop C j 0 c2
      have g3 := fC_set C (j + 1) c1 A[j]
      have g4 := fC_set (C.set (j + 1) A[j]) j (by simpa using c2) l[i]
      rw [hsw] at g4
      have g5 : (j + 1) * 5 + 5 ≤ (fC C).length := by rw [fC_length]; omega
      have g6 : j * 5 + 5 ≤ (fC C).length := by omega
      have g7 : j * 5 + 5 ≤ (fC (C.set (j + 1) A[j])).length := by rw [fC_length, List.length_set]; omega
      rw [hx'] at g1
      rw [hp'] at g2
      simp at g1 g2 g3 g4
      have q1 : (0 : Int) < (j : Int) + 1 := by omega
      have q2 : (j : Int) + 1 < l.length := by omega
      have q3 : (j : Int) < l.length := by omega
      have q4 : (0 : Int) ≤ (j : Int) + 1 := by omega
      have q5 : ((j : Int) + 1).toNat = j + 1 := by omega
      have w3 : IntKind.i64.wrap (j : Int) = j := IntWalk.i64_in _ (by omega)
      by_cases hlt : l[i].rcd.seq < A[j].rcd.seq
      · have hc : cmpZ l[i].rcd.seq A[j].rcd.seq = -1 := by simp [cmpZ, hlt]
        simp [F_slices_insertionSortCmpFunc_Found_L0, Dw3, srtM, t0, t1, t2, t3, t8, t9, f0, f1, fC_obj, g1, g2, g3, g4, g5, g6, g7, q1, q2, q3, q4, q5, w3, hc]
        refine ⟨by omega, j, by omega, IW.of (show InsI m b A l[i] (l.drop (i + 1)) l.length n j _ _ from ⟨by omega, fun y hy => ?_, by simpa using t0, by simpa using t1, by simpa using t2, by simpa using t3, by simpa using t8, by simp, rfl⟩)⟩
        rw [List.drop_eq_getElem_cons hjl] at hy
        rcases List.mem_cons.1 hy with rfl | hy
        · exact hlt
        · exact hgt y hy
      · have hc : ¬ cmpZ l[i].rcd.seq A[j].rcd.seq < 0 := by
          unfold cmpZ
          rw [if_neg hlt]
          split <;> omega
        have he := hend (fun _ => by simp only [Nat.add_sub_cancel]; omega)
        simp [F_slices_insertionSortCmpFunc_Found_L0, Dw3, srtM, t0, t1, t2, t3, t8, t9, f0, f1, fC_obj, g1, g2, q1, q2, q3, q4, q5, w3, hc, w1, g5, g6]
        exact ⟨k - 1, by omega, IW.of (show OutI m b l l.length n _ _ _ from ⟨i + 1, by omega, by omega, by simpa using t0, by simpa using t1, by simpa using t2, by simpa using t3, by simp [hA, w1], by rw [← he]; rfl⟩)⟩
  · have : i = n := by omega
    subst this
    simp [F_slices_insertionSortCmpFunc_Found_L1, s0, s1, s2, s3, s8]
theorem c_insertion0 (m : Mem) (x : V) (a : Int) (ha : 0 ≤ a ∧ a ≤ 2 ^ 30) (f : V) : Loc Tryz.prog n_slices_insertionSortCmpFunc_Found [x, .val (.int .i64 a), .val (.int .i64 a), f] m (.tuple []) m := by
  refine Loc.ofX Dw3_ok hm F_slices_insertionSortCmpFunc_Found_ok (by simp [F_slices_insertionSortCmpFunc_Found]) ?_
  have w1 := IntWalk.i64_in (a + 1) (by omega)
  simp [F_slices_insertionSortCmpFunc_Found, w1]
  refine wp_loop (fun _ s m' => s 2 = .val (.int .i64 a) ∧ s 8 = .val (.int .i64 (a + 1)) ∧ m' = m) 0 (IW.of ⟨by simp, by simp, rfl⟩) fun k s m' ⟨s2, s8, hm'⟩ => ?_
  subst hm'
  have h1 : ¬ a + 1 < a := by omega
  simp [F_slices_insertionSortCmpFunc_Found_L1, s2, s8, h1]
theorem oneL' {P : Program} {n : FuncId} {A : List V} {M M' : Mem} {v : V} (h : Loc P n A M v M') : ∃ sp, EOkL P n sp ∧ sp A M = some (v, M') := by
  classical
  refine ⟨fun args m => if args = A ∧ m = M then some (v, M') else none, fun args m v1 m1 h1 => ?_, if_pos ⟨rfl, rfl⟩⟩
  simp only at h1
  split at h1
  · rename_i hc
    obtain ⟨rfl, rfl⟩ := hc
    cases h1
    exact h
  · cases h1
theorem twoL {P : Program} {n : FuncId} {A A2 : List V} {M M' M2 M2' : Mem} {v v2 : V} (h : Loc P n A M v M') (h2 : Loc P n A2 M2 v2 M2') (hne : A2 ≠ A) : ∃ sp, EOkL P n sp ∧ sp A M = some (v, M') ∧ sp A2 M2 = some (v2, M2') := by
  classical
  refine ⟨fun args m => if args = A ∧ m = M then some (v, M') else if args = A2 ∧ m = M2 then some (v2, M2') else none, fun args m v1 m1 h1 => ?_, if_pos ⟨rfl, rfl⟩, ?_⟩
  · simp only at h1
    split at h1
    · rename_i hc
      obtain ⟨rfl, rfl⟩ := hc
      cases h1
      exact h
    · split at h1
      · rename_i hc
        obtain ⟨rfl, rfl⟩ := hc
        cases h1
        exact h2
      · cases h1
  · simp [hne]
theorem c_stable (m : Mem) (b : Nat) (l : List Fnd) (hb : m.boxes[b]? = some (fC l)) (hl : l.length ≤ 20) (hl1 : 1 ≤ l.length) :
    Loc Tryz.prog n_slices_stableCmpFunc_Found [.ref (.sli 0 5 l.length) b, .val (.int .i64 l.length), .func n_log_All_1 []] m (.tuple []) (srtM m b (sortF l)) := by
  have h1 := c_insertion m b l l.length hb (Nat.le_refl _) hl1 (by omega)
  rw [List.take_length, List.drop_length, List.append_nil] at h1
  obtain ⟨sp, hsp, e1, e2⟩ := twoL h1 (c_insertion0 (srtM m b (sortF l)) (.ref (.sli 0 5 l.length) b) 20 (by decide) (.func n_log_All_1 [])) (by simp)
  refine Loc.ofX (OOk.nil.addL hsp) hm F_slices_stableCmpFunc_Found_ok (by simp [F_slices_stableCmpFunc_Found]) ?_
  simp at e1 e2
  by_cases h20 : l.length = 20
  · rw [h20] at e1 e2
    simp at e1 e2
    simp [F_slices_stableCmpFunc_Found, h20]
    refine wp_loop (fun k s m' => s 0 = .ref (.sli 0 5 20) b ∧ s 1 = .val (.int .i64 20) ∧ s 2 = .func n_log_All_1 [] ∧ s 6 = .val (.int .i64 20) ∧ ((k = 1 ∧ s 7 = .val (.int .i64 0) ∧ s 8 = .val (.int .i64 20) ∧ m' = m) ∨ (k = 0 ∧ s 7 = .val (.int .i64 20) ∧ s 8 = .val (.int .i64 40) ∧ m' = srtM m b (sortF l)))) 1
      (IW.of ⟨by simp, by simp, by simp, by simp, .inl ⟨rfl, by simp, by simp, rfl⟩⟩) fun k s m' ⟨s0, s1, s2, s6, hh⟩ => ?_
    have w40 : IntKind.i64.wrap (20 + 20) = 40 := by decide
    have w40' : IntKind.i64.wrap 40 = 40 := by decide
    rcases hh with ⟨rfl, s7, s8, rfl⟩ | ⟨rfl, s7, s8, rfl⟩
    · simp [F_slices_stableCmpFunc_Found_L2, s0, s1, s2, s6, s7, s8, e1, w40, w40']
      exact IW.of (show _ ∧ _ from ⟨by simpa using s0, by simpa using s1, by simpa using s2, by simpa using s6, by simp, by simp, rfl⟩)
    · simp [F_slices_stableCmpFunc_Found_L2, s0, s1, s2, s6, s7, s8, e2]
      refine wp_loop (fun _ s m' => s 1 = .val (.int .i64 20) ∧ s 6 = .val (.int .i64 20) ∧ m' = srtM m b (sortF l)) 0 (IW.of ⟨by simpa using s1, by simpa using s6, rfl⟩) fun k s m' ⟨s1, s6, hm'⟩ => ?_
      subst hm'
      simp [F_slices_stableCmpFunc_Found_L1, s1, s6]
  · have hlt : ¬ (20 : Int) ≤ l.length := by omega
    have hlt2 : ¬ (20 : Int) < l.length := by omega
    simp [F_slices_stableCmpFunc_Found]
    refine wp_loop (fun _ s m' => s 0 = .ref (.sli 0 5 l.length) b ∧ s 1 = .val (.int .i64 l.length) ∧ s 2 = .func n_log_All_1 [] ∧ s 6 = .val (.int .i64 20) ∧ s 7 = .val (.int .i64 0) ∧ s 8 = .val (.int .i64 20) ∧ m' = m) 0
      (IW.of ⟨by simp, by simp, by simp, by simp, by simp, by simp, rfl⟩) fun k s m' ⟨s0, s1, s2, s6, s7, s8, hm'⟩ => ?_
    subst hm'
    simp [F_slices_stableCmpFunc_Found_L2, s0, s1, s2, s6, s7, s8, hlt, e1]
    refine wp_loop (fun _ s m'' => s 1 = .val (.int .i64 l.length) ∧ s 6 = .val (.int .i64 20) ∧ m'' = srtM m' b (sortF l)) 0 (IW.of ⟨by simpa using s1, by simpa using s6, rfl⟩) fun k s m'' ⟨s1, s6, hm''⟩ => ?_
    subst hm''
    simp [F_slices_stableCmpFunc_Found_L1, s1, s6, hlt2]
theorem c_sortF (m : Mem) (b : Nat) (l : List Fnd) (hb : m.boxes[b]? = some (fC l)) (hl : l.length ≤ 20) (hl1 : 1 ≤ l.length) :
    Loc Tryz.prog n_slices_SortStableFunc_Found [.ref (.sli 0 5 l.length) b, .func n_log_All_1 []] m (.tuple []) (srtM m b (sortF l)) := by
  obtain ⟨sp, hsp, e⟩ := oneL' (c_stable m b l hb hl hl1)
  refine Loc.ofX (OOk.nil.addL hsp) hm F_slices_SortStableFunc_Found_ok (by simp [F_slices_SortStableFunc_Found]) ?_
  simp at e
  simp [F_slices_SortStableFunc_Found, e]
end Go.Av

namespace Go.Av.Pl
/-- How many bytes a record has that bytes begin with; it; and is it one? -/
def rdSz (b : List UInt8) : Int := recSz (leN ((b.drop 6).take 2))
def rdRc (b : List UInt8) : Rec := ⟨leN ((b.drop 4).take 2), leN ((b.drop 8).take 8), (openT (b.take (rdSz b).toNat)).drop 16⟩
def rdOk (b : List UInt8) : Bool := decide (16 ≤ b.length) && decide (leN (b.take 4) = 1196184151) && decide (leN ((b.drop 8).take 8) ≤ 4611686018427387903) && decide (¬ rdSz b = 0 ∧ rdSz b ≤ b.length) && openOk (b.take (rdSz b).toNat) && recOk (rdRc b)
/-- The records one behind the other, and where they stand. -/
def scanL : Nat → List UInt8 → Int → List (Rec × Int)
  | 0, _, _ => []
  | k + 1, b, at_ => if rdOk b = true then (rdRc b, at_) :: scanL k (b.drop (rdSz b).toNat) (at_ + rdSz b) else []
theorem leN_leB' (v : Nat) : ∀ w, leN (leB v w) = v % 256 ^ w
  | 0 => by simp [leB_zero, leN, Nat.mod_one]
  | w + 1 => by
    rw [leB_succ, leN_append, leN_leB' v w, leB_length]
    have e : leN [UInt8.ofNat (v / 256 ^ w)] = v / 256 ^ w % 256 := by simp [leN]
    rw [e, Nat.pow_succ, Nat.mod_mul]
theorem leN_of {v w : Nat} (h : v < 256 ^ w) : leN (leB v w) = v := by rw [leN_leB', Nat.mod_eq_of_lt h]
theorem rdSz_pos {b : List UInt8} (h : ¬ rdSz b = 0) : 20 ≤ rdSz b ∧ rdSz b ≤ 4116 := by
  unfold rdSz recSz at *
  split at h
  · exact absurd rfl h
  · rename_i hc
    rw [if_neg hc]
    omega
theorem rd_back {r : Rec} (h : recOk r = true) (rest : List UInt8) : rdOk (recB r ++ rest) = true ∧ rdRc (recB r ++ rest) = r ∧ rdSz (recB r ++ rest) = r.body.length + 20 := by
  have hb := recOk_iff.1 h
  have e0 : recB r = leB 1196184151 4 ++ (leB r.kind.toNat 2 ++ (leB r.body.length 2 ++ (leB r.seq.toNat 8 ++ (r.body ++ leB (crcN 0 (recH r ++ r.body)) 4)))) := by
    rw [recB, if_pos h]
    simp only [sealS, recH, List.append_assoc]
  have hl := recB_length h
  have d0 : (recB r ++ rest).take 4 = leB 1196184151 4 := by
    rw [e0, List.append_assoc, List.take_left' (leB_length _ _)]
  have d4 : (recB r ++ rest).drop 4 = leB r.kind.toNat 2 ++ (leB r.body.length 2 ++ (leB r.seq.toNat 8 ++ (r.body ++ leB (crcN 0 (recH r ++ r.body)) 4))) ++ rest := by
    rw [e0, List.append_assoc, List.drop_left' (leB_length _ _)]
  have d6 : (recB r ++ rest).drop 6 = leB r.body.length 2 ++ (leB r.seq.toNat 8 ++ (r.body ++ leB (crcN 0 (recH r ++ r.body)) 4)) ++ rest := by
    have : (recB r ++ rest).drop 6 = ((recB r ++ rest).drop 4).drop 2 := by rw [List.drop_drop]
    rw [this, d4, List.append_assoc, List.drop_left' (leB_length _ _)]
  have d8 : (recB r ++ rest).drop 8 = leB r.seq.toNat 8 ++ (r.body ++ leB (crcN 0 (recH r ++ r.body)) 4) ++ rest := by
    have : (recB r ++ rest).drop 8 = ((recB r ++ rest).drop 6).drop 2 := by rw [List.drop_drop]
    rw [this, d6, List.append_assoc, List.drop_left' (leB_length _ _)]
  have n0 : leN ((recB r ++ rest).take 4) = 1196184151 := by rw [d0, leN_of (by decide)]
  have n1 : leN (((recB r ++ rest).drop 4).take 2) = r.kind.toNat := by rw [d4, List.append_assoc, List.take_left' (leB_length _ _), leN_of (by omega)]
  have n2 : leN (((recB r ++ rest).drop 6).take 2) = r.body.length := by rw [d6, List.append_assoc, List.take_left' (leB_length _ _), leN_of (by omega)]
  have n3 : leN (((recB r ++ rest).drop 8).take 8) = r.seq.toNat := by rw [d8, List.append_assoc, List.take_left' (leB_length _ _), leN_of (by omega)]
  have hs : rdSz (recB r ++ rest) = r.body.length + 20 := by
    rw [rdSz, n2, recSz, if_neg (by omega)]
  have ht : (recB r ++ rest).take (rdSz (recB r ++ rest)).toNat = recB r := by
    rw [hs, List.take_left' (by omega)]
  have e1 : recB r = sealS (recH r ++ r.body) := by rw [recB, if_pos h]
  have hT : (recB r).take ((recB r).length - 4) = recH r ++ r.body := by
    rw [e1, sealS_length, Nat.add_sub_cancel, sealS, List.take_left']
    rfl
  have hok : openOk (recB r) = true := by
    unfold openOk
    rw [hT, ← e1]
    simp
    omega
  have hoT : openT (recB r) = recH r ++ r.body := by rw [openT, if_pos hok, hT]
  have hr : rdRc (recB r ++ rest) = r := by
    obtain ⟨k, s, b⟩ := r
    simp only at hb
    unfold rdRc
    rw [n1, n3, ht, hoT, List.drop_left' (recH_length _)]
    simp only [Rec.mk.injEq, and_true]
    exact ⟨by omega, by omega⟩
  refine ⟨?_, hr, hs⟩
  unfold rdOk
  rw [hr, h, ht, hok, n0, n3, hs]
  simp
  omega
theorem scan_back : ∀ (l : List Rec) (k : Nat) (at_ : Int), (∀ r ∈ l, recOk r = true) → l.length < k → scanL k (l.flatMap recB) at_ = (List.range l.length).map fun i => (l.getD i Rec.zero, at_ + (((l.take i).flatMap recB).length : Int))
  | [], k + 1, at_, _, _ => by
    have : rdOk [] = false := by decide
    simp [scanL, this]
  | r :: l, k + 1, at_, h, hk => by
    obtain ⟨h1, h2, h3⟩ := rd_back (h r List.mem_cons_self) (l.flatMap recB)
    have hl := recB_length (h r List.mem_cons_self)
    have ih := scan_back l k (at_ + (r.body.length + 20)) (fun x hx => h x (List.mem_cons_of_mem _ hx)) (by simpa using hk)
    rw [List.flatMap_cons, scanL, if_pos h1, h2, h3, List.drop_left' (by omega), ih, List.length_cons, List.range_succ_eq_map, List.map_cons, List.map_map]
    congr 1
    · simp
    · refine List.map_congr_left fun i _ => ?_
      simp only [Function.comp, List.take_succ_cons, List.flatMap_cons, List.length_append, hl]
      refine Prod.ext rfl ?_
      simp only
      omega
  | l, 0, _, _, hk => by omega
end Go.Av.Pl

namespace Go.Av
open Enc (enc dec)
open Cel (cs dc)
open Go.Proofs Pl

def rdV (b : List UInt8) : V := if rdOk b = true then .tuple [enc (rdRc b), enc (rdSz b), enc (0 : Int)] else .tuple [enc Rec.zero, enc (0 : Int), enc (50 : Int)]
theorem sp_zOpen_ok : EOk Tryz.prog n_crc_Open (sp1 fun b : List UInt8 => if b.length ≤ 2 ^ 40 then some (.tuple [.row 0 1 ((openT b).map cs), enc (openE b)], [(5, 1, (openT b).length)]) else none) := sp1_ok fun b r h => by
  split at h <;> cases h
  exact c_crc_Open b (by assumption)
theorem unpack_whhq {b : List UInt8} (h : 16 ≤ b.length) : unpackS [119, 104, 104, 113] (b.take 16) = some [leN (b.take 4), leN ((b.drop 4).take 2), leN ((b.drop 6).take 2), leN ((b.drop 8).take 8)] := by
  have e : okT = fun (b : List UInt8) (w : Int) => mayB 0 w && decide (w ≤ b.length) := rfl
  match b, h with
  | a1 :: a2 :: a3 :: a4 :: a5 :: a6 :: a7 :: a8 :: a9 :: a10 :: a11 :: a12 :: a13 :: a14 :: a15 :: a16 :: r, _ =>
    simp [unpackS, sizeL, okT, mayB]
def Dv1 : Orc := (((((Orc.nil.add n_le_Unpack (sp2 sp_unpack)).add n_record_Size (sp1 (fun n : Int => some (enc (recSz n), [])))).add n_crc_Open (sp1 fun b : List UInt8 => if b.length ≤ 2 ^ 40 then some (.tuple [.row 0 1 ((openT b).map cs), enc (openE b)], [(5, 1, (openT b).length)]) else none)).add n_bytes_Clone (sp1 sp_clone)).add n_record_Check (sp1 sp_rCheck))
theorem Dv1_ok : OOk Tryz.prog Dv1 := ((((OOk.nil.add sp_unpack_ok).add (sp1_ok fun n r h => by cases h; exact c_rSize n)).add sp_zOpen_ok).add sp_zclone_ok).add sp_rCheck_ok
set_option maxRecDepth 20000 in
theorem c_rRead (b : List UInt8) (hb : b.length ≤ 2 ^ 39) : Pure Tryz.prog n_record_Read [enc b] (rdV b) [] := by
  refine Pure.ofC Dv1_ok hm F_record_Read_ok (by simp [F_record_Read]) (by unfold rdV; split <;> simp [V.res, V.res1]) ?_
  by_cases h1 : 16 ≤ b.length
  · have h1' : ¬ (b.length : Int) < 16 := by omega
    have h1i : (16 : Int) ≤ b.length := by omega
    have hp := unpack_whhq h1
    have hN : unpackN [119, 104, 104, 113] (b.take 16) = [leN (b.take 4), leN ((b.drop 4).take 2), leN ((b.drop 6).take 2), leN ((b.drop 8).take 8)] := by simp only [unpackN, hp]; rfl
    have hE : unpackE [119, 104, 104, 113] (b.take 16) = 0 := by simp only [unpackE, hp]; rfl
    have lt := fun (l : List UInt8) (n : Nat) => Nat.lt_of_lt_of_le (leN_lt (l.take n)) (Nat.pow_le_pow_right (show 0 < 256 by decide) (show (l.take n).length ≤ n by simp; omega))
    have l1 := lt (b.drop 4) 2
    have l2 := lt (b.drop 6) 2
    have w1 := IntWalk.i64_in ((leN ((b.drop 4).take 2) : Nat) : Int) (by omega)
    have w2 := IntWalk.i64_in ((leN ((b.drop 6).take 2) : Nat) : Int) (by omega)
    have hlm : min 16 b.length ≤ 1099511627776 := by omega
    by_cases h2 : leN (b.take 4) = 1196184151
    · have h2i : (leN (b.take 4) : Int) = 1196184151 := by omega
      by_cases h3 : leN ((b.drop 8).take 8) ≤ 4611686018427387903
      · have h3' : ¬ (4611686018427387903 : Int) < (leN ((b.drop 8).take 8) : Nat) := by omega
        have w3 := IntWalk.i64_in ((leN ((b.drop 8).take 8) : Nat) : Int) (by omega)
        have hsz : recSz ((leN ((b.drop 6).take 2) : Nat) : Int) = rdSz b := rfl
        by_cases h4 : rdSz b = 0
        · have hno : rdOk b = false := by simp [rdOk, h4]
          simp [F_record_Read, Dv1, h1', h1i, f_whhq, hlm, hN, hE, h2i, h3', w2, hsz, h4, rdV, hno, Rec.zero]
        · obtain ⟨s1, s2⟩ := rdSz_pos h4
          by_cases h5 : (b.length : Int) < rdSz b
          · have hno : rdOk b = false := by simp [rdOk]; omega
            simp [F_record_Read, Dv1, h1', h1i, f_whhq, hlm, hN, hE, h2i, h3', w2, hsz, h4, h5, rdV, hno, Rec.zero]
          · have h5' : rdSz b ≤ b.length := by omega
            have h50 : 0 ≤ rdSz b := by omega
            have h6 : min (rdSz b).toNat b.length ≤ 1099511627776 := by omega
            by_cases h7 : openOk (b.take (rdSz b).toNat) = true
            · have e7 : openE (b.take (rdSz b).toNat) = 0 := by simp [openE, h7]
              have hTl : (openT (b.take (rdSz b).toNat)).length = (rdSz b).toNat - 4 := by
                rw [openT, if_pos h7]
                simp
                omega
              have hT16 : (16 : Int) ≤ (openT (b.take (rdSz b).toNat)).length := by rw [hTl]; omega
              have hTb : (openT (b.take (rdSz b).toNat)).length ≤ 140737488355344 := by omega
              by_cases h8 : recOk (rdRc b) = true
              · have hok : rdOk b = true := by simp [rdOk, h1, h2, h3, h4, h5', h7, h8]
                have e8 : recE ⟨leN ((b.drop 4).take 2), leN ((b.drop 8).take 8), (openT (b.take (rdSz b).toNat)).drop 16⟩ = 0 := by
                  show recE (rdRc b) = 0
                  simp [recE, h8]
                simp [F_record_Read, Dv1, h1', h1i, f_whhq, hlm, hN, hE, h2i, h3', w1, w2, w3, hsz, h4, h5, h5', h50, h6, e7, hT16, hTb, e8, decX_cs, rdV, hok, rdRc]
                omega
              · have h8' : recOk (rdRc b) = false := by simpa using h8
                have hno : rdOk b = false := by simp [rdOk, h8']
                have e8 : recE ⟨leN ((b.drop 4).take 2), leN ((b.drop 8).take 8), (openT (b.take (rdSz b).toNat)).drop 16⟩ = 50 := by
                  show recE (rdRc b) = 50
                  simp [recE, h8']
                simp [F_record_Read, Dv1, h1', h1i, f_whhq, hlm, hN, hE, h2i, h3', w1, w2, w3, hsz, h4, h5, h5', h50, h6, e7, hT16, hTb, e8, decX_cs, rdV, hno, Rec.zero]
                omega
            · have h7' : openOk (b.take (rdSz b).toNat) = false := by simpa using h7
              have e7 : openE (b.take (rdSz b).toNat) = 20 := by simp [openE, h7']
              have hno : rdOk b = false := by simp [rdOk, h7']
              simp [F_record_Read, Dv1, h1', h1i, f_whhq, hlm, hN, hE, h2i, h3', w2, hsz, h4, h5, h5', h50, h6, e7, rdV, hno, Rec.zero]
              omega
      · have h3' : (4611686018427387903 : Int) < (leN ((b.drop 8).take 8) : Nat) := by omega
        have hno : rdOk b = false := by simp [rdOk, h3]
        simp [F_record_Read, Dv1, h1', h1i, f_whhq, hlm, hN, hE, h2i, h3', rdV, hno, Rec.zero]
    · have h2i : ¬ (leN (b.take 4) : Int) = 1196184151 := by omega
      have hno : rdOk b = false := by simp [rdOk, h2]
      simp [F_record_Read, Dv1, h1', h1i, f_whhq, hlm, hN, hE, h2i, rdV, hno, Rec.zero]
  · have h1' : (b.length : Int) < 16 := by omega
    have hno : rdOk b = false := by simp [rdOk, h1]
    simp [F_record_Read, Dv1, h1', rdV, hno, Rec.zero]
end Go.Av

namespace Go.Av
open Enc (enc dec)
open Cel (cs dc)
open Go.Proofs Pl

@[simp] def sp_rRead (b : List UInt8) : Option (V × List Tip) := if b.length ≤ 2 ^ 39 then some (rdV b, []) else none
theorem sp_rRead_ok : EOk Tryz.prog n_record_Read (sp1 sp_rRead) := sp1_ok fun b r h => by
  simp only [sp_rRead] at h
  split at h <;> cases h
  exact c_rRead b (by assumption)
def Dy1 : Orc := Orc.nil.add n_record_Read (sp1 sp_rRead)
theorem Dy1_ok : OOk Tryz.prog Dy1 := OOk.nil.add sp_rRead_ok
def scV (b : List UInt8) : V := if rdOk b = true then .tuple [enc (rdRc b), enc (rdSz b), enc true] else .tuple [enc Rec.zero, enc (0 : Int), enc false]
theorem c_scan1 (m : Mem) (p q : Nat) (b : List UInt8) (a : Nat) (hp : m.boxes[p]? = some [.lit 1 (b.map cs)]) (hq : m.boxes[q]? = some [.val (.int .i64 a)]) (ha : a ≤ b.length) (hb : b.length ≤ 2 ^ 39) :
    Loc Tryz.prog n_record_Scan_1 [.ptr p 0, .ptr q 0] m (scV (b.drop a)) m := by
  refine Loc.ofC Dy1_ok hm F_record_Scan_1_ok (by simp [F_record_Scan_1]) (.inr (by unfold scV; split <;> exact ⟨_, rfl, by simp [clean_cs, Rec.zero]⟩)) m.boxes.length m.tips.length (Nat.le_refl _) (Nat.le_refl _) fun hu => ?_
  have f1 : ∀ (x : List (List V)), (m.boxes ++ x)[p]? = m.boxes[p]? := fun x => List.getElem?_append_left (lt_of_some hp)
  have f2 : ∀ (x : List (List V)), (m.boxes ++ x)[q]? = m.boxes[q]? := fun x => List.getElem?_append_left (lt_of_some hq)
  have hai : (a : Int) ≤ b.length := by omega
  have hbl : b.length - a ≤ 549755813888 := by omega
  cases hr : rdOk (b.drop a) with
  | true => simp [F_record_Scan_1, Dy1, f1, f2, hp, hq, hu, hai, hbl, rdV, scV, hr, box_new, box_set, clean_cs]
  | false => simp [F_record_Scan_1, Dy1, f1, f2, hp, hq, hu, hai, hbl, rdV, scV, hr, box_new, box_set, Rec.zero]
def ScanJ (b : List UInt8) (k : Nat) (s : Nat → V) (m : Mem) : Prop :=
  ∃ (a : Nat) (acc : List (Rec × Int)) (bx : List (List V)), a ≤ b.length ∧ b.length - a < k ∧ acc.length ≤ a ∧ scanL (b.length + 1) b 0 = acc ++ scanL k (b.drop a) a ∧ s 1 = .ptr 0 0 ∧ s 2 = .row 0 3 ((acc.map (·.1)).map cs) ∧ s 3 = .row 1 1 ((acc.map (·.2)).map cs) ∧ s 4 = .ptr 1 0 ∧
    s 5 = .func n_record_Scan_1 [.ptr 0 0, .ptr 1 0] ∧ m = ⟨[.lit 1 (b.map cs)] :: [.val (.int .i64 a)] :: bx, [(40, 3, acc.length), (3, 1, acc.length)]⟩
def scanR (b : List UInt8) : List Rec := (scanL (b.length + 1) b 0).map (·.1)
def scanP (b : List UInt8) : List Int := (scanL (b.length + 1) b 0).map (·.2)
theorem decX_u8r : ∀ {xs : List (List V)} {l : List UInt8}, decX xs = some l → xs = l.map cs
  | [], l, h => by cases h; rfl
  | e :: xs, l, h => by
    rw [decX_cons] at h
    simp only [Option.bind_eq_some_iff] at h
    obtain ⟨a, ha, r, hr, h⟩ := h
    cases h
    rw [decX_u8r hr, List.map_cons]
    congr 1
    simp only [dc_u8, dc1] at ha
    split at ha
    · rename_i v
      cases v with
      | val x => cases x with
        | int k n => cases k with
          | u8 =>
            simp only [dec_u8] at ha
            split at ha
            · rename_i hc
              cases ha
              have : ((UInt8.ofNat n.toNat).toNat : Int) = n := by rw [UInt8.toNat_ofNat']; omega
              simp only [cs_u8, this]
            · cases ha
          | _ => cases ha
        | _ => cases ha
      | _ => cases ha
    · cases ha
def sp_scan1 : List V → Mem → Option (V × Mem)
  | [.ptr p 0, .ptr q 0], m => match m.boxes[p]? with
    | some [.lit 1 xs] => (decX xs : Option (List UInt8)).bind fun b => (boxI m q).bind fun a => if 0 ≤ a ∧ a ≤ b.length ∧ b.length ≤ 2 ^ 39 then some (scV (b.drop a.toNat), m) else none
    | _ => none
  | _, _ => none
theorem sp_scan1_ok : EOkL Tryz.prog n_record_Scan_1 sp_scan1 := by
  intro args m v m' h
  unfold sp_scan1 at h
  split at h
  · split at h
    · rename_i xs hp
      simp only [Option.bind_eq_some_iff] at h
      obtain ⟨b, hb, a, ha, h⟩ := h
      split at h
      · rename_i hc
        cases h
        rw [decX_u8r hb] at hp
        have hq := boxI_some ha
        have e : ((a.toNat : Nat) : Int) = a := Int.toNat_of_nonneg hc.1
        rw [← e] at hq
        exact c_scan1 m _ _ b a.toNat hp hq (by omega) hc.2.2
      · cases h
    · cases h
  · cases h
def Dy2 : Orc := Orc.nil.addL n_record_Scan_1 sp_scan1
theorem Dy2_ok : OOk Tryz.prog Dy2 := OOk.nil.addL sp_scan1_ok
theorem c_rScan (b : List UInt8) (hb : b.length ≤ 2 ^ 38) : Pure Tryz.prog n_record_Scan [enc b] (.tuple [enc (scanR b), enc (scanP b)]) [] := by
  refine Pure.ofC Dy2_ok hm F_record_Scan_ok (by simp [F_record_Scan]) (by simp [V.res, V.res1]) ?_
  have rest : ∀ k s m, ScanJ b k s m → wp Tryz.prog noY Dy2 F_record_Scan_B0 s m (jumpQ 0 (fun s m => ∃ j, j < k ∧ IW (ScanJ b j) s m) (Fin [.tmp 2, .tmp 3] fun v m => keepN [] v (.tuple [enc (scanR b), enc (scanP b)]))) := by
    intro k s m ⟨a, acc, bx, ha, hk, hacc, hs, s1, s2, s3, s4, s5, hm⟩
    subst hm
    obtain ⟨k, rfl⟩ : ∃ k', k = k' + 1 := ⟨k - 1, by omega⟩
    have ea : sp_scan1 [.ptr 0 0, .ptr 1 0] ⟨[.lit 1 (b.map cs)] :: [.val (.int .i64 a)] :: bx, [(40, 3, acc.length), (3, 1, acc.length)]⟩ = some (scV (b.drop a), ⟨[.lit 1 (b.map cs)] :: [.val (.int .i64 a)] :: bx, [(40, 3, acc.length), (3, 1, acc.length)]⟩) := by
      simp only [sp_scan1, boxI, List.getElem?_cons_zero, List.getElem?_cons_succ, decX_cs, Option.bind_some]
      rw [if_pos ⟨by omega, by omega, by omega⟩, Int.toNat_natCast]
    cases hr : rdOk (b.drop a) with
    | false =>
      have e1 : scanL (k + 1) (b.drop a) a = [] := by rw [scanL, if_neg (by simp [hr])]
      rw [e1, List.append_nil] at hs
      simp [F_record_Scan_B0, Dy2, s1, s2, s3, s4, s5, ea, scV, hr, Rec.zero, scanR, scanP, hs]
      rw [← List.map_map, ← List.map_map]
      exact ⟨clean_cs _, clean_cs _⟩
    | true =>
      obtain ⟨q1, q2⟩ : ¬ rdSz (b.drop a) = 0 ∧ rdSz (b.drop a) ≤ (b.drop a).length := by
        simp only [rdOk, Bool.and_eq_true, decide_eq_true_eq] at hr
        exact hr.1.1.2
      obtain ⟨q3, q4⟩ := rdSz_pos q1
      rw [List.length_drop] at q2
      have e1 : scanL (k + 1) (b.drop a) a = (rdRc (b.drop a), (a : Int)) :: scanL k ((b.drop a).drop (rdSz (b.drop a)).toNat) ((a : Int) + rdSz (b.drop a)) := by rw [scanL, if_pos hr]
      rw [e1] at hs
      obtain ⟨z, hz⟩ : ∃ z : Nat, rdSz (b.drop a) = z := ⟨(rdSz (b.drop a)).toNat, by omega⟩
      have w1 := IntWalk.i64_in ((a : Int) + z) (by omega)
      rw [hz, List.drop_drop, Int.toNat_natCast] at hs
      simp [F_record_Scan_B0, Dy2, s1, s2, s3, s4, s5, ea, scV, hr, hz, w1]
      refine ⟨by omega, by omega, k, by omega, IW.of (show ScanJ b k _ _ from ⟨a + z, acc ++ [(rdRc (b.drop a), (a : Int))], _, by omega, by omega, by simp; omega, ?_, by simpa using s1, by simp, by simp, by simpa using s4, by simpa using s5, by simp; rfl⟩)⟩
      rw [hs]
      simp
  simp [F_record_Scan]
  refine wp_jumps (ScanJ b) ?_ ?_
  · simp [F_record_Scan_S0]
    refine wp_mono _ (fun e s m h => ?_) (rest (b.length + 1) _ _ ⟨0, [], [], by omega, by omega, by simp, by simp, by simp, by simp, by simp, by simp, by simp, by simp⟩)
    cases e with
    | goto l => exact ⟨h.1, h.2.elim fun j hj => ⟨j, hj.2⟩⟩
    | _ => exact h
  · intro k s m hJ
    simp [F_record_Scan_J0]
    exact rest k s m hJ
end Go.Av

namespace Go.Av
open Go.RowKit

/-- What a row's cells may be then: numbers that are no bytes, and bytes in slices. -/
def byteE : List V → Bool
  | [.val (.int .u8 _)] => true
  | _ => false
def meltV : V → Bool
  | .val (.int k _) => decide (k ≠ .u8)
  | .lit 1 ys => ys.all byteE
  | _ => false
section
variable {B : Nat} {I0 : Nat → Nat → Prop} {w0 w wst : World} {M M0 : Mp} {m : Mem}
theorem repX_bytes {M' : Mp} {w : World} : ∀ {ys : List (List V)} {h o : Nat}, ys.all byteE = true → (∀ o' y, M.I h o' → w.cell? ⟨h, o', none⟩ = some y → (∃ k, y = .int .u8 k) → M'.I h o') → RepX M w ys h o → RepX M' w ys h o
  | [], _, _, _, _, _ => trivial
  | e :: ys, h, o, hb, hI, hr => by
    simp only [List.all_cons, Bool.and_eq_true] at hb
    obtain ⟨h1, h2⟩ := hr
    refine ⟨?_, repX_bytes hb.2 hI h2⟩
    have hb1 := hb.1
    unfold byteE at hb1
    split at hb1
    · rename_i k
      obtain ⟨⟨x, k1, k2, k3, k4⟩, _⟩ := h1
      have k4' := k4
      obtain ⟨rfl, _⟩ := k4
      exact ⟨⟨_, hI _ _ k1 k2 ⟨_, rfl⟩, k2, k3, k4'⟩, trivial⟩
    · cases hb1
theorem rep_melt {M' : Mp} {w : World} {v : V} {x : Value} (hv : meltV v = true) (hI : ∀ h o y, M.I h o → w.cell? ⟨h, o, none⟩ = some y → (∃ k, y = .int .u8 k) → M'.I h o) (hr : Rep M w v x) : Rep M' w v x := by
  unfold meltV at hv
  split at hv
  · exact hr
  · rcases hr with hr | ⟨ad, c, rfl, h1, h2, h3, h4⟩
    · exact .inl hr
    · exact .inr ⟨ad, c, rfl, h1, h2, h3, repX_bytes hv (fun o' y => hI _ o' y) h4⟩
  · cases hv
theorem melt_nob {v : V} {x : Value} (hv : meltV v = true) (hr : Rep M w v x) : ¬ ∃ k, x = .int .u8 k := by
  rintro ⟨k, rfl⟩
  unfold meltV at hv
  split at hv
  · obtain ⟨h, _⟩ := hr
    cases h
    simp at hv
  · rcases hr with ⟨_, h⟩ | ⟨ad, c, h, _⟩ <;> cases h
  · cases hv
theorem BoxRep.noκ {i : Nat} {cs : List V} {ob : Obj} (h : BoxRep M i w cs ob) (hno : isObj cs = false) : M.κ i = none := by
  rcases h with ⟨h, _⟩ | ⟨h, _⟩ | ⟨fam, st, _, _, rfl⟩ | ⟨h, _⟩ | ⟨h, _⟩
  · exact h
  · exact h
  · cases st <;> simp [St.v, isObj] at hno
  · exact h
  · exact h
/-- The row's block, as a box. -/
theorem Good.melt (h : Good B I0 w0 M m w) (hI0 : ∀ (b o : Nat), I0 b o → b < B) (hE : Ext M0 M wst w) (hβ0 : M0.β = []) (hγ0 : M0.γ = []) (hI00 : ∀ (b o : Nat), M0.I b o → I0 b o) {t sz : Nat} {e : TypeId} {xs : List (List V)} {x : Value} (ht : m.tips[t]? = some (e, sz, xs.length))
    (hr : Rep M w (.row t sz xs) x) (hne : xs ≠ []) (hm : xs.flatten.all meltV = true) (hbx : ∀ cs ∈ m.boxes, isObj cs = false) :
    ∃ (g c : Nat), x = .slice (some ⟨g, 0, none⟩) xs.length c ∧ xs.length ≤ c ∧
      Good B I0 w0 { β := M.β ++ [g], γ := M.γ.set t [], I := fun b o => M.I b o ∧ b ≠ g, κ := M.κ } ⟨List.replicate m.boxes.length deadC ++ [xs.flatten], m.tips.set t (e, sz, 0)⟩ w ∧
      Ext M0 { β := M.β ++ [g], γ := M.γ.set t [], I := fun b o => M.I b o ∧ b ≠ g, κ := M.κ } wst w := by
  obtain ⟨G, hG, hx⟩ := hr
  rcases hx with ⟨h0, _⟩ | ⟨g, c, rfl, hnc, hsz, hX, hin⟩
  · exact absurd h0 hne
  have hn0 : 0 < xs.length := List.length_pos_iff.2 hne
  have hgen := h.gen t G _ hG hin
  simp only at hgen
  have hblk : (∃ cur, w.heap[g]? = some (.cells cur e (0, 0)) ∧ cur.size = c * sz) ∧ ∀ o, M.I g o → o < xs.length * sz := by
    rcases h.row t G e sz xs.length hG ht with ⟨h0, _⟩ | ⟨g1, c1, us, a1, a2, a3, a4⟩
    · omega
    · obtain ⟨_, a5⟩ := a2 _ hin
      have := a5 rfl
      cases this
      refine ⟨?_, a4⟩
      rcases a3.2 with ⟨_, b1⟩ | ⟨g2, c2, cur, b1, b2, b3, b4, b5, b6, b7⟩
      · omega
      · cases b1
        exact ⟨cur, b3, b6⟩
  obtain ⟨⟨cur, hh, hcs⟩, hIg⟩ := hblk
  have hfl : xs.flatten.length = xs.length * sz := flatten_length hsz
  have hle : xs.flatten.length ≤ cur.size := by rw [hfl, hcs]; exact Nat.mul_le_mul_right _ hnc
  have hcell : ∀ i v, xs.flatten[i]? = some v → ∃ x, cur[i]? = some x ∧ x.oneCell' = true ∧ Rep M w v x := fun i v hi => by
    obtain ⟨x, _, k2, k3, k4⟩ := hX.flat.get hi
    simp only [World.cell?, Nat.zero_add, hh] at k2
    exact ⟨x, by simpa using k2, k3, k4⟩
  have hmv : ∀ v ∈ xs.flatten, meltV v = true := fun v hv => List.all_eq_true.1 hm v hv
  have hIn : ∀ (h' o : Nat) (y : Value), M.I h' o → w.cell? ⟨h', o, none⟩ = some y → (∃ k, y = .int .u8 k) → M.I h' o ∧ h' ≠ g := by
    intro h' o y k1 k2 k3
    refine ⟨k1, ?_⟩
    rintro rfl
    have ho := hIg o k1
    rw [← hfl] at ho
    obtain ⟨x, j1, _, j3⟩ := hcell o _ (List.getElem?_eq_getElem ho)
    simp only [World.cell?, hh] at k2
    have : x = y := by
      have k2' : cur[o]? = some y := by simpa using k2
      rw [j1] at k2'
      exact Option.some.inj k2'
    subst this
    exact melt_nob (hmv _ (List.getElem_mem ho)) j3 k3
  have hκ : ∀ i, i < M.β.length → M.κ i = none := fun i hi => by
    have h1 : M.β[i]? = some M.β[i] := List.getElem?_eq_getElem hi
    have h2 : m.boxes[i]? = some (m.boxes[i]'(by rw [← h.lβ]; exact hi)) := List.getElem?_eq_getElem _
    obtain ⟨_, ob, _, hb⟩ := h.box i _ _ h1 h2
    exact hb.noκ (hbx _ (List.getElem_mem _))
  have hκn : ∀ i, M.κ i = none := fun i => by
    cases hk : M.κ i with
    | none => rfl
    | some fam => rw [← hk]; exact hκ i (h.κlt i fam hk)
  have hgB : B ≤ g := hgen.1
  refine ⟨g, c, rfl, hnc, ?_, ?_⟩
  · exact {
      below := h.below
      sizeB := h.sizeB
      i0 := fun b o hi => ⟨h.i0 b o hi, fun e => by have := hI0 b o hi; omega⟩
      i1 := fun b o hi => h.i1 b o hi.1
      ilt := fun b o hi => h.ilt b o hi.1
      lβ := by simp [h.lβ]
      nd := fun i j g' h1 h2 => by
        simp only [List.getElem?_append] at h1 h2
        split at h1
        · split at h2
          · exact h.nd i j g' h1 h2
          · rename_i k1 k2
            have e2 : j - M.β.length = 0 ∧ g' = g := by
              have := lt_of_some h2
              simp only [List.length_cons, List.length_nil] at this
              have e0 : j - M.β.length = 0 := by omega
              rw [e0] at h2
              exact ⟨e0, by simpa using h2.symm⟩
            rw [e2.2] at h1
            exact absurd (List.mem_of_getElem? h1) hgen.2.2
        · split at h2
          · rename_i k1 k2
            have e2 : g' = g := by
              have := lt_of_some h1
              simp only [List.length_cons, List.length_nil] at this
              have e0 : i - M.β.length = 0 := by omega
              rw [e0] at h1
              simpa using h1.symm
            rw [e2] at h2
            exact absurd (List.mem_of_getElem? h2) hgen.2.2
          · rename_i k1 k2
            have a1 := lt_of_some h1
            have a2 := lt_of_some h2
            simp only [List.length_cons, List.length_nil] at a1 a2
            omega
      iβ := fun b o hi i hb => by
        simp only [List.getElem?_append] at hb ⊢
        split at hb
        · rename_i k1
          have k2 : i < m.boxes.length := by rw [← h.lβ]; exact k1
          simp [k2]
        · have a1 := lt_of_some hb
          simp only [List.length_cons, List.length_nil] at a1
          rename_i k1
          have e0 : i - M.β.length = 0 := by omega
          rw [e0] at hb
          have : g = b := by simpa using hb
          exact absurd this.symm hi.2
      box := fun i g' cs h1 h2 => by
        simp only [List.getElem?_append] at h1 h2
        split at h1
        · rename_i k1
          have k2 : i < m.boxes.length := by rw [← h.lβ]; exact k1
          rw [if_pos (by simpa using k2)] at h2
          have e2 : cs = deadC := by
            rw [List.getElem?_replicate, if_pos k2] at h2
            exact (Option.some.inj h2).symm
          obtain ⟨j1, ob, j2, _⟩ := h.box i g' _ h1 (List.getElem?_eq_getElem k2)
          exact ⟨j1, ob, j2, .inr (.inr (.inr (.inr ⟨hκn i, e2⟩)))⟩
        · rename_i k1
          have a1 := lt_of_some h1
          simp only [List.length_cons, List.length_nil] at a1
          have e0 : i - M.β.length = 0 := by omega
          rw [e0] at h1
          have eg : g = g' := by simpa using h1
          subst eg
          have e3 : i = m.boxes.length := by rw [← h.lβ]; omega
          rw [if_neg (by simp; omega)] at h2
          have e4 : i - (List.replicate m.boxes.length deadC).length = 0 := by simp; omega
          rw [e4] at h2
          have e5 : xs.flatten = cs := by simpa using h2
          subst e5
          have htk : (cur.toList.take xs.flatten.length).length = xs.flatten.length := by rw [List.length_take]; exact Nat.min_eq_left (by simpa using hle)
          refine ⟨hgB, _, hh, .inl ⟨hκn i, cur, e, rfl, hle, RepL.of_get htk (fun i v z hv hz => ?_), fun z hz => ?_⟩⟩
          · obtain ⟨x, k1, k2, k3⟩ := hcell i v hv
            rw [List.getElem?_take, if_pos (lt_of_some hv)] at hz
            have hz' : cur[i]? = some z := by simpa using hz
            rw [k1] at hz'
            cases hz'
            exact rep_melt (hmv v (List.mem_of_getElem? hv)) hIn k3
          · obtain ⟨i, hi⟩ := List.getElem?_of_mem hz
            have hil := lt_of_some hi
            rw [htk] at hil
            obtain ⟨x, k1, k2, _⟩ := hcell i _ (List.getElem?_eq_getElem hil)
            rw [List.getElem?_take, if_pos hil] at hi
            have hz' : cur[i]? = some z := by simpa using hi
            rw [k1] at hz'
            cases hz'
            exact k2
      κlt := fun i fam hk => by simp only [hκn i] at hk; cases hk
      lγ := by simp [h.lγ]
      row := fun t' G' e' sz' n' h1 h2 => by
        by_cases htt : t' = t
        · subst htt
          have k1 : t' < M.γ.length := lt_of_some hG
          have k2 : t' < m.tips.length := lt_of_some ht
          rw [List.getElem?_set_self k1] at h1
          rw [List.getElem?_set_self k2] at h2
          cases h1
          cases h2
          exact .inl ⟨rfl, rfl⟩
        · rw [List.getElem?_set_ne (Ne.symm htt)] at h1 h2
          rcases h.row t' G' e' sz' n' h1 h2 with k | ⟨g1, c1, us, a1, a2, a3, a4⟩
          · exact .inl k
          · exact .inr ⟨g1, c1, us, a1, a2, a3, fun o ho => a4 o ho.1⟩
      gen := fun t' G' y h1 h2 => by
        by_cases htt : t' = t
        · subst htt
          rw [List.getElem?_set_self (lt_of_some hG)] at h1
          cases h1
          cases h2
        · rw [List.getElem?_set_ne (Ne.symm htt)] at h1
          obtain ⟨k1, k2, k3⟩ := h.gen t' G' y h1 h2
          refine ⟨k1, k2, fun hmem => ?_⟩
          rcases List.mem_append.1 hmem with hmem | hmem
          · exact k3 hmem
          · simp only [List.mem_singleton] at hmem
            exact htt (h.sep t' t G' G y _ h1 hG h2 hin hmem)
      sep := fun t1 t2 G1 G2 y1 y2 h1 h2 h3 h4 h5 => by
        have key : ∀ (t' : Nat) (G' : List (Nat × Nat × Nat)) (y : Nat × Nat × Nat), (M.γ.set t [])[t']? = some G' → y ∈ G' → t' ≠ t ∧ M.γ[t']? = some G' := by
          intro t' G' y k1 k2
          by_cases htt : t' = t
          · subst htt
            rw [List.getElem?_set_self (lt_of_some hG)] at k1
            cases k1
            cases k2
          · rw [List.getElem?_set_ne (Ne.symm htt)] at k1
            exact ⟨htt, k1⟩
        exact h.sep t1 t2 G1 G2 y1 y2 (key t1 G1 y1 h1 h3).2 (key t2 G2 y2 h2 h4).2 h3 h4 h5 }
  · refine ⟨fun b g' hb => by rw [hβ0] at hb; simp at hb, fun t' G' hb => by rw [hγ0] at hb; simp at hb, fun b o hi => ?_, fun i hi => by rw [hβ0] at hi; simp at hi⟩
    obtain ⟨k1, k2⟩ := hE.I b o hi
    exact ⟨⟨k1, fun e => by have := hI0 b o (hI00 b o hi); omega⟩, k2⟩
end
/-- All is forgotten but scalars, and the slice. -/
def meltS (d sz : Nat) (xs : List (List V)) (m : Mem) (s : Nat → V) : Nat → V := fun i => if i = d then .ref (.sli 0 sz xs.length) m.boxes.length else match s i with
  | .val v => .val v
  | _ => .any
def meltM (m : Mem) (t : Nat) (e : TypeId) (sz : Nat) (xs : List (List V)) : Mem := ⟨List.replicate m.boxes.length deadC ++ [xs.flatten], m.tips.set t (e, sz, 0)⟩
structure MeltOk (s : Nat → V) (m : Mem) (d t : Nat) (e : TypeId) (sz : Nat) (xs : List (List V)) : Prop where
  sl : s d = .row t sz xs
  tip : m.tips[t]? = some (e, sz, xs.length)
  ne : xs ≠ []
  cells : xs.flatten.all meltV = true
  boxes : ∀ cs ∈ m.boxes, isObj cs = false
theorem AT.melt {B : Nat} {I0 : Nat → Nat → Prop} {w0 wst w : World} {M0 : Mp} {n : Nat} {s : Nat → V} {m : Mem} {a : Act} (h : AT B I0 w0 M0 wst n s m a w) (hI0 : ∀ (b o : Nat), I0 b o → b < B) (hβ0 : M0.β = []) (hγ0 : M0.γ = []) (hI00 : ∀ (b o : Nat), M0.I b o → I0 b o)
    {d t : Nat} {e : TypeId} {sz : Nat} {xs : List (List V)} (hk : MeltOk s m d t e sz xs) : AT B I0 w0 M0 wst n (meltS d sz xs m s) (meltM m t e sz xs) a w := by
  obtain ⟨M, hE, hg, hs, ds, d1, d2, d3⟩ := h
  have hr := hs.2 d
  rw [hk.sl] at hr
  obtain ⟨g, c, hx, hnc, hg', hE'⟩ := hg.melt hI0 hE hβ0 hγ0 hI00 hk.tip hr hk.ne hk.cells hk.boxes
  refine ⟨_, hE', hg', ⟨hs.1, fun i => ?_⟩, ds, d1, d2, fun g' hg' => ?_⟩
  · unfold meltS
    split
    · rename_i e
      subst e
      rw [hx]
      refine ⟨g, c, rfl, hnc, ?_⟩
      simp [hg.lβ]
    · have h1 := hs.2 i
      split
      · rename_i v e
        rw [e] at h1
        exact h1
      · trivial
  · obtain ⟨b, k1, k2, k3⟩ := d3 g' hg'
    refine ⟨b, k1, ?_, k3⟩
    show (M.β ++ [g])[b]? = _
    rw [List.getElem?_append_left (lt_of_some k2)]
    exact k2
/-- A run up to some place, behind so many parts. -/
def wpK (P : Program) (Y : YRel) (D : Orc) (K : (Nat → V) → Mem → C → Prop) (Q : Exit → (Nat → V) → Mem → Prop) : Nat → C → (Nat → V) → Mem → Prop
  | 0, c, s, m => K s m c
  | k + 1, .seq a b, s, m => wp P Y D a s m (seqQ (fun s' m' => wpK P Y D K Q k b s' m') Q)
  | _ + 1, _, _, _ => False
section
variable {P : Program} {D : Orc} {own : Nat → Bool} {f : FuncId} {F : F} {args : List V}
theorem wpK_sound (hD : OOk P D) (hm : P.follows .mixedOrders = true) {Y : YRel} {n Nn : Nat} {B : Nat} {I0 : Nat → Nat → Prop} {w0 wst : World} {M0 : Mp} (hY : YOk P Y M0 wst) {K : (Nat → V) → Mem → C → Prop} {Q : Exit → (Nat → V) → Mem → Prop}
    (hK : ∀ (code : Code) (c : C) (s : Nat → V) (m : Mem) (a : Act) (w : World), compC P n own false code = some c → AT B I0 w0 M0 wst n s m a w → K s m c → code.wpIn (fen none) Nn P (Up B I0 w0 M0 wst n Q) a w) :
    ∀ (k : Nat) (code : Code) (c : C) (s : Nat → V) (m : Mem) (a : Act) (w : World), compC P n own false code = some c → AT B I0 w0 M0 wst n s m a w → wpK P Y D K Q k c s m → code.wpIn (fen none) Nn P (Up B I0 w0 M0 wst n Q) a w
  | 0, code, c, s, m, a, w, hc, hat, h => hK code c s m a w hc hat h
  | k + 1, code, c, s, m, a, w, hc, hat, h => by
    cases c with
    | seq c1 c2 =>
      have hcode : ∃ x y, code = .seq x y ∧ compC P n own false x = some c1 ∧ compC P n own false y = some c2 := by
        cases code with
        | seq x y =>
          simp only [compC] at hc
          split at hc
          · rename_i a1 a2 h1 h2
            cases hc
            exact ⟨x, y, rfl, h1, h2⟩
          · cases hc
        | region id ops draw =>
          simp only [compC] at hc
          repeat' split at hc
          all_goals first | cases hc | (simp only [Option.map_eq_some_iff] at hc; obtain ⟨_, _, hc⟩ := hc; cases hc)
        | scope x =>
          simp only [compC] at hc
          repeat' split at hc
          all_goals first | cases hc | (simp only [Option.map_eq_some_iff] at hc; obtain ⟨_, _, hc⟩ := hc; cases hc)
        | cond x y z =>
          simp only [compC] at hc
          repeat' split at hc
          all_goals cases hc
        | rangeFunc x y z u =>
          simp only [compC] at hc
          repeat' split at hc
          all_goals cases hc
        | block id x => simp only [compC, Option.map_eq_some_iff] at hc; obtain ⟨_, _, hc⟩ := hc; cases hc
        | loop x => simp only [compC, Option.map_eq_some_iff] at hc; obtain ⟨_, _, hc⟩ := hc; cases hc
        | _ => simp [compC] at hc
      obtain ⟨x, y, rfl, h1, h2⟩ := hcode
      refine wpIn_seq (wpIn_mono (comp_sound hm hY (.inl ⟨rfl, rfl⟩) x c1 h1 s m a w _ hat (wp_sound hD _ h)) fun e a' w' ⟨s', m', hat', hq⟩ => ?_)
      cases e with
      | normal => exact wpK_sound hD hm hY hK k y c2 s' m' a' w' h2 hat' hq
      | _ => exact ⟨s', m', hat', hq⟩
    | _ => exact h.elim
/-- Behind the run slices in boxes are as they are; at some place within it a row is one. -/
theorem Pure.ofM {D : Orc} (hD : OOk P D) (hm : P.follows .mixedOrders = true) (hF : compF P own f = some F) (hn : args.length ≤ F.n) {r : V} (k d : Nat)
    (h : wpK P noY D (fun s m c => ∃ t e sz xs, MeltOk s m d t e sz xs ∧ wp P noY D c (meltS d sz xs m s) (meltM m t e sz xs) (Fin F.rs fun v m => keepN [] (unref 0 m v) r)) (Fin F.rs fun v m => keepN [] (unref 0 m v) r) k F.c (argS args) ⟨[], []⟩) (hcl : r.isClean = true) (hres : r.res = true) : Pure P f args r [] := by
  unfold compF at hF
  split at hF
  case isFalse => cases hF
  rename_i hca
  refine ⟨hca, hres, fun I w vals hI hr => ?_⟩
  split at hF
  case h_2 => cases hF
  rename_i fn hfn
  split at hF
  case h_2 => cases hF
  rename_i code hcode
  split at hF
  case h_2 => cases hF
  rename_i c rs hc hrs
  cases hF
  refine callsIn_wide (n := 0).1 (callsIn_of_wp_marks hfn hcode trivial ?_)
  have hg := Good.start hI
  have hat : AT w.heap.size I w ⟨[], [], I, fun _ => none⟩ w fn.ntmps (argS args) ⟨[], []⟩ { tmps := vals ++ Array.replicate (fn.ntmps - vals.size) undef, defers := [] } w := ⟨_, Ext.refl _ _, hg, slots_args hr hn, [], rfl, by simp, by simp⟩
  refine wpIn_mono (F := fen none) (wpK_sound hD hm YOk.no (fun code' c' s m a w' hc' hat' ⟨t, e, sz, xs, hk, hw⟩ => comp_sound hm YOk.no (.inl ⟨rfl, rfl⟩) code' c' hc' _ _ a w' _ (hat'.melt hI rfl rfl (fun b o h => h) hk) (wp_sound hD _ hw)) k code c _ _ _ _ hc hat h) fun e a' w' ⟨s', m', hat', hq⟩ => ?_
  have key : ∀ v, resE rs s' m' = some v → keepN [] (unref 0 m' v) r → LeavesInM (fen none) 0 P fn a'.tmps (fun e w' => ∃ x M', e = .returned x ∧ Good w.heap.size I w M' ⟨[], []⟩ w' ∧ Rep M' w' r x) a'.defers .returning w' := by
    intro v hv hR
    obtain ⟨M', hE, hg', hs', ds, hd1, hd2, hd3⟩ := hat'
    rw [hd1]
    refine leaves ds M' w' hE hg' hs' hd2 hd3 fun M2 w2 hE2 hg2 hs2 => ?_
    obtain ⟨x, hx, hrx⟩ := res_sound hs2 hg2 hrs hv
    have hx2 := keepN_rep hR (hg2.unref (k := 0) hrx)
    exact ⟨x, hx, x, _, rfl, hg2.lent, Rep.clean (M := (M2.lend 0 m').sel []) (M' := ⟨[], [], M2.allI 0 m', fun _ => none⟩) (fun _ _ h => h) _ _ hcl hx2⟩
  cases e with
  | normal => obtain ⟨v, hv, hR⟩ := hq; exact key v hv hR
  | ret => obtain ⟨v, hv, hR⟩ := hq; exact key v hv hR
  | _ => exact hq.elim
end
end Go.Av

namespace Go.Av.Pl
/-- The records of a zone; of zones, from a number on. -/
def scanF (z : Zo) (i : Nat) : List Fnd := (scanL (z.data.length + 1) z.data 0).map fun p => ⟨p.1, (i : Int), p.2⟩
def allF : List Zo → Nat → List Fnd
  | [], _ => []
  | z :: r, i => scanF z i ++ allF r (i + 1)
end Go.Av.Pl
namespace Go.Av
open Enc (enc dec)
open Cel (cs dc)
open Go.Proofs Pl

theorem famL {P : Program} {n : FuncId} {ι : Type} (A : ι → List V) (Mi : ι → Mem) (v : ι → V) (M' : ι → Mem) (h : ∀ i, Loc P n (A i) (Mi i) (v i) (M' i)) (hinj : ∀ i j, A i = A j → Mi i = Mi j → v i = v j ∧ M' i = M' j) : ∃ sp, EOkL P n sp ∧ ∀ i, sp (A i) (Mi i) = some (v i, M' i) := by
  classical
  refine ⟨fun args m => if h : ∃ i, A i = args ∧ Mi i = m then some (v h.choose, M' h.choose) else none, fun args m v1 m1 h1 => ?_, fun i => ?_⟩
  · simp only at h1
    split at h1
    · rename_i hex
      cases h1
      have h2 := h hex.choose
      rw [hex.choose_spec.1, hex.choose_spec.2] at h2
      exact h2
    · cases h1
  · have hex : ∃ j, A j = A i ∧ Mi j = Mi i := ⟨i, rfl, rfl⟩
    simp only
    rw [dif_pos hex]
    obtain ⟨e1, e2⟩ := hinj _ _ hex.choose_spec.1 hex.choose_spec.2
    rw [e1, e2]
theorem fC_inj {a b : List Fnd} (h : fC a = fC b) : a = b := by
  have hl : a.length = b.length := by
    have := congrArg List.length h
    rw [fC_length, fC_length] at this
    omega
  have h1 := chunk_fC a
  rw [h, hl, chunk_fC b] at h1
  have h2 : (decX (b.map cs) : Option (List Fnd)) = decX (a.map cs) := by rw [h1]
  rw [decX_map, decX_map] at h2
  exact (Option.some.inj h2).symm
theorem sp_sort_ex : ∃ sp, EOkL Tryz.prog n_slices_SortStableFunc_Found sp ∧ ∀ (b : Nat) (l : List Fnd) (m : Mem), m.boxes[b]? = some (fC l) → 1 ≤ l.length → l.length ≤ 20 → sp [.ref (.sli 0 5 l.length) b, .func n_log_All_1 []] m = some (.tuple [], srtM m b (sortF l)) := by
  obtain ⟨sp, h1, h2⟩ := famL (P := Tryz.prog) (n := n_slices_SortStableFunc_Found) (ι := {x : Nat × List Fnd × Mem // x.2.2.boxes[x.1]? = some (fC x.2.1) ∧ 1 ≤ x.2.1.length ∧ x.2.1.length ≤ 20})
    (fun x => [.ref (.sli 0 5 x.1.2.1.length) x.1.1, .func n_log_All_1 []]) (fun x => x.1.2.2) (fun _ => .tuple []) (fun x => srtM x.1.2.2 x.1.1 (sortF x.1.2.1)) (fun x => c_sortF _ _ _ x.2.1 x.2.2.2 x.2.2.1) (fun x y e1 e2 => by
      obtain ⟨⟨b, l, m⟩, h1, h2, h3⟩ := x
      obtain ⟨⟨b', l', m'⟩, h1', h2', h3'⟩ := y
      simp only at e1 e2 h1 h1' ⊢
      subst e2
      simp only [List.cons.injEq, V.ref.injEq, and_true] at e1
      obtain ⟨_, rfl⟩ := e1
      rw [h1] at h1'
      have := fC_inj (Option.some.inj h1')
      subst this
      exact ⟨trivial, rfl⟩)
  exact ⟨sp, h1, fun b l m e1 e2 e3 => h2 ⟨(b, l, m), e1, e2, e3⟩⟩
/-- The sort of none. -/
theorem c_ins0 (m : Mem) (x f : V) : Loc Tryz.prog n_slices_insertionSortCmpFunc_Found [x, .val (.int .i64 0), .val (.int .i64 0), f] m (.tuple []) m := c_insertion0 m x 0 (by decide) f
theorem c_stable0 (m : Mem) (x f : V) : Loc Tryz.prog n_slices_stableCmpFunc_Found [x, .val (.int .i64 0), f] m (.tuple []) m := by
  obtain ⟨sp, hsp, e⟩ := oneL' (c_ins0 m x f)
  refine Loc.ofX (OOk.nil.addL hsp) hm F_slices_stableCmpFunc_Found_ok (by simp [F_slices_stableCmpFunc_Found]) ?_
  simp [F_slices_stableCmpFunc_Found]
  refine wp_loop (fun _ s m' => s 0 = x ∧ s 1 = .val (.int .i64 0) ∧ s 2 = f ∧ s 6 = .val (.int .i64 20) ∧ s 7 = .val (.int .i64 0) ∧ s 8 = .val (.int .i64 20) ∧ m' = m) 0
      (IW.of ⟨by simp, by simp, by simp, by simp, by simp, by simp, rfl⟩) fun k s m' ⟨s0, s1, s2, s6, s7, s8, hm'⟩ => ?_
  subst hm'
  simp [F_slices_stableCmpFunc_Found_L2, s0, s1, s2, s6, s7, s8, e]
  refine wp_loop (fun _ s m'' => s 1 = .val (.int .i64 0) ∧ s 6 = .val (.int .i64 20) ∧ m'' = m') 0 (IW.of ⟨by simpa using s1, by simpa using s6, rfl⟩) fun k s m'' ⟨s1, s6, hm''⟩ => ?_
  subst hm''
  simp [F_slices_stableCmpFunc_Found_L1, s1, s6]
theorem c_sort0 (m : Mem) (f : V) (t : Nat) : Loc Tryz.prog n_sort0 [.row t 5 [], f] m (.tuple []) m := by
  obtain ⟨sp, hsp, e⟩ := oneL' (c_stable0 m (.row t 5 []) f)
  refine Loc.ofX (OOk.nil.addL hsp) hm F_sort0_ok (by simp [F_sort0]) ?_
  simp [F_sort0, e]
def sp_sort0 : List V → Mem → Option (V × Mem)
  | [.row _ 5 [], _], m => some (.tuple [], m)
  | _, _ => none
theorem sp_sort0_ok : EOkL Tryz.prog n_sort0 sp_sort0 := by
  intro args m v m' h
  unfold sp_sort0 at h
  split at h
  · cases h
    exact c_sort0 m _ _
  · cases h
end Go.Av

namespace Go.Av.Pl
/-- The records of a zone, of zones, as they are found. -/
def zoneL (rs : List Rec) (i : Nat) : List Fnd := (List.range rs.length).map fun j => ⟨rs.getD j Rec.zero, (i : Int), (((rs.take j).flatMap recB).length : Int)⟩
def allL : List (List Rec) → Nat → List Fnd
  | [], _ => []
  | rs :: F, i => zoneL rs i ++ allL F (i + 1)
/-- A device that holds records. -/
structure Hd (d : Dv) (F : List (List Rec)) : Prop where
  data : d.zones.map (fun y => y.data) = F.map (fun rs => rs.flatMap recB)
  ok : ∀ rs ∈ F, ∀ r ∈ rs, recOk r = true
theorem zoneL_snoc (rs : List Rec) (r : Rec) (i : Nat) : zoneL (rs ++ [r]) i = zoneL rs i ++ [⟨r, i, ((rs.flatMap recB).length : Int)⟩] := by
  unfold zoneL
  rw [List.length_append, List.length_singleton, List.range_succ, List.map_append]
  congr 1
  · refine List.map_congr_left fun j hj => ?_
    have hj := List.mem_range.1 hj
    rw [List.getD_eq_getElem?_getD, List.getD_eq_getElem?_getD, List.getElem?_append_left hj, List.take_append_of_le_length (by omega)]
  · simp [List.getD_eq_getElem?_getD]
theorem scanF_held {z : Zo} {rs : List Rec} (h : z.data = rs.flatMap recB) (hok : ∀ r ∈ rs, recOk r = true) (i : Nat) : scanF z i = zoneL rs i := by
  have hl : rs.length ≤ (rs.flatMap recB).length := by
    clear h
    induction rs with
    | nil => simp
    | cons r rs ih =>
      have h1 := recB_length (hok r List.mem_cons_self)
      have h2 := ih fun x hx => hok x (List.mem_cons_of_mem _ hx)
      rw [List.flatMap_cons, List.length_append, List.length_cons]
      omega
  unfold scanF
  rw [h, scan_back rs _ 0 hok (by omega), List.map_map]
  unfold zoneL
  refine List.map_congr_left fun j _ => ?_
  simp
theorem allF_held : ∀ {zs : List Zo} {F : List (List Rec)}, zs.map (fun y => y.data) = F.map (fun rs => rs.flatMap recB) → (∀ rs ∈ F, ∀ r ∈ rs, recOk r = true) → ∀ n, allF zs n = allL F n
  | [], [], _, _, _ => rfl
  | [], _ :: _, h, _, _ => by simp at h
  | _ :: _, [], h, _, _ => by simp at h
  | z :: zs, rs :: F, h, hok, n => by
    simp only [List.map_cons, List.cons.injEq] at h
    rw [allF, allL, scanF_held h.1 (hok rs List.mem_cons_self), allF_held h.2 fun x hx => hok x (List.mem_cons_of_mem _ hx)]
theorem Hd.len {d : Dv} {F : List (List Rec)} (h : Hd d F) : F.length = d.zones.length := by
  have := congrArg List.length h.data
  simpa using this.symm
theorem Hd.get {d : Dv} {F : List (List Rec)} (h : Hd d F) {i : Nat} (hi : i < d.zones.length) : d.zones[i].data = (F[i]'(by rw [h.len]; exact hi)).flatMap recB := by
  have := congrArg (·[i]?) h.data
  simp only [List.getElem?_map, List.getElem?_eq_getElem hi, List.getElem?_eq_getElem (show i < F.length by rw [h.len]; exact hi), Option.map_some, Option.some.injEq] at this
  exact this
/-- One more in a zone: as they are found. -/
theorem allL_set : ∀ (F : List (List Rec)) (i n : Nat) (hi : i < F.length) (r : Rec), (allL (F.set i (F[i] ++ [r])) n).Perm (allL F n ++ [⟨r, ((n + i : Nat) : Int), (((F[i]).flatMap recB).length : Int)⟩])
  | rs :: F, 0, n, hi, r => by
    simp only [List.set_cons_zero, List.getElem_cons_zero, allL, zoneL_snoc, Nat.add_zero, List.append_assoc]
    refine List.Perm.append_left _ ?_
    exact List.perm_append_comm
  | rs :: F, i + 1, n, hi, r => by
    simp only [List.set_cons_succ, List.getElem_cons_succ, allL, List.append_assoc]
    refine List.Perm.append_left _ ?_
    have := allL_set F i (n + 1) (by simpa using hi) r
    rw [show n + 1 + i = n + (i + 1) by omega] at this
    exact this
theorem one_held {d : Dv} {k : Nat} {F : List (List Rec)} (hF : Hd d F) {r : Rec} (hr : recOk r = true) {d' : Dv} {i : Nat} {hi : i < d.zones.length} (hS : OneS d k (recB r) d' i hi) :
    Hd d' (F.set i (F[i]'(by rw [hF.len]; exact hi) ++ [r])) ∧ d'.zones.length = d.zones.length ∧ d'.zones.map (fun y => y.la) = d.zones.map (fun y => y.la) := by
  have hiF : i < F.length := by rw [hF.len]; exact hi
  have hla : ∀ (zs : List Zo) (j : Nat) (hj : j < zs.length) (z : Zo), z.la = zs[j].la → (zs.set j z).map (fun y => y.la) = zs.map (fun y => y.la) := fun zs j hj z hz => by
    refine List.ext_getElem (by simp) fun k h1 h2 => ?_
    rw [List.getElem_map, List.getElem_map, List.getElem_set]
    split
    · rename_i e; subst e; exact hz
    · rfl
  have hdat : d'.zones.map (fun y => y.data) = (d.zones.map (fun y => y.data)).set i (d.zones[i].data ++ recB r) ∧ d'.zones.length = d.zones.length ∧ d'.zones.map (fun y => y.la) = d.zones.map (fun y => y.la) := by
    rcases hS.zones with ⟨_, e⟩ | ⟨_, _, e | ⟨j, hj, hji, _, _, e⟩⟩
    · rw [e, hla _ _ hi (zAdd d.zones[i] d.size (recB r)) rfl, List.map_set, List.length_set]; exact ⟨rfl, rfl, rfl⟩
    · rw [e, hla _ _ hi (zAdd d.zones[i] d.size (recB r)) rfl, List.map_set, List.length_set]; exact ⟨rfl, rfl, rfl⟩
    · rw [e, hla _ _ (by rw [List.length_set]; exact hi) (zAdd d.zones[i] d.size (recB r)) (by rw [List.getElem_set_ne hji]; rfl), hla _ _ hj (zEnd d.zones[j]) rfl, List.map_set, List.map_set, List.length_set, List.length_set]
      refine ⟨?_, rfl, rfl⟩
      have : (d.zones.map (fun y => y.data)).set j (zEnd d.zones[j]).data = d.zones.map (fun y => y.data) := by
        refine List.ext_getElem (by simp) fun k h1 h2 => ?_
        rw [List.getElem_set]
        split
        · rename_i e; subst e; simp [zEnd]
        · rfl
      rw [this]
      rfl
  refine ⟨⟨?_, ?_⟩, hdat.2⟩
  · rw [hdat.1, List.map_set, ← hF.data, List.flatMap_append, List.flatMap_cons, List.flatMap_nil, List.append_nil, ← hF.get hi]
  · intro rs hrs x hx
    rcases List.mem_or_eq_of_mem_set hrs with h | rfl
    · exact hF.ok rs h x hx
    · rcases List.mem_append.1 hx with h | h
      · exact hF.ok _ (List.getElem_mem hiF) x h
      · rw [List.mem_singleton.1 h]; exact hr
def cxP (p : Nat × Nat) : Cx := ⟨FloatKind.f64.nearest (p.1 : Int), FloatKind.f64.nearest (p.2 : Int)⟩
/-- Records, and where they stand, as they are found. -/
def fndL : List Rec → List (Nat × Nat) → List Fnd
  | r :: l, p :: P => ⟨r, p.1, p.2⟩ :: fndL l P
  | _, _ => []
/-- Behind records that were appended. -/
structure AppS (d : Dv) (k : Nat) (F : List (List Rec)) (l : List Rec) (d' : Dv) (P : List (Nat × Nat)) (e : Int) (F' : List (List Rec)) : Prop where
  good : DG d' (k + 2 * l.length)
  size : d'.size = d.size
  len : d'.zones.length = d.zones.length
  held : Hd d' F'
  la : d'.zones.map (fun y => y.la) = d.zones.map (fun y => y.la)
  many : P.length ≤ l.length
  all : e = 0 → P.length = l.length
  perm : (allL F' 0).Perm (allL F 0 ++ fndL l P)
  room : (∀ r ∈ l, recOk r = true ∧ (r.body.length : Int) + 20 ≤ d.size) → e = 0 ∨ e = 60
theorem app_held : ∀ (l : List Rec) {d : Dv} {k : Nat} {F : List (List Rec)}, DG d k → k + 2 * l.length ≤ 2 ^ 61 → Hd d F → ∃ d' P e F', appR d l = some (d', P.map cxP, e) ∧ AppS d k F l d' P e F'
  | [], d, k, F, hg, hk, hF => ⟨d, [], 0, F, rfl, hg, rfl, rfl, hF, rfl, Nat.le_refl _, fun _ => rfl, by simp [fndL], fun _ => .inl rfl⟩
  | r :: l, d, k, F, hg, hk, hF => by
    have hlen : d.zones.length ≤ 2 ^ 40 := by have := (dOk_iff.1 hg.ok).2.2.1; omega
    simp only [List.length_cons] at hk
    by_cases hr : recOk r = true
    · rcases one_good hg (by omega) hr with ⟨hp, hone⟩ | ⟨i, hi, d1, hone, hS⟩
      · refine ⟨d, [], placeE d (recB r).length, F, by simp [appR, hone, hp], hg.mono (by omega), rfl, rfl, hF, rfl, by simp, fun h => absurd h hp, by simp [fndL], fun h => ?_⟩
        have h1 := (h r List.mem_cons_self).2
        have h2 := recB_length hr
        unfold placeE at hp ⊢
        rw [if_neg (by rintro (h | h | h) <;> first | (rw [hg.ok] at h; cases h) | omega)] at hp ⊢
        split
        · exact .inl rfl
        · split
          · exact .inr rfl
          · exact .inl rfl
      · obtain ⟨hF1, hl1, hla1⟩ := one_held hF hr hS
        obtain ⟨d', P, e, F', h1, h2⟩ := app_held l hS.good (by omega) hF1
        have hiF : i < F.length := by rw [hF.len]; exact hi
        refine ⟨d', (i, d.zones[i].data.length) :: P, e, F', ?_, ?_⟩
        · simp only [appR, hone, Option.bind_some, ne_eq, not_true_eq_false, if_false, h1, Option.map_some]
          rfl
        · refine ⟨by simpa [Nat.mul_add, Nat.add_assoc, Nat.add_comm, Nat.add_left_comm] using h2.good, h2.size.trans hS.size, h2.len.trans hl1, h2.held, h2.la.trans hla1, by simpa using h2.many, fun he => by simpa using h2.all he, ?_, fun h => h2.room fun x hx => ?_⟩
          · refine h2.perm.trans ?_
            have h3 := allL_set F i 0 hiF r
            rw [← hF.get hi] at h3
            have h4 := h3.append_right (fndL l P)
            simpa [fndL] using h4
          · rw [hS.size]
            exact h x (List.mem_cons_of_mem _ hx)
    · have hr' : recOk r = false := by simpa using hr
      have hone := one_bad hlen hr'
      exact ⟨d, [], 50, F, by simp [appR, hone], hg.mono (by omega), rfl, rfl, hF, rfl, by simp, fun h => (by cases h), by simp [fndL], fun h => absurd (h r List.mem_cons_self).1 hr⟩
theorem fndL_len : ∀ (l : List Rec) (P : List (Nat × Nat)), (fndL l P).length = min l.length P.length
  | [], P => by simp [fndL]
  | r :: l, [] => by simp [fndL]
  | r :: l, p :: P => by simp only [fndL, List.length_cons, fndL_len l P]; omega
theorem fndL_mem : ∀ {l : List Rec} {P : List (Nat × Nat)} {f : Fnd}, f ∈ fndL l P → f.rcd ∈ l
  | [], P, f, h => by simp [fndL] at h
  | r :: l, [], f, h => by simp [fndL] at h
  | r :: l, p :: P, f, h => by
    rcases List.mem_cons.1 h with rfl | h
    · exact List.mem_cons_self
    · exact List.mem_cons_of_mem _ (fndL_mem h)
/-- A new device holds none. -/
theorem held_new (z : Nat) (n : Int) (hz : 1 ≤ z ∧ z ≤ 64) (hn : 1 ≤ n ∧ n ≤ 1048576) : DG (dNew z n) 0 ∧ Hd (dNew z n) (List.replicate z []) ∧ (dNew z n).size = n ∧ (dNew z n).zones.length = z ∧ dNewE z n = 0 := by
  have e : dNew z n = ⟨n, List.replicate z ⟨0, 0, [], 0⟩, -1, false, 0⟩ := by
    unfold dNew
    rw [if_neg (by omega), Int.toNat_natCast]
  have e2 : dNewE z n = 0 := by
    unfold dNewE
    rw [if_neg (by omega)]
  rw [e]
  refine ⟨⟨dOk_iff.2 ⟨fun y hy => ?_, by simp; omega, by simp; omega, by show 0 < n; omega, by show n ≤ 1048576; omega⟩, rfl, rfl, by simp, ?_⟩, ⟨by simp, fun rs hrs r hr => ?_⟩, rfl, by simp, e2⟩
  · obtain ⟨_, rfl⟩ := List.mem_replicate.1 hy
    refine zOk_iff.2 ⟨⟨by show 1 ≤ n; omega, by show n ≤ 1048576; omega, by show (0 : Int) ≤ n; omega, by decide, by decide, by decide, by decide⟩, .inl ⟨rfl, rfl⟩⟩
  · have : stN 1 (List.replicate z (⟨0, 0, [], 0⟩ : Zo)) = 0 := by
      unfold stN
      rw [List.countP_eq_zero]
      intro y hy
      obtain ⟨_, rfl⟩ := List.mem_replicate.1 hy
      decide
    simp only [this]
    omega
  · obtain ⟨_, rfl⟩ := List.mem_replicate.1 hrs
    cases hr
theorem allL_none : ∀ (z n : Nat), allL (List.replicate z []) n = []
  | 0, _ => rfl
  | z + 1, n => by
    rw [List.replicate_succ, allL, allL_none z]
    rfl
theorem allL_ok : ∀ {F : List (List Rec)} {n : Nat} {f : Fnd}, (∀ rs ∈ F, ∀ r ∈ rs, recOk r = true) → f ∈ allL F n → recOk f.rcd = true
  | [], n, f, _, h => by cases h
  | rs :: F, n, f, hok, h => by
    rw [allL] at h
    rcases List.mem_append.1 h with h | h
    · unfold zoneL at h
      obtain ⟨j, hj, rfl⟩ := List.mem_map.1 h
      have hj := List.mem_range.1 hj
      simp only [List.getD_eq_getElem?_getD, List.getElem?_eq_getElem hj, Option.getD_some]
      exact hok rs List.mem_cons_self _ (List.getElem_mem hj)
    · exact allL_ok (fun x hx => hok x (List.mem_cons_of_mem _ hx)) h
end Go.Av.Pl

namespace Go.Av.Pl
open Go.Av
def runF (l : List Fnd) : Nat → Int → List Rec
  | 0, _ => []
  | k + 1, q => match lookF l q with
    | some r => r :: runF l k (q + 1)
    | none => []
end Go.Av.Pl
namespace Go.Av
open Enc (enc dec)
open Cel (cs dc)
open Go.Proofs Pl

theorem look_mem {l : List Fnd} {q : Int} {r : Rec} (h : lookF l q = some r) : ∃ f ∈ l, f.rcd.seq = q := by
  rw [lookF, Option.map_eq_some_iff] at h
  obtain ⟨f, hf, _⟩ := h
  exact ⟨f, List.mem_of_find?_eq_some hf, by simpa using List.find?_some hf⟩
theorem run_len (frm : Int) : ∀ (n : Nat) (l : List Fnd), (∀ i : Nat, i < n → (lookF l (frm + i)).isSome = true) → n ≤ l.length
  | 0, _, _ => Nat.zero_le _
  | n + 1, l, h => by
    have h0 := h n (by omega)
    rw [lookF, Option.isSome_map, List.find?_isSome] at h0
    obtain ⟨f, hf, hq⟩ := h0
    have hq : f.rcd.seq = frm + n := by simpa using hq
    have := run_len frm n (l.erase f) fun i hi => by
      have h1 := h i (by omega)
      rw [lookF, Option.isSome_map, List.find?_isSome] at h1 ⊢
      obtain ⟨g, hg, hg2⟩ := h1
      have hg3 : g.rcd.seq = frm + i := by simpa using hg2
      exact ⟨g, (List.mem_erase_of_ne (fun e => by rw [e] at hg3; omega)).2 hg, hg2⟩
    rw [List.length_erase_of_mem hf] at this
    have h2 := List.length_pos_of_mem hf
    omega
def RunM1 (l : List Fnd) (acc : List (Nat × Fnd)) : Mem := ⟨[mpV (kvF [] acc), [.ref .map 0], [.lit 5 (l.map cs)], [St.ready.v], [St.ready.v]], [(40, 3, 0)]⟩
def Dzb : Orc := Orc.nil.addL n_slices_Backward_Found sp_bw
theorem Dzb_ok : OOk Tryz.prog Dzb := OOk.nil.addL sp_bw_ok
def RunI (l : List Fnd) (frm : Int) (R : List Rec) (k : Nat) (s : Nat → V) (m : Mem) : Prop :=
  ∃ (acc : List Rec) (q : Int) (r0 : Rec) (p : Nat) (bx : List (List V)), R = acc ++ runF l k q ∧ q = frm + acc.length ∧ (∀ i : Nat, i < acc.length → (lookF l (frm + i)).isSome = true) ∧ k + acc.length = l.length + 1 ∧ s 1 = .val (.int .i64 q) ∧ s 4 = .row 0 3 (acc.map cs) ∧ s 5 = .ptr 1 0 ∧ s 8 = .ptr (p + 5) 0 ∧ s 9 = .val (.bool (lookF l q).isSome) ∧
    bx[p]? = some (cs ((lookF l q).getD Rec.zero)) ∧ m = ⟨mpV (kvF [] (bwTo l l.length)) :: [.ref .map 0] :: [.lit 5 (l.map cs)] :: [St.ready.v] :: [St.ready.v] :: bx, [(40, 3, acc.length)]⟩
theorem c_lRun (l : List Fnd) (frm : Int) (hl : l.length ≤ 2 ^ 30) (hf : -(2 ^ 63) ≤ frm ∧ (frm ≤ 2 ^ 62 ∨ ∀ f ∈ l, f.rcd.seq ≤ 2 ^ 62)) : Pure Tryz.prog n_log_Run [enc l, enc frm] (enc (runF l (l.length + 1) frm)) [] := by
  refine Pure.ofC Dzb_ok hm F_log_Run_ok (by simp [F_log_Run]) (by simp [V.res, V.res1]) ?_
  have hl2 : l.length ≤ 2 ^ 40 := by omega
  simp [F_log_Run, Dzb, sp_bw, decX_map]
  refine ⟨_, _, .tuple [], RunM1 l (bwTo l l.length), .ready, by simp, c_backward1 _ _ 2 l hl2 _ _ rfl ?run1, by simp [RunM1, loopAt], by simp, ?fin1⟩
  case run1 =>
    refine YRun.list bwArg (RunM1 l) (bwTo l l.length) ?_ ?_
    rotate_left
    · intro acc x r h
      rfl
    intro acc x r h
    refine Or.inr ⟨rfl, ?_⟩
    simp [roundW, putAll, St.of, St.cont, RunM1, loopAt, bwArg]
    refine .inr ⟨?_, ?_⟩
    · have h1 := (kvF_clean acc (kvs := []) (fun p hp => by cases hp)).put x.2.rcd.seq (Enc.cl x.2.rcd)
      rw [enc_rec] at h1
      have h2 := h1.under 5 1
      have h3 := under_map 5 1 l
      simp [underX, underL, V.under, St.v, h2, h3]
    · simp [kvF, List.foldl_append]
  case fin1 =>
    rw [show St.ready.out = Exit.normal from rfl]
    have hlook := kvF_look l
    have loop : ∀ R Q s m, RunI l frm R (l.length + 1) s m → (∀ s' m', s' 4 = .row 0 3 (R.map cs) → Q (.exit 2) s' m') → wp Tryz.prog noY Dzb F_log_Run_L0.loop s m Q := by
      intro R Q s m h hQ
      refine wp_loop (RunI l frm R) (l.length + 1) (IW.of h) fun k s m ⟨acc, q, r0, p, bx, hR, hq, hal, hk, s1, s4, s5, s8, s9, hp, hm⟩ => ?_
      subst hm
      cases hlk : lookF l q with
      | none =>
        rw [hlk] at s9
        have e1 : runF l k q = [] := by
          cases k with
          | zero => rfl
          | succ k => simp [runF, hlk]
        rw [e1, List.append_nil] at hR
        subst hR
        simp [F_log_Run_L0, s9]
        exact hQ _ _ s4
      | some r =>
        rw [hlk] at s9 hp
        simp only [Option.getD_some, Option.isSome_some] at s9 hp
        simp at hp
        have hal2 : ∀ i : Nat, i < acc.length + 1 → (lookF l (frm + i)).isSome = true := fun i hi => by
          by_cases e : i = acc.length
          · subst e; rw [← hq, hlk]; rfl
          · exact hal i (by omega)
        have hlen := run_len frm _ l hal2
        obtain ⟨k, rfl⟩ : ∃ j, k = j + 1 := ⟨k - 1, by omega⟩
        have hq62 : q ≤ 2 ^ 62 + 2 ^ 30 := by
          rcases hf.2 with h | h
          · omega
          · obtain ⟨f, hf1, hf2⟩ := look_mem hlk
            have := h f hf1
            omega
        have w1 := IntWalk.i64_in (q + 1) (by omega)
        have hR2 : R = (acc ++ [r]) ++ runF l k (q + 1) := by rw [hR, runF, hlk, List.append_assoc]; rfl
        cases hlk2 : lookF l (q + 1) with
        | none =>
          simp [F_log_Run_L0, s1, s4, s5, s8, s9, hp, w1, hlook, decX_map, hlk2]
          refine ⟨by omega, k, by omega, IW.of ⟨acc ++ [r], q + 1, r, bx.length, bx ++ [cs Rec.zero], hR2, by simp; omega, by simpa using hal2, by simp; omega, by simp, by simp, by simp [s5], by simp, by simp [hlk2], by simp [hlk2, Rec.zero], by simp [Rec.zero]⟩⟩
        | some r2 =>
          simp [F_log_Run_L0, s1, s4, s5, s8, s9, hp, w1, hlook, decX_map, hlk2]
          refine ⟨by omega, k, by omega, IW.of ⟨acc ++ [r], q + 1, r, bx.length, bx ++ [cs r2], hR2, by simp; omega, by simpa using hal2, by simp; omega, by simp, by simp, by simp [s5], by simp, by simp [hlk2], by simp [hlk2, Rec.zero], by simp [Rec.zero]⟩⟩
    simp [RunM1]
    cases hlk : lookF l frm with
    | none =>
      simp [hlook, hlk]
      refine loop (runF l (l.length + 1) frm) _ _ _ ⟨[], frm, Rec.zero, 0, [cs Rec.zero], rfl, by simp, by simp, by simp, by simp, by simp, by simp, by simp [RunM1], by simp [hlk], by simp [hlk], by simp [RunM1, Rec.zero]⟩ fun s' m' h4 => ?_
      simp [h4]
    | some r =>
      simp [hlook, hlk]
      refine loop (runF l (l.length + 1) frm) _ _ _ ⟨[], frm, r, 0, [cs r], rfl, by simp, by simp, by simp, by simp, by simp, by simp, by simp [RunM1], by simp [hlk], by simp [hlk], by simp [RunM1]⟩ fun s' m' h4 => ?_
      simp [h4]
end Go.Av

namespace Go.Av.Pl
theorem insS_perm (acc : List Fnd) (x : Fnd) : (insS acc x).Perm (acc ++ [x]) := by
  have h : ∀ l : List Fnd, (l.filter (fun y => decide (y.rcd.seq ≤ x.rcd.seq)) ++ l.filter (fun y => decide (x.rcd.seq < y.rcd.seq))).Perm l := fun l => by
    have := List.filter_append_perm (fun y : Fnd => decide (y.rcd.seq ≤ x.rcd.seq)) l
    have e : l.filter (fun y => decide (x.rcd.seq < y.rcd.seq)) = l.filter (fun y => !decide (y.rcd.seq ≤ x.rcd.seq)) := by
      congr 1
      funext y
      by_cases hy : y.rcd.seq ≤ x.rcd.seq
      · have : ¬ x.rcd.seq < y.rcd.seq := by omega
        simp [hy, this]
      · have : x.rcd.seq < y.rcd.seq := by omega
        simp [hy, this]
    rw [e]
    exact this
  unfold insS
  refine (List.perm_middle).trans ?_
  refine (List.Perm.cons x (h acc)).trans ?_
  exact (List.perm_append_comm (l₁ := [x]) (l₂ := acc))
theorem sortF_perm (l : List Fnd) : (sortF l).Perm l := by
  have : ∀ (l acc : List Fnd), (l.foldl insS acc).Perm (acc ++ l) := by
    intro l
    induction l with
    | nil => intro acc; simp
    | cons a l ih =>
      intro acc
      rw [List.foldl_cons]
      refine (ih _).trans ?_
      have := (insS_perm acc a).append_right l
      simpa using this
  have := this l []
  rw [List.nil_append] at this
  exact this
theorem look_seq {l : List Fnd} {q : Int} {r : Rec} (h : lookF l q = some r) : r.seq = q := by
  rw [lookF, Option.map_eq_some_iff] at h
  obtain ⟨f, hf, rfl⟩ := h
  simpa using List.find?_some hf
theorem runF_seq (l : List Fnd) : ∀ (k : Nat) (q : Int) (i : Nat) (hi : i < (runF l k q).length), (runF l k q)[i].seq = q + i
  | 0, q, i, hi => by simp [runF] at hi
  | k + 1, q, i, hi => by
    cases h : lookF l q with
    | none => simp [runF, h] at hi
    | some r =>
      have e : runF l (k + 1) q = r :: runF l k (q + 1) := by rw [runF, h]
      simp only [e]
      cases i with
      | zero => simp [look_seq h]
      | succ i =>
        have h1 : i < (runF l k (q + 1)).length := by rw [e] at hi; simpa using hi
        have := runF_seq l k (q + 1) i h1
        rw [List.getElem_cons_succ, this]
        omega
end Go.Av.Pl

namespace Go.Av.Pl
theorem sort_eq {q L : List Fnd} (hp : q.Perm L) (hL : L.Pairwise fun a b => a.rcd.seq < b.rcd.seq) : sortF q = L := by
  have h1 : (sortF q).Perm L := (sortF_perm q).trans hp
  have h2 : (sortF q).Pairwise (fun a b => a.rcd.seq ≤ b.rcd.seq) := sortF_sorted q
  have h3 : L.Pairwise (fun a b => a.rcd.seq ≤ b.rcd.seq) := hL.imp fun h => by omega
  refine List.Perm.eq_of_pairwise (le := fun a b => a.rcd.seq ≤ b.rcd.seq) ?_ h2 h3 h1
  intro a b ha hb hab hba
  have ha' : a ∈ L := h1.mem_iff.1 ha
  refine Classical.byContradiction fun hne => ?_
  rcases List.getElem_of_mem ha' with ⟨i, hi, rfl⟩
  rcases List.getElem_of_mem hb with ⟨j, hj, rfl⟩
  rcases Nat.lt_trichotomy i j with h | h | h
  · have := List.pairwise_iff_getElem.1 hL i j hi hj h
    omega
  · subst h; exact hne rfl
  · have := List.pairwise_iff_getElem.1 hL j i hj hi h
    omega
theorem fndL_get : ∀ {l : List Rec} {P : List (Nat × Nat)} {i : Nat} (hl : i < l.length) (hP : i < P.length), (fndL l P)[i]? = some ⟨l[i], P[i].1, P[i].2⟩
  | r :: l, p :: P, 0, _, _ => rfl
  | r :: l, p :: P, i + 1, hl, hP => by
    rw [fndL, List.getElem?_cons_succ]
    exact fndL_get (by simpa using hl) (by simpa using hP)
theorem look_none' {l : List Fnd} {q : Int} (h : ∀ f ∈ l, f.rcd.seq ≠ q) : lookF l q = none := by
  unfold lookF
  rw [Option.map_eq_none_iff, List.find?_eq_none]
  intro f hf
  simpa using h f hf
/-- Records with numbers from n on, one behind the other: as they are found they run. -/
theorem runF_all : ∀ (L : List Fnd) (pre : List Fnd) (k : Nat), L.length < k → (∀ (i : Nat) (hi : i < (pre ++ L).length), (pre ++ L)[i].rcd.seq = (i : Int)) → runF (pre ++ L) k (pre.length : Int) = L.map (·.rcd)
  | [], pre, k, hk, h => by
    have : lookF (pre ++ []) (pre.length : Int) = none := by
      refine look_none' fun f hf => ?_
      obtain ⟨i, hi, rfl⟩ := List.getElem_of_mem hf
      rw [h i hi]
      simp at hi
      omega
    cases k with
    | zero => omega
    | succ k => rw [runF, this]; rfl
  | f :: L, pre, k, hk, h => by
    obtain ⟨k, rfl⟩ : ∃ j, k = j + 1 := ⟨k - 1, by simp at hk; omega⟩
    have hf : lookF (pre ++ f :: L) (pre.length : Int) = some f.rcd := by
      unfold lookF
      have h0 : pre.length < (pre ++ f :: L).length := by simp
      have h1 := h pre.length h0
      have h2 : (pre ++ f :: L)[pre.length] = f := by simp
      rw [h2] at h1
      have : (pre ++ f :: L).find? (fun g => g.rcd.seq == (pre.length : Int)) = some f := by
        rw [List.find?_eq_some_iff_getElem]
        refine ⟨by simpa using h1, pre.length, h0, h2, fun i hi => ?_⟩
        have := h i (by omega)
        rw [this]
        simp
        omega
      rw [this]
      rfl
    rw [runF, hf]
    have e : pre ++ f :: L = (pre ++ [f]) ++ L := by simp
    have := runF_all L (pre ++ [f]) k (by simp at hk; omega) (by rw [← e]; exact h)
    rw [← e] at this
    simp only [List.length_append, List.length_singleton] at this
    rw [List.map_cons, ← this]
    rfl
end Go.Av.Pl

/- Extents: no Go here. -/
namespace Go.Av.Pl

structure Xt where
  lba : Int
  len : Int
  kind : Int
  gen : Int
  data : List UInt8
deriving DecidableEq
def Xt.zero : Xt := ⟨0, 0, 0, 0, []⟩
def extOk (x : Xt) : Bool := decide (0 ≤ x.lba ∧ x.lba ≤ 64 ∧ 1 ≤ x.len ∧ x.len ≤ 64 - x.lba ∧ 0 ≤ x.kind ∧ x.kind ≤ 2 ∧ 0 ≤ x.gen ∧ x.gen ≤ 2147483647 ∧ (x.data.length : Int) = if x.kind = 2 then x.len * 32 else 0)
theorem extOk_iff {x : Xt} : extOk x = true ↔ 0 ≤ x.lba ∧ x.lba ≤ 64 ∧ 1 ≤ x.len ∧ x.len ≤ 64 - x.lba ∧ 0 ≤ x.kind ∧ x.kind ≤ 2 ∧ 0 ≤ x.gen ∧ x.gen ≤ 2147483647 ∧ (x.data.length : Int) = if x.kind = 2 then x.len * 32 else 0 := by simp [extOk]
def joins (a b : Xt) : Bool := extOk a && extOk b && decide (a.lba + a.len = b.lba ∧ a.kind = b.kind ∧ a.gen = b.gen)
def cutOk (x : Xt) (lba n : Int) : Bool := extOk x && decide (0 ≤ lba ∧ lba ≤ 64 ∧ 0 ≤ n ∧ n ≤ 64 ∧ max x.lba lba < min (x.lba + x.len) (lba + n))
def cutX (x : Xt) (lba n : Int) : Xt := if cutOk x lba n = true then
    ⟨max x.lba lba, min (x.lba + x.len) (lba + n) - max x.lba lba, x.kind, x.gen, if x.kind = 2 then (x.data.take ((min (x.lba + x.len) (lba + n) - x.lba) * 32).toNat).drop ((max x.lba lba - x.lba) * 32).toNat else []⟩ else Xt.zero
end Go.Av.Pl

namespace Go.Av
open Enc (enc dec)
open Cel (cs dc)
open Go.Proofs Pl

instance : Cel Xt where
  sz := 5
  cs x := [enc x.lba, enc x.len, enc x.kind, enc x.gen, enc x.data]
  dc l := match l with
    | [a, b, c, d, e] => (dec a).bind fun a => (dec b).bind fun b => (dec c).bind fun c => (dec d).bind fun d => (dec e).bind fun e => some ⟨a, b, c, d, e⟩
    | _ => none
  len _ := rfl
  ok l x h := by
    split at h
    · simp only [Option.bind_eq_some_iff] at h
      obtain ⟨a, ha, b, hb, c, hc, d, hd, e, he, h⟩ := h
      cases h
      exact wk_dec (wk_dec (wk_dec (wk_dec (wk_dec wk_nil he) hd) hc) hb) ha
    · cases h
  cl x := by simp
  de x := by simp
instance : Enc Xt := encC
@[simp] theorem sz_ext : Cel.sz Xt = 5 := rfl
@[simp] theorem cs_ext (x : Xt) : cs x = [.val (.int .i64 x.lba), .val (.int .i64 x.len), .val (.int .i64 x.kind), .val (.int .i64 x.gen), .lit 1 (x.data.map cs)] := rfl
@[simp] theorem enc_ext (x : Xt) : (enc x : V) = .agg [.val (.int .i64 x.lba), .val (.int .i64 x.len), .val (.int .i64 x.kind), .val (.int .i64 x.gen), .lit 1 (x.data.map cs)] := rfl
@[simp] theorem dc_ext (a b c d e : V) : (dc [a, b, c, d, e] : Option Xt) = (dec a).bind fun a => (dec b).bind fun b => (dec c).bind fun c => (dec d).bind fun d => (dec e).bind fun e => some ⟨a, b, c, d, e⟩ := rfl
@[simp] theorem dec_ext (l : List V) : (dec (.agg l) : Option Xt) = dc l := rfl

theorem c_within (n a b : Int) : Pure Tryz.prog n_extent_within [enc n, enc a, enc b] (enc (decide (a ≤ n ∧ n ≤ b))) [] := by
  refine Pure.ofC OOk.nil hm F_extent_within_ok (by simp [F_extent_within]) rfl ?_
  simp [F_extent_within]
  by_cases h : a ≤ n
  · simp [h]
    try omega
  · simp [h]
    try omega
theorem c_data (x : Xt) (h1 : -2 ^ 50 ≤ x.len) (h2 : x.len ≤ 2 ^ 50) : Pure Tryz.prog n_extent_data [enc x] (enc (if x.kind = 2 then x.len * 32 else 0)) [] := by
  refine Pure.ofC OOk.nil hm F_extent_data_ok (by simp [F_extent_data]) rfl ?_
  have := IntWalk.i64_in (x.len * 32) (by omega)
  simp [F_extent_data, this]
  by_cases h : x.kind = 2 <;> simp [h]
@[simp] def sp_within (n a b : Int) : Option (V × List Tip) := some (enc (decide (a ≤ n ∧ n ≤ b)), [])
@[simp] def sp_data (x : Xt) : Option (V × List Tip) := if -2 ^ 50 ≤ x.len ∧ x.len ≤ 2 ^ 50 then some (enc (if x.kind = 2 then x.len * 32 else 0), []) else none
def D12 : Orc := (Orc.nil.add n_extent_within (sp3 sp_within)).add n_extent_data (sp1 sp_data)
theorem D12_ok : OOk Tryz.prog D12 := by
  refine (OOk.nil.add (sp3_ok fun n a b r h => ?_)).add (sp1_ok fun x r h => ?_)
  · cases h; exact c_within n a b
  · simp only [sp_data] at h
    split at h <;> cases h
    rename_i h; exact c_data x h.1 h.2
theorem c_ext_Check (x : Xt) : Pure Tryz.prog n_extent_Check [enc x] (enc (extOk x)) [] := by
  refine Pure.ofC D12_ok hm F_extent_Check_ok (by simp [F_extent_Check]) rfl ?_
  have hw : 0 ≤ x.lba → x.lba ≤ 64 → IntKind.i64.wrap (64 - x.lba) = 64 - x.lba := fun h1 h2 => IntWalk.i64_in _ (by omega)
  simp [F_extent_Check, D12]
  by_cases hok : extOk x = true
  · have h := extOk_iff.1 hok
    simp [hok]
    omega
  · have h := mt extOk_iff.2 hok
    simp [hok]
    omega
@[simp] def sp_extOk (x : Xt) : Option (V × List Tip) := some (enc (extOk x), [])
def D13 : Orc := (Orc.nil.add n_extent_Check (sp1 sp_extOk)).add n_extent_within (sp3 sp_within) |>.add n_bytes_Clone (sp1 sp_clone)
theorem D13_ok : OOk Tryz.prog D13 := by
  refine ((OOk.nil.add (sp1_ok fun x r h => ?_)).add (sp3_ok fun n a b r h => ?_)).add (sp1_ok fun l r h => ?_)
  · cases h; exact c_ext_Check x
  · cases h; exact c_within n a b
  · simp only [sp_clone] at h
    split at h <;> cases h
    exact c_clone l (by assumption)
theorem c_ext_Joins (x y : Xt) : Pure Tryz.prog n_extent_Joins [enc x, enc y] (enc (joins x y)) [] := by
  refine Pure.ofC D13_ok hm F_extent_Joins_ok (by simp [F_extent_Joins]) rfl ?_
  simp [F_extent_Joins, D13]
  by_cases h1 : extOk x = true
  · have h := extOk_iff.1 h1
    have hw : IntKind.i64.wrap (x.lba + x.len) = x.lba + x.len := IntWalk.i64_in _ (by omega)
    by_cases h2 : extOk y = true
    · simp [h1, h2, hw, joins]
      by_cases a1 : x.lba + x.len = y.lba <;> by_cases a2 : x.kind = y.kind <;> simp [a1, a2]
    · simp [h1, h2, joins]
  · simp [h1, joins]
set_option maxRecDepth 4000 in
theorem c_ext_Cut (x : Xt) (lba n : Int) : Pure Tryz.prog n_extent_Cut [enc x, enc lba, enc n] (.tuple [enc (cutX x lba n), enc (cutOk x lba n)]) [] := by
  refine Pure.ofC D13_ok hm F_extent_Cut_ok (by simp [F_extent_Cut]) (by simp [V.res, V.res1]) ?_
  by_cases h1 : extOk x = true
  · have h := extOk_iff.1 h1
    have w1 : IntKind.i64.wrap (x.lba + x.len) = x.lba + x.len := IntWalk.i64_in _ (by omega)
    by_cases hl : 0 ≤ lba ∧ lba ≤ 64
    · by_cases hn : 0 ≤ n ∧ n ≤ 64
      · have w2 : IntKind.i64.wrap (lba + n) = lba + n := IntWalk.i64_in _ (by omega)
        have w3 : IntKind.i64.wrap (max x.lba lba - x.lba) = max x.lba lba - x.lba := IntWalk.i64_in _ (by omega)
        have w4 : IntKind.i64.wrap (min (x.lba + x.len) (lba + n) - x.lba) = min (x.lba + x.len) (lba + n) - x.lba := IntWalk.i64_in _ (by omega)
        have w5 : IntKind.i64.wrap ((max x.lba lba - x.lba) * 32) = (max x.lba lba - x.lba) * 32 := IntWalk.i64_in _ (by omega)
        have w6 : IntKind.i64.wrap ((min (x.lba + x.len) (lba + n) - x.lba) * 32) = (min (x.lba + x.len) (lba + n) - x.lba) * 32 := IntWalk.i64_in _ (by omega)
        have w7 : IntKind.i64.wrap (min (x.lba + x.len) (lba + n) - max x.lba lba) = min (x.lba + x.len) (lba + n) - max x.lba lba := IntWalk.i64_in _ (by omega)
        have e : cutOk x lba n = decide (max x.lba lba < min (x.lba + x.len) (lba + n)) := by simp [cutOk, h1, hl, hn]
        by_cases hlt : max x.lba lba < min (x.lba + x.len) (lba + n)
        · have e1 : cutOk x lba n = true := by rw [e]; simpa using hlt
          by_cases hk : x.kind = 2
          · simp only [hk, if_true] at h
            have hlen := h.2.2.2.2.2.2.2.2
            have hx : extOk ⟨x.lba, x.len, 2, x.gen, x.data⟩ = true := by rw [← hk]; exact h1
            simp [F_extent_Cut, D13, h1, hl, hn, w1, w2, hlt, Int.not_le.2 hlt, w3, w4, w5, w6, w7, cutX, e1, hk, hx]
            omega
          · simp [F_extent_Cut, D13, h1, hl, hn, w1, w2, hlt, Int.not_le.2 hlt, w3, w4, w5, w6, w7, cutX, e1, hk]
        · have e1 : cutOk x lba n = false := by rw [e]; simpa using hlt
          simp [F_extent_Cut, D13, h1, hl, hn, w1, w2, Int.not_lt.1 hlt, cutX, e1, Xt.zero]
      · have e1 : cutOk x lba n = false := by simp [cutOk]; intro _ _ _ h3 h4; exact absurd ⟨h3, h4⟩ hn
        simp [F_extent_Cut, D13, h1, hl, hn, cutX, e1, Xt.zero]
    · have e1 : cutOk x lba n = false := by simp [cutOk]; intro _ h3 h4; exact absurd ⟨h3, h4⟩ hl
      simp [F_extent_Cut, D13, h1, hl, cutX, e1, Xt.zero]
  · simp [F_extent_Cut, D13, h1, cutX, cutOk, Xt.zero]

-- Likeness, and blocks, by the reference.
theorem c_r07_Same (x y : Xt) : Pure Tryz.prog n_r07_Same [enc x, enc y] (enc (decide (x = y))) [] := by
  refine Pure.ofC OOk.nil hm F_r07_Same_ok (by simp [F_r07_Same]) rfl ?_
  obtain ⟨a1, a2, a3, a4, a5⟩ := x
  obtain ⟨b1, b2, b3, b4, b5⟩ := y
  simp [F_r07_Same]
  by_cases h1 : a1 = b1 <;> by_cases h2 : a2 = b2 <;> by_cases h3 : a3 = b3 <;> by_cases h4 : a4 = b4 <;> simp [h1, h2, h3, h4]
  rw [Bool.eq_iff_iff]
  simp
@[simp] def sp_xtSame (x y : Xt) : Option (V × List Tip) := some (enc (decide (x = y)), [])
def D15 : Orc := Orc.nil.add n_r07_Same (sp2 sp_xtSame)
theorem D15_ok : OOk Tryz.prog D15 := OOk.nil.add (sp2_ok fun x y r h => by cases h; exact c_r07_Same x y)
def RAllI (a b : List Xt) (k : Nat) (s : Nat → V) (m : Mem) : Prop :=
  ∃ i : Nat, i + k = a.length ∧ a.take i = b.take i ∧ s 0 = .lit 5 (a.map cs) ∧ s 1 = .lit 5 (b.map cs) ∧ s 5 = .val (.int .i64 i)
theorem take_succ_eq {α : Type} {a b : List α} {i : Nat} (h : a.take i = b.take i) (ha : i < a.length) (hb : i < b.length) : a.take (i + 1) = b.take (i + 1) ↔ a[i] = b[i] := by
  have e1 : a.take (i + 1) = a.take i ++ [a[i]] := by rw [List.take_add_one, List.getElem?_eq_getElem ha]; rfl
  have e2 : b.take (i + 1) = b.take i ++ [b[i]] := by rw [List.take_add_one, List.getElem?_eq_getElem hb]; rfl
  rw [e1, e2, h, List.append_right_inj]
  simp
theorem c_r07_All (a b : List Xt) (ha : a.length ≤ 2 ^ 40) : Pure Tryz.prog n_r07_All [enc a, enc b] (enc (decide (a = b))) [] := by
  refine Pure.ofC D15_ok hm F_r07_All_ok (by simp [F_r07_All]) rfl ?_
  by_cases hl : a.length = b.length
  · simp [F_r07_All, hl]
    refine wp_loop (RAllI a b) a.length (IW.of ⟨0, by omega, by simp, by simp, by simp, by simp⟩) fun k s m ⟨i, hik, ht, h0, h1, h5⟩ => ?_
    by_cases hi : i < a.length
    · have hga : a[i]? = some a[i] := List.getElem?_eq_getElem hi
      have hib : i < b.length := by omega
      have hgb : b[i]? = some b[i] := List.getElem?_eq_getElem hib
      have hs := take_succ_eq ht hi hib
      by_cases he : a[i] = b[i]
      · simp [F_r07_All_L0, D15, h0, h1, h5, hga, hgb, hi, he]
        exact ⟨k - 1, by omega, IW.of (show RAllI a b _ _ _ from ⟨i + 1, by omega, hs.2 he, by simpa using h0, by simpa using h1, by simp; rw [IntWalk.i64_in _ (by omega)]⟩)⟩
      · have hne : ¬ a = b := fun e => he (by subst e; rfl)
        simp [F_r07_All_L0, D15, h0, h1, h5, hga, hgb, hi, he, hne]
    · have hi' : i = a.length := by omega
      have : a = b := by
        have h2 := ht
        rw [hi', List.take_length, hl, List.take_length] at h2
        exact h2
      subst this
      simp [F_r07_All_L0, h0, h5, hi]
  · have hne : ¬ a = b := fun e => hl (by rw [e])
    have hl' : ¬ ((a.length : Int) = b.length) := by omega
    simp [F_r07_All, hl', hne]
end Go.Av

namespace Go.Av
open Enc (enc dec)
open Cel (cs dc)
open Go.Proofs Pl

theorem f_bbbw : formOk ⟨#[98, 98, 98, 119]⟩ = true := by decide

/-- An extent's head, and its bytes; those of some. -/
def hdX (x : Xt) : List UInt8 := leB x.lba.toNat 1 ++ (leB x.len.toNat 1 ++ (leB x.kind.toNat 1 ++ leB x.gen.toNat 4))
def wr1 (x : Xt) : List UInt8 := hdX x ++ x.data
def wrOk (l : List Xt) : Bool := decide (l.length ≤ 64) && l.all extOk
def wrB (l : List Xt) : List UInt8 := UInt8.ofNat l.length :: l.flatMap wr1
def writeB (l : List Xt) : List UInt8 := if wrOk l = true then wrB l else []
def writeE (l : List Xt) : Int := if wrOk l = true then 0 else 70
theorem hdX_length (x : Xt) : (hdX x).length = 7 := by simp [hdX, leB_length]
theorem pack_hd {x : Xt} (h : extOk x = true) : packS [98, 98, 98, 119] [x.lba.toNat, x.len.toNat, x.kind.toNat, x.gen.toNat] = some (hdX x) := by
  have h := extOk_iff.1 h
  have m1 : mayB x.lba.toNat 1 = true := by simp [mayB]; omega
  have m2 : mayB x.len.toNat 1 = true := by simp [mayB]; omega
  have m3 : mayB x.kind.toNat 1 = true := by simp [mayB]; omega
  have m4 : mayB x.gen.toNat 4 = true := by simp [mayB]; omega
  simp [packS, sizeL, m1, m2, m3, m4, hdX]
theorem ext_len {x : Xt} (h : extOk x = true) : x.data.length ≤ 2048 := by
  have h := extOk_iff.1 h
  have hl := h.2.2.2.2.2.2.2.2
  split at hl <;> omega
theorem wr1_length {x : Xt} (h : extOk x = true) : (wr1 x).length ≤ 2055 := by
  have := ext_len h
  simp [wr1, hdX_length]
  omega
theorem u64_wraps {x : Xt} (h : extOk x = true) : IntKind.u64.wrap x.lba = x.lba ∧ IntKind.u64.wrap x.len = x.len ∧ IntKind.u64.wrap x.kind = x.kind ∧ IntKind.u64.wrap x.gen = x.gen := by
  have h := extOk_iff.1 h
  exact ⟨IntWalk.u64_in _ (by omega), IntWalk.u64_in _ (by omega), IntWalk.u64_in _ (by omega), IntWalk.u64_in _ (by omega)⟩

def D16 : Orc := ((Orc.nil.add n_extent_Check (sp1 sp_extOk)).add n_le_Pack (sp2 sp_pack))
theorem D16_ok : OOk Tryz.prog D16 := (OOk.nil.add (sp1_ok fun x r h => by cases h; exact c_ext_Check x)).add sp_pack_ok
def XWriteI (l : List Xt) (k : Nat) (s : Nat → V) (m : Mem) : Prop :=
  ∃ (i t : Nat) (bx : List (List V)) (tips : List Tip) (acc : List UInt8), i + k = l.length ∧ (l.take i).all extOk = true ∧ acc = UInt8.ofNat l.length :: (l.take i).flatMap wr1 ∧ acc.length ≤ 1 + 2055 * i ∧ s 0 = .lit 5 (l.map cs) ∧ s 13 = .lit 5 (l.map cs) ∧ s 14 = .val (.int .i64 l.length) ∧ s 15 = .val (.int .i64 i) ∧
    s 4 = .row t 1 (acc.map cs) ∧ m = ⟨bx, tips⟩ ∧ tips[t]? = some (5, 1, acc.length)
theorem c_ext_Write (l : List Xt) (hl : l.length ≤ 2 ^ 20) : Pure Tryz.prog n_extent_Write [enc l] (.tuple [.row 0 1 ((writeB l).map cs), enc (writeE l)]) [(5, 1, (writeB l).length)] := by
  refine Pure.ofR D16_ok hm F_extent_Write_ok (by simp [F_extent_Write]) (by simp [V.res, V.res1]) ?_
  simp [F_extent_Write]
  refine wp_loop (XWriteI l) l.length (IW.of ⟨0, 1, _, _, [UInt8.ofNat l.length], by omega, by simp, by simp, by simp, by simp, by simp, by simp, by simp, by simp [wrap_u8_nat], rfl, by simp⟩) fun k s m ⟨i, t, bx, tips, acc, hik, hok, hacc, hal, h0, h13, h14, h15, h4, hm, ht⟩ => ?_
  subst hm
  by_cases hi : i < l.length
  · have hg : l[i]? = some l[i] := List.getElem?_eq_getElem hi
    have ht1 : l.take (i + 1) = l.take i ++ [l[i]] := by rw [List.take_add_one, hg]; rfl
    have htl : t < tips.length := lt_of_some ht
    cases hx : extOk l[i] with
    | false =>
      have hno : wrOk l = false := by
        simp only [wrOk, Bool.and_eq_false_iff]
        refine .inr (List.all_eq_false.2 ⟨l[i], List.getElem_mem hi, by simp [hx]⟩)
      simp [XWriteI, F_extent_Write_L0, D16, h0, h13, h14, h15, h4, hg, hi, hx, f_bbbw, writeB, writeE, hno]
    | true =>
      obtain ⟨w1, w2, w3, w4⟩ := u64_wraps hx
      have hp := pack_hd hx
      have hb1 : packB [98, 98, 98, 119] [l[i].lba.toNat, l[i].len.toNat, l[i].kind.toNat, l[i].gen.toNat] = hdX l[i] := by simp [packB, hp]
      have hb2 : packE [98, 98, 98, 119] [l[i].lba.toNat, l[i].len.toNat, l[i].kind.toNat, l[i].gen.toNat] = 0 := by simp [packE, hp]
      have hlen := wr1_length hx
      have hle := ext_len hx
      have h7 := hdX_length l[i]
      have hx2 := extOk_iff.1 hx
      simp [F_extent_Write_L0, D16, h0, h13, h14, h15, h4, hg, hi, hx, f_bbbw, w1, w2, w3, w4, hb1, hb2, h7, ht, List.getElem?_append_left htl, tipset htl]
      refine ⟨by omega, by omega, by omega, by omega, by omega, by omega, k - 1, by omega, IW.of (show XWriteI l _ _ _ from ⟨i + 1, t, _, _, acc ++ wr1 l[i], by omega, ?_, ?_, ?_, by simpa using h0, by simpa using h13, by simpa using h14, ?_, by simp [wr1], rfl, ?_⟩)⟩
      · rw [ht1, List.all_append, hok]; simp [hx]
      · rw [ht1, List.flatMap_append, hacc]; simp
      · simp; omega
      · simp; rw [IntWalk.i64_in _ (by omega)]
      · rw [List.getElem?_set_self (by simp; omega)]
        simp [wr1, h7, Nat.add_assoc]
  · have hil : i = l.length := by omega
    have htk : l.take i = l := by rw [hil, List.take_length]
    rw [htk] at hok hacc
    by_cases h64 : l.length ≤ 64
    · have hw : wrOk l = true := by simp [wrOk, h64, hok]
      have h64' : ¬ ((64 : Int) < l.length) := by omega
      have e : writeB l = acc := by simp [writeB, hw, hacc, wrB]
      simp [F_extent_Write_L0, D16, h0, h13, h14, h15, h4, hi, h64', ht, e, writeE, hw]
    · have hw : wrOk l = false := by simp [wrOk, h64]
      have h64' : (64 : Int) < l.length := by omega
      simp [F_extent_Write_L0, D16, h0, h13, h14, h15, h4, hi, h64', writeB, writeE, hw]

end Go.Av
