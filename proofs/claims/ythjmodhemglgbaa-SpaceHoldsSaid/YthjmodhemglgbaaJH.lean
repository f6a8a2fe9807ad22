/-
  DvK: Contracts of package dev, seventh part: own, Limit, Do.
  SnB: Contracts of package le: Take, size, Pack, Unpack.
  SnC: Contracts of package le: letters, Pack, Unpack.
  SnD: Contracts of package le: Pack, Unpack.
  SnPk: Numbers by a form: as contracts are asked.
  SnE: Contracts of the reference of chapter 1.
  SnF: Contracts of the reference of chapter 1: Pack, Unpack.
  PlA: Sums, by numbers: no Go here.
  SnG: Contracts of package crc, and of the reference of chapter 2.
  DvL: Contracts of package record: what is written; of package log: where it may be.
  DvM: Contracts of package log: a record appended.
  DvO: Contracts of package log: records appended.
  DvQ: The plain law of appending: what a device is behind a record.
  DvR: The plain law of appending, second part.
  DvS: The plain law of room: records take no more zones than their bytes.
  DvP: Contracts of package space, as far as the law asks.
  DvT: The law SpaceHolds: what it computes.
  DvU: What the row hands in: numbers of sixteen bits.
-/
import Derived.Test.YthjmodhemglgbaaJG
import Derived.Laws.StandIn
import Derived.Lib.Bytealg
import Derived.Laws.RangeString
set_option linter.unusedSimpArgs false
set_option linter.unusedVariables false

namespace Go.Av
open Enc (enc dec)
open Cel (cs dc)
open Go.Proofs Pl

def zeroDv : List V := [.val (.int .i64 0), .lit 4 [], .val (.int .i64 0), .val (.bool false), .val (.int .i64 0)]
def Dk1 : Orc := (Orc.nil.add n_bytes_Clone (sp1 sp_clone)).addL n_slices_Clone_Zone sp_zClone
theorem Dk1_ok : OOk Try.prog Dk1 := (OOk.nil.add sp_zclone_ok).addL sp_zClone_ok
def OwnI (M0 : Mem) (L n : Nat) (fv : V) (k : Nat) (s : Nat → V) (m : Mem) : Prop :=
  ∃ (i : Nat), i + k = n ∧ s 1 = fv ∧ s 2 = .ptr L 0 ∧ s 4 = .ptr (L + 1) 0 ∧ s 12 = .val (.int .i64 n) ∧ s 13 = .val (.int .i64 i) ∧ m = M0
theorem box_new3 (l bs : List (List V)) (a b c : List V) : (l ++ a :: b :: c :: bs)[l.length + 2]? = some c := by simp
theorem box_set3 (l bs : List (List V)) (a b c x : List V) : (l ++ a :: b :: c :: bs).set (l.length + 2) x = l ++ a :: b :: x :: bs := by
  rw [List.set_append_right _ _ (by omega)]; simp
theorem c_own (f : FuncId) (cap : List V) (sp : List V → Mem → Option (V × Mem)) (he : EOkL Try.prog f sp) (hf1 : ¬ n_bytes_Clone = f) (hf2 : ¬ n_slices_Clone_Zone = f) (m : Mem) (d d' : Dv) (hs : DSm d) (hne : d.zones ≠ []) (hln : d'.zones.length = d.zones.length)
    (hsp : sp (.ptr m.boxes.length 0 :: cap) ⟨m.boxes ++ [dvB d (m.boxes.length + 2), zeroDv, zC d.zones], m.tips⟩ = some (.tuple [], ⟨m.boxes ++ [dvB d' (m.boxes.length + 2), zeroDv, zC d'.zones], m.tips⟩)) :
    Loc Try.prog n_dev_own [enc d, .func f cap] m (enc d') m := by
  refine Loc.ofU (Dk1_ok.addL he) hm F_dev_own_ok (by simp [F_dev_own]) (.inl (by simp [clean_cs])) m.boxes.length m.tips.length (Nat.le_refl _) (Nat.le_refl _) fun hu => ?_
  have hsn := hs.n
  have hun : unref1 m.boxes.length ⟨m.boxes ++ [dvB d' (m.boxes.length + 2), dvB d' (m.boxes.length + 2), zC d'.zones], m.tips⟩ (.ref (.sli 0 4 d'.zones.length) (m.boxes.length + 2)) = .lit 4 (d'.zones.map cs) := by
    simp only [unref1, box_new3]
    rw [if_pos ⟨by omega, zC_obj _, by rw [zC_length]; omega⟩, zC_top1, List.drop_zero, chunk_zC]
  simp [F_dev_own, Dk1, hf1, hf2, box_new, box_new2, box_set, sp_zClone, hsn, hne, decX_map]
  refine wp_loop (OwnI ⟨m.boxes ++ [dvB d (m.boxes.length + 2), zeroDv, zC d.zones], m.tips⟩ m.boxes.length d.zones.length (.func f cap)) d.zones.length (IW.of ⟨0, by omega, by simp, by simp, by simp, by simp, by simp, rfl⟩) fun k s m' ⟨i, hik, s1, s2, s4, s12, s13, hm'⟩ => ?_
  subst hm'
  by_cases hi : i < d.zones.length
  · have hiI : (i : Int) < d.zones.length := by omega
    have w1 := IntWalk.i64_in ((i : Int) + 1) (by omega)
    have g0 := zC_drop d.zones i 2 hi
    have g1 := zC_set2 d.zones i hi
    have g2 : i * 4 + 2 + 1 ≤ (zC d.zones).length := by rw [zC_length]; omega
    have hzd := hs.z _ (List.getElem_mem hi)
    have hzd' : d.zones[i].data.length ≤ 140737488355328 := by omega
    simp at g0 g1
    simp [F_dev_own_L0, hf1, hf2, s1, s2, s4, s12, s13, dvB, box_new, box_new3, box_set3, hi, hiI, w1, g0, g1, g2, zC_obj, hzd', decX_cs, clean_cs]
    exact ⟨k - 1, by omega, IW.of (show OwnI _ _ _ _ _ _ _ from ⟨i + 1, by omega, by simpa using s1, by simpa using s2, by simpa using s4, by simpa using s12, by simp, rfl⟩)⟩
  · have hiI : ¬ (i : Int) < d.zones.length := by omega
    simp only [dvB, zeroDv] at hsp hun
    simp [F_dev_own_L0, hf1, hf2, s1, s2, s4, s12, s13, dvB, zeroDv, box_new, box_new2, box_set2, hi, hiI, hsp, hu]
    have hv : ∀ (k : Nat) (m : Mem) (x : Value), unref1 k m (.val x) = .val x := fun _ _ _ => rfl
    simp only [unref, unrefA, List.map_cons, List.map_nil, hun, hv]
    simp [wkL, wk1]
theorem dCmd_len (k : Int) (d : Dv) (zs : List Zo) (i : Nat) (z : Zo) : (dDid d (zs.set i z)).zones.length = zs.length := by simp [dDid]
/-- What a command must find to be done. -/
structure CmdOk (k : Int) (d : Dv) (i : Nat) (b : List UInt8) (hi : i < d.zones.length) (z' : Zo) : Prop where
  hb : b.length ≤ 2 ^ 30
  hc : dCmd k d d.zones[i] b = (z', 0)
  ok : dOk d = true
  hd : d.down = false
  hl : ¬ d.left = 0
  hll : -(2 ^ 62) ≤ d.left ∧ d.left ≤ 2 ^ 62
  hdn : 0 ≤ d.done ∧ d.done ≤ 2 ^ 62
theorem dOk_sm {d : Dv} (h : dOk d = true) : DSm d ∧ d.zones ≠ [] := by
  simp only [dOk, Bool.and_eq_true, Bool.not_eq_true', decide_eq_true_eq, List.any_eq_false] at h
  refine ⟨⟨by omega, fun z hz => ?_⟩, List.ne_nil_of_length_pos h.2.1⟩
  have h1 := h.1 z hz
  have h2 : zOk z d.size = true := by simpa using h1
  have := zOk_len h2
  omega
theorem c_dDo (k : Int) (fid : FuncId) (hk5 : ¬ k = 5) (hk : mpAt doesK k = some (.func fid [])) (he : EOkL Try.prog fid (sp_cmd k)) (hf : ¬ 160 = fid) (d : Dv) (i : Nat) (b : List UInt8) (hi : i < d.zones.length) (z' : Zo) (h : CmdOk k d i b hi z') :
    Pure Try.prog n_dev_Do [enc d, enc (⟨k, i, b⟩ : Rec)] (.tuple [enc (dDid d (d.zones.set i z')), .val (.int .i64 0)]) [] := by
  obtain ⟨hs, hne⟩ := dOk_sm h.ok
  have key : ∃ sp, EOkL Try.prog n_dev_own sp ∧ sp [enc d, .func n_dev_Do_1 [.ptr 3 0, .ptr 1 0]] ⟨[cs d, cs (⟨k, i, b⟩ : Rec), zeroDv, [.val (.int .i64 0)]], []⟩ = some (enc (dDid d (d.zones.set i z')), ⟨[cs d, cs (⟨k, i, b⟩ : Rec), zeroDv, [.val (.int .i64 0)]], []⟩) := by
    have hDB : DB ⟨[cs d, cs (⟨k, i, b⟩ : Rec), zeroDv, [.val (.int .i64 0)], dvB d 6, zeroDv, zC d.zones], []⟩ 4 6 d := ⟨rfl, rfl⟩
    obtain ⟨sp1, h1, e1⟩ := oneL (c_do1 k fid hk5 hk he hf _ 4 6 3 1 d hDB (by decide) (by decide) (by decide) (by decide) hs i b hi h.hb z' h.hc rfl rfl h.ok h.hd h.hl h.hll h.hdn)
    refine oneL (c_own n_dev_Do_1 [.ptr 3 0, .ptr 1 0] sp1 h1 (by decide) (by decide) _ d _ hs hne (dCmd_len k d d.zones i z') ?_)
    have e2 : dvB (dDid d d.zones) 6 = dvB (dDid d (d.zones.set i z')) 6 := by simp [dvB, dDid, dLeft]
    rw [e2] at e1
    exact e1
  obtain ⟨sp, hsp, e⟩ := key
  refine Pure.ofC (OOk.nil.addL hsp) hm F_dev_Do_ok (by simp [F_dev_Do]) (by simp [V.res, V.res1]) ?_
  simp [zeroDv] at e
  simp [F_dev_Do, e, keepB]
theorem c_dLimit (d : Dv) (n : Int) (hs : DSm d) (hne : d.zones ≠ []) : Pure Try.prog n_dev_Limit [enc d, enc n] (enc { d with left := n }) [] := by
  have key : ∃ sp, EOkL Try.prog n_dev_own sp ∧ sp [enc d, .func n_dev_Limit_1 [.ptr 1 0]] ⟨[cs d, [.val (.int .i64 n)], zeroDv], []⟩ = some (enc { d with left := n }, ⟨[cs d, [.val (.int .i64 n)], zeroDv], []⟩) := by
    obtain ⟨sp1, h1, e1⟩ := oneL (c_limit1 ⟨[cs d, [.val (.int .i64 n)], zeroDv, dvB d 5, zeroDv, zC d.zones], []⟩ 3 1 d 5 n rfl rfl)
    exact oneL (c_own n_dev_Limit_1 [.ptr 1 0] sp1 h1 (by decide) (by decide) _ d { d with left := n } hs hne rfl e1)
  obtain ⟨sp, hsp, e⟩ := key
  refine Pure.ofC (OOk.nil.addL hsp) hm F_dev_Limit_ok (by simp [F_dev_Limit]) (by simp [V.res, V.res1]) ?_
  simp [zeroDv] at e
  simp [F_dev_Limit, e]
end Go.Av

namespace Go.Av
open Enc (enc dec)
open Cel (cs dc)
open Go.Proofs

/-- The number that bytes are. -/
def leN : List UInt8 → Nat
  | [] => 0
  | b :: l => b.toNat + 256 * leN l
theorem leN_lt : ∀ l : List UInt8, leN l < 256 ^ l.length
  | [] => by simp [leN]
  | b :: l => by
    have := leN_lt l
    have := b.toNat_lt
    simp only [leN, List.length_cons, Nat.pow_succ]
    omega
theorem leN_append : ∀ l m : List UInt8, leN (l ++ m) = leN l + 256 ^ l.length * leN m
  | [], m => by simp [leN]
  | b :: l, m => by
    simp only [List.cons_append, leN, leN_append l m, List.length_cons, Nat.pow_succ, Nat.mul_add]
    rw [← Nat.mul_assoc, Nat.mul_comm 256 (256 ^ l.length)]
    omega
def okT (b : List UInt8) (w : Int) : Bool := mayB 0 w && decide (w ≤ b.length)
def takeV (b : List UInt8) (w : Int) : Nat := if okT b w = true then leN (b.take w.toNat) else 0
def takeR (b : List UInt8) (w : Int) : List UInt8 := if okT b w = true then b.drop w.toNat else []
def takeE (b : List UInt8) (w : Int) : Int := if okT b w = true then 0 else 10
theorem or_shl (x y k : Nat) (hx : x < 2 ^ k) (hy : x + y * 2 ^ k < 2 ^ 64) : bitOr .u64 (x : Int) (y * 2 ^ k : Nat) = ((x + y * 2 ^ k : Nat) : Int) := by
  have h2 : y * 2 ^ k < 2 ^ 64 := by omega
  have hx2 : x < 2 ^ 64 := by omega
  have e : x ||| y * 2 ^ k = x + y * 2 ^ k := by
    have := Nat.two_pow_add_eq_or_of_lt hx y
    rw [Nat.mul_comm y, Nat.or_comm, ← this]; omega
  unfold bitOr
  rw [IntKind.wrap_u64]
  have e2 : (BitVec.ofInt 64 (x : Int) ||| BitVec.ofInt 64 ((y * 2 ^ k : Nat) : Int)).toNat = x + y * 2 ^ k := by
    rw [BitVec.ofInt_natCast, BitVec.ofInt_natCast, BitVec.toNat_or, BitVec.toNat_ofNat, BitVec.toNat_ofNat, Nat.mod_eq_of_lt hx2, Nat.mod_eq_of_lt h2, e]
  show (((BitVec.ofInt 64 (x : Int) ||| BitVec.ofInt 64 ((y * 2 ^ k : Nat) : Int)).toNat : Nat) : Int) % 18446744073709551616 = _
  rw [e2]
  omega

theorem c_le_Take (b : List UInt8) (w : Int) (hb : b.length ≤ 2 ^ 40) : Pure Try.prog n_le_Take [enc b, enc w] (.tuple [enc (takeV b w), .row 0 1 ((takeR b w).map cs), enc (takeE b w)]) [(5, 1, (takeR b w).length)] := by
  refine Pure.ofR D1_ok hm F_le_Take_ok (by simp [F_le_Take]) (by simp [V.res, V.res1]) ?_
  simp [F_le_Take, D1]
  refine ⟨fun h => ⟨fun hlt => ?_, fun hle => ?_⟩, fun h => ?_⟩
  · have : okT b w = false := by simp [okT]; omega
    simp [takeV, takeR, takeE, this]
  · obtain ⟨n, rfl, hn, _⟩ := mayB_cases h
    have ok : okT b n = true := by simp [okT, h]; omega
    have e1 : takeV b n = leN (b.take n) := by simp [takeV, ok]
    have e2 : takeR b n = b.drop n := by simp [takeR, ok]
    have e3 : takeE b n = 0 := by simp [takeE, ok]
    rw [e1, e2, e3]
    have hnb : n ≤ b.length := by omega
    refine wp_loop (fun k s m => ∃ i, i + k = n ∧ s 17 = .val (.int .i64 n) ∧ s 18 = .val (.int .i64 i) ∧ s 1 = .val (.int .i64 n) ∧ s 0 = .lit 1 (b.map cs) ∧ s 4 = .val (.int .u64 (leN (b.take i) : Nat)) ∧ m = ⟨[], [(5, 1, 0)]⟩)
      n (IW.of ⟨0, by omega, by simp, by simp, by simp, by simp, by simp [leN], by simp⟩) fun k s m ⟨i, hik, h17, h18, h1, h0, h4, hm⟩ => ?_
    subst hm
    by_cases hlt : i < n
    · have hg : b[i]? = some b[i] := List.getElem?_eq_getElem (by omega)
      have hs : b.take (i + 1) = b.take i ++ [b[i]] := by rw [List.take_add_one, hg]; rfl
      have hl : (b.take i).length = i := by simp; omega
      have hlt1 := leN_lt (b.take i)
      have hlt2 := leN_lt (b.take (i + 1))
      have hl2 : (b.take (i + 1)).length = i + 1 := by simp; omega
      rw [hl] at hlt1
      rw [hl2] at hlt2
      have e5 : leN (b.take (i + 1)) = leN (b.take i) + b[i].toNat * 2 ^ (8 * i) := by
        rw [hs, leN_append, hl, Nat.pow_mul]; simp [leN, Nat.mul_comm]
      have h64 : 256 ^ (i + 1) ≤ 2 ^ 64 := by
        have : 256 ^ (i + 1) ≤ 256 ^ 8 := Nat.pow_le_pow_right (by omega) (by omega)
        simpa using this
      have h64' : leN (b.take (i + 1)) < 2 ^ 64 := Nat.lt_of_lt_of_le hlt2 h64
      have eb : IntKind.u64.wrap (b[i].toNat : Int) = b[i].toNat := by have := b[i].toNat_lt; exact IntWalk.u64_in _ (by omega)
      have e8 : IntKind.i64.wrap (8 * (i : Int)) = ((8 * i : Nat) : Int) := by rw [IntWalk.i64_in _ (by omega)]; omega
      have e9 : min (8 * i) IntKind.u64.bits = 8 * i := Nat.min_eq_left (show 8 * i ≤ 64 by omega)
      have e10 : IntKind.u64.wrap ((b[i].toNat * 2 ^ (8 * i) : Nat) : Int) = ((b[i].toNat * 2 ^ (8 * i) : Nat) : Int) := IntWalk.u64_in _ (by omega)
      have e11 : (b[i].toNat : Int) * 2 ^ (8 * i) = ((b[i].toNat * 2 ^ (8 * i) : Nat) : Int) := by simp
      have e12 := or_shl (leN (b.take i)) b[i].toNat (8 * i) (by rw [Nat.pow_mul]; exact hlt1) (by rw [← e5]; exact h64')
      simp [F_le_Take_L0, h17, h18, h1, h0, h4, hg, hlt, eb, e8, e9, e10, e11, e12, -Int.natCast_mul, -Int.natCast_pow, -Int.natCast_add]
      refine ⟨k - 1, by omega, IW.of ⟨i + 1, by omega, by simpa using h17, ?_, by simpa using h1, by simpa using h0, ?_, by simp⟩⟩
      · simp; rw [IntWalk.i64_in _ (by omega)]
      · simp [e5]
    · obtain rfl : i = n := by omega
      simp [F_le_Take_L0, h17, h18, h1, h0, h4, D1]
      omega
  · have : okT b w = false := by simp [okT, h]
    simp [takeV, takeR, takeE, this]

@[simp] def sp_Put (b : List UInt8) (v : Nat) (w : Int) : Option (V × List Tip) := if b.length ≤ 2 ^ 40 then some (.tuple [.row 0 1 ((bytesPut b v w).map cs), enc (errPut v w)], [(5, 1, (bytesPut b v w).length)]) else none
@[simp] def sp_Take (b : List UInt8) (w : Int) : Option (V × List Tip) := if b.length ≤ 2 ^ 40 then some (.tuple [enc (takeV b w), .row 0 1 ((takeR b w).map cs), enc (takeE b w)], [(5, 1, (takeR b w).length)]) else none

/-- The extern that looks for a byte. -/
theorem x_indexByte (b : ByteArray) (c : Int) : ExtR Try.prog n_internal_bytealg_IndexByteString [.val (.string b), .val (.int .u8 c)] (.val (.int .i64 (Lib.indexByte b.data.toList c.toNat.toUInt8))) := by
  intro M w vals hr
  obtain ⟨x, r, e, ⟨rfl, _⟩, y, r2, rfl, ⟨rfl, _⟩, e3⟩ := hr
  simp only [RepL] at e3
  subst e3
  have hv : vals = #[.string b, .int .u8 c] := by apply Array.ext'; simpa using e
  subst hv
  refine ⟨_, ?_, ⟨rfl, rfl⟩⟩
  rw [run_callFunc_indexByte (P := Try.prog) (f := n_internal_bytealg_IndexByteString) (fn := (Try.prog.funcs[n_internal_bytealg_IndexByteString]?).getD default) (by kernel_rfl) (by kernel_rfl) (by kernel_rfl) (by kernel_rfl) (by kernel_rfl), Lib.run_indexByteString]
  rfl
end Go.Av

namespace Go.Av
open Enc (enc dec)
open Cel (cs dc)
open Go.Proofs

/-- A letter's size. -/
def sizeL (c : Nat) : Int := if c = 98 then 1 else if c = 104 then 2 else if c = 119 then 4 else if c = 113 then 8 else 0

/-- The place of a byte, as the extern tells it. -/
@[simp] def sp_ixb : List V → Option (V × List Tip)
  | [.val (.string b), .val (.int .u8 c)] => some (.val (.int .i64 (Lib.indexByte b.data.toList c.toNat.toUInt8)), [])
  | _ => none
theorem sp_ixb_ok : EOk Try.prog n_internal_bytealg_IndexByteString sp_ixb := by
  intro args v tips h
  unfold sp_ixb at h
  split at h
  · cases h; exact .inr ⟨rfl, rfl, x_indexByte _ _⟩
  · cases h
def D2a : Orc := Orc.nil.add n_internal_bytealg_IndexByteString sp_ixb
theorem D2a_ok : OOk Try.prog D2a := OOk.nil.add sp_ixb_ok
theorem c_slite (b : ByteArray) (c : UInt8) : Pure Try.prog n_internal_stringslite_IndexByte [enc b, enc c] (enc (Lib.indexByte b.data.toList c)) [] := by
  refine Pure.ofC D2a_ok hm F_internal_stringslite_IndexByte_ok (by simp [F_internal_stringslite_IndexByte]) rfl ?_
  simp [F_internal_stringslite_IndexByte, D2a]
@[simp] def sp_slite (b : ByteArray) (c : UInt8) : Option (V × List Tip) := some (enc (Lib.indexByte b.data.toList c), [])
def D2b : Orc := Orc.nil.add n_internal_stringslite_IndexByte (sp2 sp_slite)
theorem D2b_ok : OOk Try.prog D2b := OOk.nil.add (sp2_ok fun b c r h => by cases h; exact c_slite b c)
theorem c_strIndexByte (b : ByteArray) (c : UInt8) : Pure Try.prog n_strings_IndexByte [enc b, enc c] (enc (Lib.indexByte b.data.toList c)) [] := by
  refine Pure.ofC D2b_ok hm F_strings_IndexByte_ok (by simp [F_strings_IndexByte]) rfl ?_
  simp [F_strings_IndexByte, D2b]
def D2c : Orc := Orc.nil.add n_strings_IndexByte (sp2 sp_slite)
theorem D2c_ok : OOk Try.prog D2c := OOk.nil.add (sp2_ok fun b c r h => by cases h; exact c_strIndexByte b c)
theorem c_IndexRune (b : ByteArray) (c : Nat) (hc : c < 128) : Pure Try.prog n_strings_IndexRune [enc b, enc (Rune.mk c)] (enc (Lib.indexByte b.data.toList (UInt8.ofNat c))) [] := by
  refine Pure.ofC D2c_ok hm F_strings_IndexRune_ok (by simp [F_strings_IndexRune]) rfl ?_
  have e : IntKind.u8.wrap (c : Int) = c := IntWalk.u8_in _ (by omega)
  have h0 : (0 : Int) ≤ c := by omega
  have h1 : (c : Int) < 128 := by omega
  have h2 : (c : Int) < 256 := by omega
  simp [F_strings_IndexRune, D2c, h1, e, h2]
/-- The place of a letter in a text. -/
def ixr (b : ByteArray) (c : Nat) : Int := Lib.indexByte b.data.toList (UInt8.ofNat c)
@[simp] def sp_ixr (b : ByteArray) (c : Rune) : Option (V × List Tip) := if 0 ≤ c.v ∧ c.v < 128 then some (enc (ixr b c.v.toNat), []) else none
def D2d : Orc := Orc.nil.add n_strings_IndexRune (sp2 sp_ixr)
theorem D2d_ok : OOk Try.prog D2d := OOk.nil.add (sp2_ok fun b c r h => by
  simp only [sp_ixr] at h
  split at h <;> cases h
  rename_i hc
  obtain ⟨n, hn⟩ : ∃ n : Nat, c = ⟨n⟩ := ⟨c.v.toNat, by cases c; simp at hc ⊢; omega⟩
  subst hn
  exact c_IndexRune b n (by simp at hc; omega))
theorem idx_bhwq (c : Nat) (hc : c < 128) : (if 0 ≤ Lib.indexByte [98, 104, 119, 113] (UInt8.ofNat c) then (2 : Int) ^ (Lib.indexByte [98, 104, 119, 113] (UInt8.ofNat c)).toNat else 0) = sizeL c := by
  have : ∀ c : _root_.Fin 128, (if 0 ≤ Lib.indexByte [98, 104, 119, 113] (UInt8.ofNat c.val) then (2 : Int) ^ (Lib.indexByte [98, 104, 119, 113] (UInt8.ofNat c.val)).toNat else 0) = sizeL c.val := by decide
  exact this ⟨c, hc⟩
theorem idx_le (c : UInt8) : -1 ≤ Lib.indexByte [98, 104, 119, 113] c ∧ Lib.indexByte [98, 104, 119, 113] c ≤ 3 := by
  simp only [Lib.indexByte]
  repeat' split
  all_goals simp_all
theorem c_le_size (c : Nat) (hc : c < 128) : Pure Try.prog n_le_size [enc (Rune.mk c)] (enc (sizeL c)) [] := by
  refine Pure.ofC D2d_ok hm F_le_size_ok (by simp [F_le_size]) rfl ?_
  have h1 : (c : Int) < 128 := by omega
  have h2 : (if 0 ≤ ixr ⟨#[98, 104, 119, 113]⟩ c then (2 : Int) ^ (ixr ⟨#[98, 104, 119, 113]⟩ c).toNat else 0) = sizeL c := idx_bhwq c hc
  have h3 : -1 ≤ ixr ⟨#[98, 104, 119, 113]⟩ c ∧ ixr ⟨#[98, 104, 119, 113]⟩ c ≤ 3 := idx_le _
  simp [F_le_size, D2d, h1]
  generalize ixr ⟨#[98, 104, 119, 113]⟩ c = x at h2 h3
  refine ⟨fun h => ⟨h, ?_⟩, fun h => ?_⟩
  · rw [if_pos h] at h2
    rw [← h2]
    have : x = 0 ∨ x = 1 ∨ x = 2 ∨ x = 3 := by omega
    rcases this with rfl | rfl | rfl | rfl <;> decide
  · rw [if_neg (by omega)] at h2
    exact h2
end Go.Av

namespace Go.Av
open Enc (enc dec)
open Cel (cs dc)
open Go.Proofs

/-- Numbers by a form. -/
def packS : List UInt8 → List Nat → Option (List UInt8)
  | [], [] => some []
  | c :: f, n :: l => if mayB n (sizeL c.toNat) = true then (packS f l).map (leB n (sizeL c.toNat).toNat ++ ·) else none
  | _, _ => none
def packB (f : List UInt8) (l : List Nat) : List UInt8 := (packS f l).getD []
def packE (f : List UInt8) (l : List Nat) : Int := if (packS f l).isSome = true then 0 else 10

@[simp] def sp_size (c : Rune) : Option (V × List Tip) := if 0 ≤ c.v ∧ c.v < 128 then some (enc (sizeL c.v.toNat), []) else none
def D3 : Orc := ((Orc.nil.add n_le_size (sp1 sp_size)).add n_le_Put (sp3 sp_Put)).add n_le_Take (sp2 sp_Take)
theorem D3_ok : OOk Try.prog D3 := by
  refine ((OOk.nil.add (sp1_ok fun c r h => ?_)).add (sp3_ok fun b v w r h => ?_)).add (sp2_ok fun b w r h => ?_)
  · simp only [sp_size] at h
    split at h <;> cases h
    rename_i hc
    obtain ⟨n, hn⟩ : ∃ n : Nat, c = ⟨n⟩ := ⟨c.v.toNat, by cases c; simp at hc ⊢; omega⟩
    subst hn
    exact c_le_size n (by simp at hc; omega)
  · simp only [sp_Put] at h
    split at h <;> cases h
    exact c_le_Put b v w (by assumption)
  · simp only [sp_Take] at h
    split at h <;> cases h
    exact c_le_Take b w (by assumption)
theorem sizeL_le (c : Nat) : 0 ≤ sizeL c ∧ sizeL c ≤ 8 := by
  unfold sizeL
  repeat' split
  all_goals omega
theorem dec_form (f : List UInt8) (i : Nat) (c : UInt8) (hf : ∀ c ∈ f, c.toNat < 128) (h : f[i]? = some c) : Utf8.decode ⟨f.toArray⟩ i = (c.toNat, 1) ∧ c.toNat < 128 := by
  obtain ⟨hlt, he⟩ := List.getElem?_eq_some_iff.1 h
  have hc := hf c (he ▸ List.getElem_mem hlt)
  refine ⟨?_, hc⟩
  have e : (⟨f.toArray⟩ : ByteArray)[i]'(by show i < f.toArray.size; simpa using hlt) = c := by
    show f.toArray[i] = c
    simpa using he
  rw [decode_ascii ⟨f.toArray⟩ i (by show i < f.toArray.size; simpa using hlt) (by rw [e]; exact hc), e]

def PackI (f : List UInt8) (l : List Nat) (k : Nat) (s : Nat → V) (m : Mem) : Prop :=
  ∃ i acc t tips, i + k = f.length ∧ i ≤ l.length ∧ packS f l = (packS (f.drop i) (l.drop i)).map (acc ++ ·) ∧ acc.length ≤ 8 * i ∧ s 1 = .lit 1 (l.map cs) ∧ s 10 = .ptr 0 0 ∧ s 6 = .val (.int .i64 i) ∧ s 4 = .row t 1 (acc.map cs) ∧
      m = ⟨[[.tuple [.val (.string ⟨f.toArray⟩), .val (.int .i64 i)]]], tips⟩ ∧ tips[t]? = some (5, 1, acc.length)
theorem c_le_Pack (f : List UInt8) (l : List Nat) (hf : ∀ c ∈ f, c.toNat < 128) (hl : f.length ≤ 2 ^ 30) (hn : l.length ≤ 2 ^ 30) :
    Pure Try.prog n_le_Pack [enc (⟨f.toArray⟩ : ByteArray), enc l] (.tuple [.row 0 1 ((packB f l).map cs), enc (packE f l)]) [(5, 1, (packB f l).length)] := by
  refine Pure.ofR D3_ok hm F_le_Pack_ok (by simp [F_le_Pack]) (by simp [V.res, V.res1]) ?_
  simp [F_le_Pack]
  refine wp_loop (PackI f l)
    f.length (IW.of ⟨0, [], 0, [(5, 1, 0)], by omega, by omega, by simp, by simp, by simp, by simp, by simp, by simp, by simp, by simp⟩) fun k s m ⟨i, acc, t, tips, hik, hil, hp, ha, h1, h10, h6, h4, hm, ht⟩ => ?_
  subst hm
  by_cases hlt : i < f.length
  · have hfi : f[i]? = some f[i] := List.getElem?_eq_getElem hlt
    obtain ⟨hd, hc⟩ := dec_form f i f[i] hf hfi
    have hfd : f.drop i = f[i] :: f.drop (i + 1) := List.drop_eq_getElem_cons hlt
    have hc' : (f[i].toNat : Int) < 128 := by omega
    have hsz : (⟨f.toArray⟩ : ByteArray).size = f.length := by show f.toArray.size = _; simp
    by_cases hln : i < l.length
    · have hli : l[i]? = some l[i] := List.getElem?_eq_getElem hln
      have hld : l.drop i = l[i] :: l.drop (i + 1) := List.drop_eq_getElem_cons hln
      have hne : ¬ ((i : Int) = l.length) := by omega
      have hw := sizeL_le f[i].toNat
      cases hmay : mayB l[i] (sizeL f[i].toNat) with
      | false =>
        have hnone : packS f l = none := by rw [hp, hfd, hld]; simp [packS, hmay]
        simp [F_le_Pack_L0, h1, h10, h6, h4, hd, hsz, hlt, D3, hc', hli, hne, packB, packE, hnone, errPut, hmay]
        omega
      | true =>
        have e1 : bytesPut acc l[i] (sizeL f[i].toNat) = acc ++ leB l[i] (sizeL f[i].toNat).toNat := by simp [bytesPut, hmay]
        have e2 : errPut l[i] (sizeL f[i].toNat) = 0 := by simp [errPut, hmay]
        simp [F_le_Pack_L0, h1, h10, h6, h4, hd, hsz, hlt, D3, hc', hli, hne, e1, e2, leB_length]
        refine ⟨by omega, k - 1, by omega, IW.of ⟨i + 1, acc ++ leB l[i] (sizeL f[i].toNat).toNat, tips.length, tips ++ [(5, 1, acc.length + (sizeL f[i].toNat).toNat)], by omega, by omega, ?_, by simp [leB_length]; omega, by simpa using h1, by simpa using h10, ?_, by simp, by simp, by simp [leB_length]⟩⟩
        · rw [hp, hfd, hld]
          simp [packS, hmay, Function.comp_def]
        · simp; rw [IntWalk.i64_in _ (by omega)]
    · have hnil : l.drop i = [] := List.drop_eq_nil_of_le (by omega)
      have he : ((i : Int) = l.length) := by omega
      have hnone : packS f l = none := by rw [hp, hfd, hnil]; simp [packS]
      simp [F_le_Pack_L0, h1, h10, h6, h4, hsz, D3, he, packB, packE, hnone]
      omega
  · have hfnil : f.drop i = [] := List.drop_eq_nil_of_le (by omega)
    have hsz : (⟨f.toArray⟩ : ByteArray).size = f.length := by show f.toArray.size = _; simp
    by_cases hln : i < l.length
    · have hld : l.drop i = l[i] :: l.drop (i + 1) := List.drop_eq_getElem_cons hln
      have hnone : packS f l = none := by rw [hp, hfnil, hld]; simp [packS]
      simp [F_le_Pack_L0, h1, h10, h6, h4, hsz, hlt, hln, packB, packE, hnone]
    · have hnil : l.drop i = [] := List.drop_eq_nil_of_le (by omega)
      have hsome : packS f l = some acc := by rw [hp, hfnil, hnil]; simp [packS]
      simp [F_le_Pack_L0, h1, h10, h6, h4, hsz, hlt, hln, packB, packE, hsome, ht]

/-- The numbers that bytes are, by a form. -/
def unpackS : List UInt8 → List UInt8 → Option (List Nat)
  | [], b => if b = [] then some [] else none
  | c :: f, b => if okT b (sizeL c.toNat) = true then (unpackS f (b.drop (sizeL c.toNat).toNat)).map (leN (b.take (sizeL c.toNat).toNat) :: ·) else none
def unpackN (f b : List UInt8) : List Nat := (unpackS f b).getD []
def unpackE (f b : List UInt8) : Int := if (unpackS f b).isSome = true then 0 else 10
def UnpackI (f b : List UInt8) (k : Nat) (s : Nat → V) (m : Mem) : Prop :=
  ∃ (i : Nat) (acc : List Nat) (rest : List UInt8) (t : Nat) (v : V) (tips : List Tip), i + k = f.length ∧ unpackS f b = (unpackS (f.drop i) rest).map (acc ++ ·) ∧ acc.length = i ∧ rest.length ≤ 2 ^ 40 ∧ s 1 = v ∧ dec v = some rest ∧ s 10 = .ptr 0 0 ∧ s 4 = .row t 1 (acc.map cs) ∧
      m = ⟨[[.tuple [.val (.string ⟨f.toArray⟩), .val (.int .i64 i)]]], tips⟩ ∧ tips[t]? = some (114, 1, acc.length)
theorem c_le_Unpack (f b : List UInt8) (hf : ∀ c ∈ f, c.toNat < 128) (hl : f.length ≤ 2 ^ 30) (hb : b.length ≤ 2 ^ 40) :
    Pure Try.prog n_le_Unpack [enc (⟨f.toArray⟩ : ByteArray), enc b] (.tuple [.row 0 1 ((unpackN f b).map cs), enc (unpackE f b)]) [(114, 1, (unpackN f b).length)] := by
  refine Pure.ofR D3_ok hm F_le_Unpack_ok (by simp [F_le_Unpack]) (by simp [V.res, V.res1]) ?_
  simp [F_le_Unpack]
  refine wp_loop (UnpackI f b)
    f.length (IW.of ⟨0, [], b, 0, _, [(114, 1, 0)], by omega, by simp, by simp, by omega, rfl, by simp, by simp, by simp, by simp, by simp⟩) fun k s m ⟨i, acc, rest, t, v, tips, hik, hp, ha, hr, h1, hv, h10, h4, hm, ht⟩ => ?_
  subst hm
  have hsz : (⟨f.toArray⟩ : ByteArray).size = f.length := by show f.toArray.size = _; simp
  by_cases hlt : i < f.length
  · have hfi : f[i]? = some f[i] := List.getElem?_eq_getElem hlt
    obtain ⟨hd, hc⟩ := dec_form f i f[i] hf hfi
    have hfd : f.drop i = f[i] :: f.drop (i + 1) := List.drop_eq_getElem_cons hlt
    have hc' : (f[i].toNat : Int) < 128 := by omega
    have hw := sizeL_le f[i].toNat
    cases hok : okT rest (sizeL f[i].toNat) with
    | false =>
      have hnone : unpackS f b = none := by rw [hp, hfd]; simp [unpackS, hok]
      simp [F_le_Unpack_L0, h1, hv, h10, h4, hd, hsz, hlt, D3, hc', takeE, takeR, takeV, hok, unpackN, unpackE, hnone]
      omega
    | true =>
      have htl : t < tips.length := lt_of_some ht
      simp [F_le_Unpack_L0, h1, hv, h10, h4, hd, hsz, hlt, D3, hc', takeE, takeR, takeV, hok, List.getElem?_append_left htl, ht]
      refine ⟨by omega, by omega, k - 1, by omega, IW.of (show UnpackI f b _ _ _ from ⟨i + 1, acc ++ [leN (rest.take (sizeL f[i].toNat).toNat)], rest.drop (sizeL f[i].toNat).toNat, t, _, _, by omega, ?_, by simp [ha], by simp; omega, rfl, by simp, by simpa using h10, by simp, rfl, ?_⟩)⟩
      · rw [hp, hfd]
        simp [unpackS, hok, Function.comp_def]
      · rw [List.getElem?_set_self (by simp; omega)]
        simp [ha]
  · have hfnil : f.drop i = [] := List.drop_eq_nil_of_le (by omega)
    by_cases hre : rest = []
    · have hsome : unpackS f b = some acc := by rw [hp, hfnil]; simp [unpackS, hre]
      subst hre
      have hcond : ∀ F : Int → Prop, lenW v F = F 0 := lenW_dec hv
      simp [F_le_Unpack_L0, h1, hv, h10, h4, hsz, hlt, unpackN, unpackE, hsome, ht, hcond]
    · have hnone : unpackS f b = none := by rw [hp, hfnil]; simp [unpackS, hre]
      have hcond : ∀ F : Int → Prop, lenW v F = F rest.length := lenW_dec hv
      have hpos : 0 < rest.length := List.length_pos_iff.2 hre
      simp [F_le_Unpack_L0, h1, hv, h10, h4, hsz, hlt, unpackN, unpackE, hnone, hcond, hpos]
end Go.Av

namespace Go.Av
open Enc (enc dec)
open Cel (cs dc)
open Go.Proofs

/-- A form's letters are letters of a byte each. -/
def formOk (f : ByteArray) : Bool := f.data.toList.all (fun c => decide (c.toNat < 128)) && decide (f.size ≤ 2 ^ 30)
theorem formOk_spec {f : ByteArray} (h : formOk f = true) : (∀ c ∈ f.data.toList, c.toNat < 128) ∧ f.data.toList.length ≤ 2 ^ 30 := by
  simp only [formOk, Bool.and_eq_true, List.all_eq_true, decide_eq_true_eq] at h
  exact ⟨h.1, by rw [Array.length_toList]; exact h.2⟩
@[simp] def sp_pack (f : ByteArray) (l : List Nat) : Option (V × List Tip) := if formOk f = true ∧ l.length ≤ 2 ^ 30 then some (.tuple [.row 0 1 ((packB f.data.toList l).map cs), enc (packE f.data.toList l)], [(5, 1, (packB f.data.toList l).length)]) else none
@[simp] def sp_unpack (f : ByteArray) (b : List UInt8) : Option (V × List Tip) := if formOk f = true ∧ b.length ≤ 2 ^ 40 then some (.tuple [.row 0 1 ((unpackN f.data.toList b).map cs), enc (unpackE f.data.toList b)], [(114, 1, (unpackN f.data.toList b).length)]) else none
theorem ba_eta (f : ByteArray) : (⟨f.data.toList.toArray⟩ : ByteArray) = f := by cases f; simp
theorem sp_pack_ok : EOk Try.prog n_le_Pack (sp2 sp_pack) := sp2_ok fun f l r h => by
  simp only [sp_pack] at h
  split at h <;> cases h
  rename_i h
  have := c_le_Pack f.data.toList l (formOk_spec h.1).1 (formOk_spec h.1).2 h.2
  rwa [ba_eta] at this
theorem sp_unpack_ok : EOk Try.prog n_le_Unpack (sp2 sp_unpack) := sp2_ok fun f b r h => by
  simp only [sp_unpack] at h
  split at h <;> cases h
  rename_i h
  have := c_le_Unpack f.data.toList b (formOk_spec h.1).1 (formOk_spec h.1).2 h.2
  rwa [ba_eta] at this
theorem tipset {tips xs : List Tip} {t : Nat} {b : Tip} (h : t < tips.length) : ((tips ++ xs).set t b)[t]? = some b := by rw [List.getElem?_set_self (by simp; omega)]
end Go.Av

namespace Go.Av
open Enc (enc dec)
open Cel (cs dc)
open Go.Proofs

theorem mayB_zero (w : Int) : mayB 0 w = decide (w = 1 ∨ w = 2 ∨ w = 4 ∨ w = 8) := by
  have : 0 < 256 ^ w.toNat := Nat.pos_of_ne_zero (by simp)
  simp only [mayB, this, and_true]
  rw [decide_eq_decide]
  omega
theorem c_r01_may (w : Int) : Pure Try.prog n_r01_may [enc w] (enc (mayB 0 w)) [] := by
  refine Pure.ofC OOk.nil hm F_r01_may_ok (by simp [F_r01_may]) rfl ?_
  simp [F_r01_may, mayB_zero]
  by_cases h1 : w = 1 <;> by_cases h2 : w = 2 <;> by_cases h4 : w = 4 <;> simp [h1, h2, h4]
theorem c_r01_size (c : UInt8) : Pure Try.prog n_r01_size [enc c] (enc (sizeL c.toNat)) [] := by
  refine Pure.ofC OOk.nil hm F_r01_size_ok (by simp [F_r01_size]) rfl ?_
  have key : ∀ n : Nat, ((c.toNat : Int) = n) = (c.toNat = n) := fun n => by simp only [Int.natCast_inj]
  have k1 := key 98
  have k2 := key 104
  have k3 := key 119
  have k4 := key 113
  simp only [Int.cast_ofNat_Int] at k1 k2 k3 k4
  simp [F_r01_size, sizeL, k1, k2, k3, k4]
  by_cases h1 : c.toNat = 98
  · simp [h1]
  · by_cases h2 : c.toNat = 104
    · simp [h2]
    · by_cases h3 : c.toNat = 119
      · simp [h3]
      · by_cases h4 : c.toNat = 113
        · simp [h4]
        · simp [h1, h2, h3, h4]
@[simp] def sp_rmay (w : Int) : Option (V × List Tip) := some (enc (mayB 0 w), [])
@[simp] def sp_rsize (c : UInt8) : Option (V × List Tip) := some (enc (sizeL c.toNat), [])
def D4 : Orc := (Orc.nil.add n_r01_may (sp1 sp_rmay)).add n_r01_size (sp1 sp_rsize)
theorem D4_ok : OOk Try.prog D4 := by
  refine (OOk.nil.add (sp1_ok fun c r h => ?_)).add (sp1_ok fun c r h => ?_)
  · cases h; exact c_r01_may c
  · cases h; exact c_r01_size c
theorem mayB_lt {v n : Nat} (h : mayB v n = true) (h8 : n < 8) : v < 256 ^ n := by simp [mayB] at h; omega

def RPutI (b : List UInt8) (v n : Nat) (k : Nat) (s : Nat → V) (m : Mem) : Prop :=
  ∃ (i : Nat) (t : Nat) (tips : List Tip), i + k = n ∧ s 2 = .val (.int .i64 n) ∧ s 10 = .val (.int .i64 i) ∧ s 1 = .val (.int .u64 v) ∧ s 9 = .row t 1 ((b ++ leB v i).map cs) ∧ m = ⟨[], tips⟩ ∧ tips[t]? = some (5, 1, b.length + i)
theorem c_r01_Put (b : List UInt8) (v : Nat) (w : Int) (hb : b.length ≤ 2 ^ 40) : Pure Try.prog n_r01_Put [enc b, enc v, enc w] (.tuple [.row 0 1 ((bytesPut b v w).map cs), enc (errPut v w)]) [(5, 1, (bytesPut b v w).length)] := by
  refine Pure.ofR D4_ok hm F_r01_Put_ok (by simp [F_r01_Put]) (by simp [V.res, V.res1]) ?_
  cases hw : mayB 0 w with
  | false =>
    have hmay : mayB v w = false := by
      rw [mayB_zero] at hw
      simp at hw
      simp [mayB]
      omega
    simp [F_r01_Put, D4, hw, bytesPut, errPut, hmay]
  | true =>
    obtain ⟨n, rfl, hn, hc⟩ := mayB_cases hw
    have e8 : IntKind.i64.wrap (8 * (n : Int)) = ((8 * n : Nat) : Int) := by rw [IntWalk.i64_in _ (by omega)]; omega
    have e8u : IntKind.u64.wrap ((8 * n : Nat) : Int) = ((8 * n : Nat) : Int) := IntWalk.u64_in _ (by omega)
    have emin : min (8 * n) IntKind.u64.bits = 8 * n := Nat.min_eq_left (by show 8 * n ≤ 64; omega)
    have hshr : (v : Int).fdiv (2 ^ (8 * n)) = ((v / 256 ^ n : Nat) : Int) := by rw [shr_eq, Nat.pow_mul]
    have hsl := shr_lt v n
    have loop : ∀ (s : Nat → V) (t : Nat) (tips : List Tip) (hmay : mayB v n = true) (Q : Exit → (Nat → V) → Mem → Prop) (h0 : RPutI b v n n s ⟨[], tips⟩)
        (hQ : ∀ s t tips, s 9 = .row t 1 ((b ++ leB v n).map cs) → tips[t]? = some (5, 1, b.length + n) → Q (.exit 0) s ⟨[], tips⟩), wp Try.prog noY D4 (.loop F_r01_Put_L0) s ⟨[], tips⟩ Q := by
      intro s t tips hmay Q h0 hQ
      refine wp_loop (RPutI b v n) n (IW.of h0) fun k s m ⟨i, t, tips, hik, h2, h10, h1, h9, hm, ht⟩ => ?_
      subst hm
      by_cases hlt : i < n
      · have e8 : IntKind.i64.wrap (8 * (i : Int)) = ((8 * i : Nat) : Int) := by rw [IntWalk.i64_in _ (by omega)]; omega
        have e8u : IntKind.u64.wrap ((8 * i : Nat) : Int) = ((8 * i : Nat) : Int) := IntWalk.u64_in _ (by omega)
        have emin : min (8 * i) IntKind.u64.bits = 8 * i := Nat.min_eq_left (by show 8 * i ≤ 64; omega)
        have hshr : (v : Int).fdiv (2 ^ (8 * i)) = ((v / 256 ^ i : Nat) : Int) := by rw [shr_eq, Nat.pow_mul]
        have htl : t < tips.length := lt_of_some ht
        simp [F_r01_Put_L0, h2, h10, h1, h9, hlt, e8, e8u, emin, hshr, ht, leB_length, wrap_u8_nat, -Int.natCast_mul, -Int.natCast_pow, -Int.natCast_ediv]
        refine ⟨by omega, k - 1, by omega, IW.of (show RPutI b v n _ _ _ from ⟨i + 1, t, _, by omega, by simpa using h2, ?_, by simpa using h1, ?_, rfl, ?_⟩)⟩
        · simp; rw [IntWalk.i64_in _ (by omega)]
        · simp [leB_succ]
        · simp [htl, Nat.add_assoc]
      · obtain rfl : i = n := by omega
        simp [F_r01_Put_L0, h2, h10]
        exact hQ _ t tips (by simpa using h9) ht
    cases hmay : mayB v n with
    | false =>
      have h8 : (n : Int) < 8 := by simp [mayB] at hmay; omega
      have hnz : ¬ (((v / 256 ^ n : Nat) : Int) = 0) := by
        rw [shr_lt]
        simp [mayB] at hmay
        omega
      simp [F_r01_Put, D4, hw, h8, e8, e8u, emin, hshr, hnz, bytesPut, errPut, hmay, -Int.natCast_mul, -Int.natCast_pow, -Int.natCast_ediv]
      exact fun h => absurd (hsl.2 h) hnz
    | true =>
      by_cases h8 : (n : Int) < 8
      · have hz : ((v / 256 ^ n : Nat) : Int) = 0 := hsl.2 (mayB_lt hmay (by omega))
        simp [F_r01_Put, D4, hw, h8, e8, e8u, emin, hshr, hz, bytesPut, errPut, hmay, leB_length, -Int.natCast_mul, -Int.natCast_pow, -Int.natCast_ediv]
        refine ⟨by omega, loop _ 1 _ hmay _ ⟨0, 1, _, by omega, by simp, by simp, by simp, by simp [leB_zero], rfl, by simp⟩ fun s t tips h9 ht => ?_⟩
        simp [h9, ht]
      · simp [F_r01_Put, D4, hw, h8, bytesPut, errPut, hmay, leB_length, -Int.natCast_mul, -Int.natCast_pow, -Int.natCast_ediv]
        refine ⟨by omega, loop _ 1 _ hmay _ ⟨0, 1, _, by omega, by simp, by simp, by simp, by simp [leB_zero], rfl, by simp⟩ fun s t tips h9 ht => ?_⟩
        simp [h9, ht]

def RTakeI (b : List UInt8) (n : Nat) (k : Nat) (s : Nat → V) (m : Mem) : Prop :=
  k ≤ n ∧ s 0 = .lit 1 (b.map cs) ∧ s 1 = .val (.int .i64 n) ∧ s 9 = .val (.int .i64 (k - 1 : Int)) ∧ s 8 = .val (.int .u64 (leN ((b.take n).drop k) : Nat)) ∧ m = ⟨[], [(5, 1, 0)]⟩
theorem c_r01_Take (b : List UInt8) (w : Int) (hb : b.length ≤ 2 ^ 40) : Pure Try.prog n_r01_Take [enc b, enc w] (.tuple [enc (takeV b w), .row 0 1 ((takeR b w).map cs), enc (takeE b w)]) [(5, 1, (takeR b w).length)] := by
  refine Pure.ofR D4_ok hm F_r01_Take_ok (by simp [F_r01_Take]) (by simp [V.res, V.res1]) ?_
  cases hw : mayB 0 w with
  | false =>
    have : okT b w = false := by simp [okT, hw]
    simp [F_r01_Take, D4, hw, takeV, takeR, takeE, this]
  | true =>
    obtain ⟨n, rfl, hn, hc⟩ := mayB_cases hw
    by_cases hle : n ≤ b.length
    · have ok : okT b n = true := by simp [okT, hw]; omega
      have e1 : takeV b n = leN (b.take n) := by simp [takeV, ok]
      have e2 : takeR b n = b.drop n := by simp [takeR, ok]
      have e3 : takeE b n = 0 := by simp [takeE, ok]
      have hw1 : IntKind.i64.wrap ((n : Int) - 1) = (n : Int) - 1 := IntWalk.i64_in _ (by omega)
      have hnl : ¬ (b.length < n) := by omega
      simp [F_r01_Take, D4, hw, hnl, hle, e1, e2, e3, hw1]
      refine wp_loop (RTakeI b n) n (IW.of ⟨Nat.le_refl _, by simp, by simp, by simp, by simp [leN], rfl⟩) fun k s m ⟨hk, h0, h1, h9, h8, hm⟩ => ?_
      subst hm
      cases k with
      | zero =>
        simp at h8
        simp [F_r01_Take_L0, h0, h1, h9, h8, hle]
        omega
      | succ k =>
        have hkb : k < b.length := by omega
        have hg : b[k]? = some b[k] := List.getElem?_eq_getElem hkb
        have hd : (b.take n).drop k = b[k] :: (b.take n).drop (k + 1) := by
          rw [List.drop_eq_getElem_cons (by simp; omega)]; simp
        have e4 : leN ((b.take n).drop k) = b[k].toNat + 256 * leN ((b.take n).drop (k + 1)) := by rw [hd]; rfl
        have hlt := leN_lt ((b.take n).drop k)
        have hll : ((b.take n).drop k).length ≤ 8 := by simp; omega
        have h64 : 256 ^ ((b.take n).drop k).length ≤ 2 ^ 64 := by
          have : 256 ^ ((b.take n).drop k).length ≤ 256 ^ 8 := Nat.pow_le_pow_right (by omega) hll
          simpa using this
        have hb64 : leN ((b.take n).drop k) < 2 ^ 64 := Nat.lt_of_lt_of_le hlt h64
        have hbl := b[k].toNat_lt
        have w1 : IntKind.u64.wrap (((leN ((b.take n).drop (k + 1)) : Nat) : Int) * 256) = ((256 * leN ((b.take n).drop (k + 1)) : Nat) : Int) := by rw [IntWalk.u64_in _ (by omega)]; omega
        have w2 : IntKind.u64.wrap (b[k].toNat : Int) = b[k].toNat := IntWalk.u64_in _ (by omega)
        have w3 : IntKind.u64.wrap (((256 * leN ((b.take n).drop (k + 1)) : Nat) : Int) + b[k].toNat) = ((leN ((b.take n).drop k) : Nat) : Int) := by rw [IntWalk.u64_in _ (by omega)]; omega
        have w4 : IntKind.i64.wrap ((k : Int) - 1) = (k : Int) - 1 := IntWalk.i64_in _ (by omega)
        have h9' : s 9 = .val (.int .i64 (k : Int)) := by rw [h9]; congr 2; omega
        simp [F_r01_Take_L0, h0, h1, h9', h8, hg, w1, w2, w3, w4, -Int.natCast_mul]
        exact ⟨k, by omega, IW.of ⟨by omega, by simpa using h0, by simpa using h1, by simp, by simp, rfl⟩⟩
    · have ok : okT b n = false := by simp [okT, hw]; omega
      have hnl : b.length < n := by omega
      simp [F_r01_Take, D4, hw, hnl, takeV, takeR, takeE, ok]

@[simp] def sp_Pack (f : ByteArray) (l : List Nat) : Option (V × List Tip) := if (∀ c ∈ f.data.toList, c.toNat < 128) ∧ f.size ≤ 2 ^ 30 ∧ l.length ≤ 2 ^ 30 then some (.tuple [.row 0 1 ((packB f.data.toList l).map cs), enc (packE f.data.toList l)], [(5, 1, (packB f.data.toList l).length)]) else none
end Go.Av

namespace Go.Av
open Enc (enc dec)
open Cel (cs dc)
open Go.Proofs

def D5 : Orc := ((Orc.nil.add n_r01_size (sp1 sp_rsize)).add n_r01_Put (sp3 sp_Put)).add n_r01_Take (sp2 sp_Take)
theorem D5_ok : OOk Try.prog D5 := by
  refine ((OOk.nil.add (sp1_ok fun c r h => ?_)).add (sp3_ok fun b v w r h => ?_)).add (sp2_ok fun b w r h => ?_)
  · cases h; exact c_r01_size c
  · simp only [sp_Put] at h
    split at h <;> cases h
    exact c_r01_Put b v w (by assumption)
  · simp only [sp_Take] at h
    split at h <;> cases h
    exact c_r01_Take b w (by assumption)
theorem ba_get (f : List UInt8) (i : Nat) : (⟨f.toArray⟩ : ByteArray)[i]? = f[i]? := by
  by_cases h : i < f.length
  · rw [List.getElem?_eq_getElem h]
    have h' : i < (⟨f.toArray⟩ : ByteArray).size := by show i < f.toArray.size; simpa using h
    rw [getElem?_pos (⟨f.toArray⟩ : ByteArray) i h']
    congr 1
  · rw [List.getElem?_eq_none (by omega)]
    have h' : ¬ i < (⟨f.toArray⟩ : ByteArray).size := by show ¬ i < f.toArray.size; simpa using h
    rw [getElem?_neg (⟨f.toArray⟩ : ByteArray) i h']
theorem ba_size (f : List UInt8) : (⟨f.toArray⟩ : ByteArray).size = f.length := by show f.toArray.size = _; simp
theorem ba_get1 (f : List UInt8) (i : Nat) (h : i < (⟨f.toArray⟩ : ByteArray).size) : (⟨f.toArray⟩ : ByteArray)[i]'h = f[i]'(by rw [← ba_size f]; exact h) := rfl
theorem packS_len : ∀ (f : List UInt8) (l : List Nat) (b : List UInt8), packS f l = some b → f.length = l.length
  | [], [], _, _ => rfl
  | [], _ :: _, _, h => by simp [packS] at h
  | _ :: _, [], _, h => by simp [packS] at h
  | c :: f, n :: l, b, h => by
    simp only [packS] at h
    split at h
    · simp only [Option.map_eq_some_iff] at h
      obtain ⟨b', h, _⟩ := h
      simp [packS_len f l b' h]
    · cases h
def RPackI (f : List UInt8) (l : List Nat) (k : Nat) (s : Nat → V) (m : Mem) : Prop :=
  ∃ (i : Nat) (acc : List UInt8) (t : Nat) (tips : List Tip), i + k = f.length ∧ packS f l = (packS (f.drop i) (l.drop i)).map (acc ++ ·) ∧ acc.length ≤ 8 * i ∧ s 0 = .val (.string ⟨f.toArray⟩) ∧ s 1 = .lit 1 (l.map cs) ∧ s 7 = .val (.int .i64 i) ∧ s 6 = .row t 1 (acc.map cs) ∧
    m = ⟨[], tips⟩ ∧ tips[t]? = some (5, 1, acc.length)
theorem c_r01_Pack (f : List UInt8) (l : List Nat) (hl : f.length ≤ 2 ^ 30) :
    Pure Try.prog n_r01_Pack [enc (⟨f.toArray⟩ : ByteArray), enc l] (.tuple [.row 0 1 ((packB f l).map cs), enc (packE f l)]) [(5, 1, (packB f l).length)] := by
  refine Pure.ofR D5_ok hm F_r01_Pack_ok (by simp [F_r01_Pack]) (by simp [V.res, V.res1]) ?_
  by_cases hlen : f.length = l.length
  · simp [F_r01_Pack, ba_size, hlen]
    refine wp_loop (RPackI f l) f.length (IW.of ⟨0, [], 1, _, by omega, by simp, by simp, by simp, by simp, by simp, by simp, rfl, by simp⟩) fun k s m ⟨i, acc, t, tips, hik, hp, ha, h0, h1, h7, h6, hm, ht⟩ => ?_
    subst hm
    by_cases hlt : i < f.length
    · have hfi : f[i]? = some f[i] := List.getElem?_eq_getElem hlt
      have hfd : f.drop i = f[i] :: f.drop (i + 1) := List.drop_eq_getElem_cons hlt
      have hln : i < l.length := by omega
      have hli : l[i]? = some l[i] := List.getElem?_eq_getElem hln
      have hld : l.drop i = l[i] :: l.drop (i + 1) := List.drop_eq_getElem_cons hln
      have hw := sizeL_le f[i].toNat
      cases hmay : mayB l[i] (sizeL f[i].toNat) with
      | false =>
        have hnone : packS f l = none := by rw [hp, hfd, hld]; simp [packS, hmay]
        simp [F_r01_Pack_L0, h0, h1, h7, h6, ba_size, ba_get1, hlt, D5, hli, hfi, packB, packE, hnone, errPut, bytesPut, hmay]
        omega
      | true =>
        simp [F_r01_Pack_L0, h0, h1, h7, h6, ba_size, ba_get1, hlt, D5, hli, hfi, errPut, bytesPut, hmay, leB_length]
        refine ⟨by omega, k - 1, by omega, IW.of (show RPackI f l _ _ _ from ⟨i + 1, acc ++ leB l[i] (sizeL f[i].toNat).toNat, tips.length, _, by omega, ?_, by simp [leB_length]; omega, by simpa using h0, by simpa using h1, ?_, by simp, rfl, by simp [leB_length]⟩)⟩
        · rw [hp, hfd, hld]
          simp [packS, hmay, Function.comp_def]
        · simp; rw [IntWalk.i64_in _ (by omega)]
    · have hfnil : f.drop i = [] := List.drop_eq_nil_of_le (by omega)
      have hnil : l.drop i = [] := List.drop_eq_nil_of_le (by omega)
      have hsome : packS f l = some acc := by rw [hp, hfnil, hnil]; simp [packS]
      simp [F_r01_Pack_L0, h0, h1, h7, h6, ba_size, hlt, packB, packE, hsome, ht]
  · have hnone : packS f l = none := by
      cases h : packS f l with
      | none => rfl
      | some b => exact absurd (packS_len f l b h) hlen
    have hne : ¬ ((f.length : Int) = l.length) := by omega
    simp [F_r01_Pack, ba_size, hne, packB, packE, hnone]

def RUnpackI (f b : List UInt8) (k : Nat) (s : Nat → V) (m : Mem) : Prop :=
  ∃ (i : Nat) (acc : List Nat) (rest : List UInt8) (t : Nat) (v : V) (tips : List Tip), i + k = f.length ∧ unpackS f b = (unpackS (f.drop i) rest).map (acc ++ ·) ∧ acc.length = i ∧ rest.length ≤ 2 ^ 40 ∧ s 0 = .val (.string ⟨f.toArray⟩) ∧ s 1 = v ∧ dec v = some rest ∧ s 7 = .val (.int .i64 i) ∧ s 6 = .row t 1 (acc.map cs) ∧
      m = ⟨[], tips⟩ ∧ tips[t]? = some (114, 1, acc.length)
theorem c_r01_Unpack (f b : List UInt8) (hl : f.length ≤ 2 ^ 30) (hb : b.length ≤ 2 ^ 40) :
    Pure Try.prog n_r01_Unpack [enc (⟨f.toArray⟩ : ByteArray), enc b] (.tuple [.row 0 1 ((unpackN f b).map cs), enc (unpackE f b)]) [(114, 1, (unpackN f b).length)] := by
  refine Pure.ofR D5_ok hm F_r01_Unpack_ok (by simp [F_r01_Unpack]) (by simp [V.res, V.res1]) ?_
  simp [F_r01_Unpack]
  refine wp_loop (RUnpackI f b) f.length (IW.of ⟨0, [], b, 1, _, _, by omega, by simp, by simp, by omega, by simp, rfl, by simp, by simp, by simp, rfl, by simp⟩) fun k s m ⟨i, acc, rest, t, v, tips, hik, hp, ha, hr, h0, h1, hv, h7, h6, hm, ht⟩ => ?_
  subst hm
  have htl : t < tips.length := lt_of_some ht
  by_cases hlt : i < f.length
  · have hfi : f[i]? = some f[i] := List.getElem?_eq_getElem hlt
    have hfd : f.drop i = f[i] :: f.drop (i + 1) := List.drop_eq_getElem_cons hlt
    have hw := sizeL_le f[i].toNat
    cases hok : okT rest (sizeL f[i].toNat) with
    | false =>
      have hnone : unpackS f b = none := by rw [hp, hfd]; simp [unpackS, hok]
      simp [F_r01_Unpack_L0, h0, h1, hv, h7, h6, hfi, ba_size, ba_get1, hlt, D5, takeE, takeR, takeV, hok, unpackN, unpackE, hnone]
      omega
    | true =>
      simp [F_r01_Unpack_L0, h0, h1, hv, h7, h6, hfi, ba_size, ba_get1, hlt, D5, takeE, takeR, takeV, hok, List.getElem?_append_left htl, ht]
      refine ⟨by omega, by omega, k - 1, by omega, IW.of (show RUnpackI f b _ _ _ from ⟨i + 1, acc ++ [leN (rest.take (sizeL f[i].toNat).toNat)], rest.drop (sizeL f[i].toNat).toNat, t, _, _, by omega, ?_, by simp [ha], by simp; omega, by simpa using h0, rfl, by simp, ?_, by simp, rfl, ?_⟩)⟩
      · rw [hp, hfd]
        simp [unpackS, hok, Function.comp_def]
      · simp; rw [IntWalk.i64_in _ (by omega)]
      · rw [List.getElem?_set_self (by simp; omega)]
        simp [ha]
  · have hfnil : f.drop i = [] := List.drop_eq_nil_of_le (by omega)
    have hcond : ∀ F : Int → Prop, lenW v F = F rest.length := lenW_dec hv
    by_cases hre : rest = []
    · have hsome : unpackS f b = some acc := by rw [hp, hfnil]; simp [unpackS, hre]
      subst hre
      simp [F_r01_Unpack_L0, h0, h1, h7, h6, ba_size, hlt, unpackN, unpackE, hsome, ht, hcond]
    · have hnone : unpackS f b = none := by rw [hp, hfnil]; simp [unpackS, hre]
      have hpos : 0 < rest.length := List.length_pos_iff.2 hre
      simp [F_r01_Unpack_L0, h0, h1, h7, ba_size, hlt, unpackN, unpackE, hnone, hcond, hpos]
end Go.Av

/- Sums, by numbers: no Go here. -/
namespace Go.Av.Pl

def poly : Nat := 2197175160
def stepN (n : Nat) : Nat := if n % 2 = 1 then n / 2 ^^^ poly else n / 2
def step4 (n : Nat) : Nat := stepN (stepN (stepN (stepN n)))
def tabL : List Nat := [0, 274646895, 549293790, 820201905, 1098587580, 1361435347, 1640403810, 1905808397, 2197175160, 2460548119, 2722870694, 2987750089, 3280807620, 3553878443, 3811616794, 4084100981]
theorem stepN_xor (a b : Nat) : stepN (a ^^^ b) = stepN a ^^^ stepN b := by
  have h1 : (a ^^^ b) / 2 = a / 2 ^^^ b / 2 := by
    have := Nat.shiftRight_xor_distrib (a := a) (b := b) (i := 1)
    simpa [Nat.shiftRight_eq_div_pow] using this
  have h2 : (a ^^^ b) % 2 = (a + b) % 2 := by
    have h : (a ^^^ b) % 2 ^ 1 = a % 2 ^ 1 ^^^ b % 2 ^ 1 := Nat.xor_mod_two_pow
    rw [Nat.pow_one] at h
    rw [h, Nat.add_mod]
    rcases Nat.mod_two_eq_zero_or_one a with ha | ha <;> rcases Nat.mod_two_eq_zero_or_one b with hb | hb <;> rw [ha, hb] <;> rfl
  unfold stepN
  rw [h1, h2]
  rcases Nat.mod_two_eq_zero_or_one a with ha | ha <;> rcases Nat.mod_two_eq_zero_or_one b with hb | hb
  · rw [if_neg (by omega), if_neg (by omega), if_neg (by omega)]
  · rw [if_pos (by omega), if_neg (by omega), if_pos (by omega), Nat.xor_assoc]
  · rw [if_pos (by omega), if_pos (by omega), if_neg (by omega), Nat.xor_assoc, Nat.xor_assoc, Nat.xor_comm poly]
  · rw [if_neg (by omega), if_pos (by omega), if_pos (by omega)]
    rw [Nat.xor_assoc, Nat.xor_comm poly, Nat.xor_assoc, Nat.xor_self, Nat.xor_zero]
theorem stepN_two (x : Nat) : stepN (2 * x) = x := by
  unfold stepN
  rw [if_neg (by omega)]
  omega
theorem split16 (n : Nat) : n = (16 * (n / 16)) ^^^ (n % 16) := by
  apply Nat.eq_of_testBit_eq
  intro i
  rw [Nat.testBit_xor, show 16 * (n / 16) = 2 ^ 4 * (n / 16) from rfl, show n % 16 = n % 2 ^ 4 from rfl, show n / 16 = n / 2 ^ 4 from rfl, Nat.testBit_mod_two_pow, Nat.testBit_two_pow_mul, Nat.testBit_div_two_pow]
  by_cases h : i < 4
  · have : ¬ (4 ≤ i) := by omega
    simp [h, this]
  · have : 4 ≤ i := by omega
    simp [h, this]
/-- The table's. -/
def tabN (n : Nat) : Nat := tabL.getD (n % 16) 0
theorem step4_tab (n : Nat) : step4 n = (n / 16) ^^^ tabN n := by
  have h16 : ∀ q, step4 (16 * q) = q := fun q => by
    unfold step4
    rw [show 16 * q = 2 * (2 * (2 * (2 * q))) by omega, stepN_two, stepN_two, stepN_two, stepN_two]
  have hx : ∀ a b, step4 (a ^^^ b) = step4 a ^^^ step4 b := fun a b => by unfold step4; rw [stepN_xor, stepN_xor, stepN_xor, stepN_xor]
  have ht : ∀ r : _root_.Fin 16, step4 r.val = tabL.getD r.val 0 := by decide
  conv => lhs; rw [split16 n]
  rw [hx, h16, ht ⟨n % 16, by omega⟩]
  rfl
theorem stepN_lt {n : Nat} (h : n < 2 ^ 32) : stepN n < 2 ^ 32 := by
  unfold stepN
  split
  · exact Nat.xor_lt_two_pow (by omega) (by decide)
  · omega
/-- A byte more. -/
def crcB (n : Nat) (b : UInt8) : Nat := step4 (step4 (n ^^^ b.toNat))
def crcF (n : Nat) (l : List UInt8) : Nat := l.foldl crcB n
def crcN (sum : Nat) (l : List UInt8) : Nat := crcF (sum ^^^ 4294967295) l ^^^ 4294967295
theorem step4_lt {n : Nat} (h : n < 2 ^ 32) : step4 n < 2 ^ 32 := stepN_lt (stepN_lt (stepN_lt (stepN_lt h)))
theorem crcB_lt {n : Nat} (h : n < 2 ^ 32) (b : UInt8) : crcB n b < 2 ^ 32 := by
  have := b.toNat_lt
  exact step4_lt (step4_lt (Nat.xor_lt_two_pow h (by omega)))
theorem crcF_lt : ∀ (l : List UInt8) {n : Nat}, n < 2 ^ 32 → crcF n l < 2 ^ 32
  | [], _, h => h
  | b :: l, _, h => crcF_lt l (crcB_lt h b)
theorem crcN_lt {sum : Nat} (h : sum < 2 ^ 32) (l : List UInt8) : crcN sum l < 2 ^ 32 :=
  Nat.xor_lt_two_pow (crcF_lt l (Nat.xor_lt_two_pow h (by decide))) (by decide)
theorem crcF_append (n : Nat) (a b : List UInt8) : crcF n (a ++ b) = crcF (crcF n a) b := List.foldl_append ..
end Go.Av.Pl

namespace Go.Av
open Enc (enc dec)
open Cel (cs dc)
open Go.Proofs Pl

theorem xor32 {a b : Nat} (ha : a < 2 ^ 32) (hb : b < 2 ^ 32) : bitXor .u32 (a : Int) (b : Int) = ((a ^^^ b : Nat) : Int) := by
  unfold bitXor
  have e : (BitVec.ofInt 32 (a : Int) ^^^ BitVec.ofInt 32 (b : Int)).toNat = a ^^^ b := by
    rw [BitVec.ofInt_natCast, BitVec.ofInt_natCast, BitVec.toNat_xor, BitVec.toNat_ofNat, BitVec.toNat_ofNat, Nat.mod_eq_of_lt ha, Nat.mod_eq_of_lt hb]
  show IntKind.u32.wrap (((BitVec.ofInt 32 (a : Int) ^^^ BitVec.ofInt 32 (b : Int)).toNat : Nat) : Int) = _
  have := Nat.xor_lt_two_pow ha hb
  rw [e, IntWalk.u32_in _ (by omega)]
theorem and15 {a : Nat} (ha : a < 2 ^ 32) : bitAnd .u32 (a : Int) 15 = ((a % 16 : Nat) : Int) := by
  unfold bitAnd
  have e : (BitVec.ofInt 32 (a : Int) &&& BitVec.ofInt 32 (15 : Int)).toNat = a % 16 := by
    rw [BitVec.ofInt_natCast, show BitVec.ofInt 32 (15 : Int) = BitVec.ofNat 32 15 from rfl, BitVec.toNat_and, BitVec.toNat_ofNat, BitVec.toNat_ofNat, Nat.mod_eq_of_lt ha]
    exact Nat.and_two_pow_sub_one_eq_mod a 4
  show IntKind.u32.wrap (((BitVec.ofInt 32 (a : Int) &&& BitVec.ofInt 32 (15 : Int)).toNat : Nat) : Int) = _
  rw [e, IntWalk.u32_in _ (by omega)]
def u32V (n : Nat) : V := .val (.int .u32 n)
theorem c_bytes_Equal (a b : List UInt8) : Pure Try.prog n_bytes_Equal [enc a, enc b] (enc (a == b)) [] := by
  refine Pure.ofC OOk.nil hm F_bytes_Equal_ok (by simp [F_bytes_Equal]) rfl ?_
  simp [F_bytes_Equal]
theorem c_halves : Pure Try.prog n_crc_halves [] (.agg (tabL.map u32V)) [] := by
  refine Pure.ofC OOk.nil hm F_crc_halves_ok (by simp [F_crc_halves]) rfl ?_
  simp [F_crc_halves, tabL, u32V]
@[simp] def sp_halves : Option (V × List Tip) := some (.agg (tabL.map u32V), [])
def D6 : Orc := Orc.nil.add n_crc_halves (sp0 sp_halves)
theorem D6_ok : OOk Try.prog D6 := OOk.nil.add (sp0_ok fun r h => by cases h; exact c_halves)
def MoreI (sum : Nat) (l : List UInt8) (k : Nat) (s : Nat → V) (m : Mem) : Prop :=
  ∃ i : Nat, i + k = l.length ∧ s 0 = u32V (crcF sum (l.take i)) ∧ s 5 = .ptr 0 0 ∧ s 11 = .lit 1 (l.map cs) ∧ s 12 = .val (.int .i64 l.length) ∧ s 13 = .val (.int .i64 i) ∧ m = ⟨[tabL.map u32V], []⟩
theorem tab_get (n : Nat) : (tabL.map u32V)[n % 16]? = some (u32V (tabN n)) := by
  have : n % 16 < tabL.length := by show n % 16 < 16; omega
  rw [List.getElem?_map, List.getElem?_eq_getElem this]
  simp [tabN, List.getD_eq_getElem?_getD, List.getElem?_eq_getElem this]
theorem tab_lt (n : Nat) : tabN n < 2 ^ 32 := by
  have ht : ∀ r : _root_.Fin 16, tabL.getD r.val 0 < 2 ^ 32 := by decide
  exact ht ⟨n % 16, by omega⟩
theorem c_crc_More (sum : Nat) (l : List UInt8) (hs : sum < 2 ^ 32) (hl : l.length ≤ 2 ^ 40) : Pure Try.prog n_crc_More [u32V sum, enc l] (u32V (crcN sum l)) [] := by
  refine Pure.ofC D6_ok hm F_crc_More_ok (by simp [F_crc_More]) rfl ?_
  have hx := xor32 hs (show 4294967295 < 2 ^ 32 by decide)
  have hx' : bitXor .u32 (sum : Int) 4294967295 = ((sum ^^^ 4294967295 : Nat) : Int) := hx
  have hlt := Nat.xor_lt_two_pow hs (show 4294967295 < 2 ^ 32 by decide)
  have htl : (tabL.map u32V).length = 16 := rfl
  simp [F_crc_More, u32V, hx', D6]
  refine ⟨by rfl, ?_⟩
  refine wp_loop (MoreI (sum ^^^ 4294967295) l) l.length (IW.of ⟨0, Nat.zero_add _, by simp [u32V, crcF], by simp, by simp, by simp, by simp, by simp⟩) fun k s m ⟨i, hik, h0, h5, h11, h12, h13, hm⟩ => ?_
  subst hm
  have hc := crcF_lt (l.take i) hlt
  by_cases hi : i < l.length
  · have hg : l[i]? = some l[i] := List.getElem?_eq_getElem hi
    have hb := l[i].toNat_lt
    have hobj : isObj (tabL.map u32V) = false := rfl
    have w1 : IntKind.u32.wrap (l[i].toNat : Int) = l[i].toNat := IntWalk.u32_in _ (by omega)
    have x1 := xor32 hc (show l[i].toNat < 2 ^ 32 by omega)
    have hn1 := Nat.xor_lt_two_pow hc (show l[i].toNat < 2 ^ 32 by omega)
    have hd : ∀ n : Nat, (n : Int).fdiv (2 ^ min 4 IntKind.u32.bits) = ((n / 16 : Nat) : Int) := fun n => by
      rw [show min 4 IntKind.u32.bits = 4 from rfl, shr_eq]
    have hm16 : ∀ n : Nat, ((n % 16 : Nat) : Int) < 16 := fun n => by omega
    have a1 := and15 hn1
    have x2 := xor32 (show (crcF (sum ^^^ 4294967295) (l.take i) ^^^ l[i].toNat) / 16 < 2 ^ 32 by omega) (tab_lt (crcF (sum ^^^ 4294967295) (l.take i) ^^^ l[i].toNat))
    rw [← step4_tab] at x2
    have hn2 := step4_lt hn1
    have a2 := and15 hn2
    have x3 := xor32 (show step4 (crcF (sum ^^^ 4294967295) (l.take i) ^^^ l[i].toNat) / 16 < 2 ^ 32 by omega) (tab_lt (step4 (crcF (sum ^^^ 4294967295) (l.take i) ^^^ l[i].toNat)))
    rw [← step4_tab] at x3
    simp only [u32V] at h0
    have tg := tab_get
    simp only [u32V] at tg hobj
    simp [F_crc_More_L0, h0, h5, h11, h12, h13, hg, hi, hobj, w1, x1, hd, a1, x2, a2, x3, hm16, u32V, tg, -Int.natCast_emod, -Int.natCast_ediv, -List.getElem?_map]
    refine ⟨k - 1, by omega, IW.of (show MoreI (sum ^^^ 4294967295) l _ _ _ from ⟨i + 1, by omega, ?_, by simpa using h5, by simpa using h11, by simpa using h12, ?_, rfl⟩)⟩
    · have e1 : l.take (i + 1) = l.take i ++ [l[i]] := by rw [List.take_add_one, hg]; rfl
      have e2 : crcF (sum ^^^ 4294967295) (l.take (i + 1)) = crcB (crcF (sum ^^^ 4294967295) (l.take i)) l[i] := by rw [e1, crcF_append]; rfl
      rw [e2]
      simp [u32V, crcB]
    · simp; rw [IntWalk.i64_in _ (by omega)]
  · have hil : i = l.length := by omega
    have ht : l.take i = l := by rw [hil, List.take_length]
    rw [ht] at h0 hc
    have hx2 : bitXor .u32 ((crcF (sum ^^^ 4294967295) l : Nat) : Int) 4294967295 = ((crcN sum l : Nat) : Int) := xor32 hc (show 4294967295 < 2 ^ 32 by decide)
    simp only [u32V] at h0
    simp [F_crc_More_L0, h0, h12, h13, hi, hx2]

@[simp] def sp_More (s : UInt32) (l : List UInt8) : Option (V × List Tip) := if l.length ≤ 2 ^ 40 then some (u32V (crcN s.toNat l), []) else none
def D7 : Orc := Orc.nil.add n_crc_More (sp2 sp_More)
theorem D7_ok : OOk Try.prog D7 := OOk.nil.add (sp2_ok fun s l r h => by
  simp only [sp_More] at h
  split at h <;> cases h
  exact c_crc_More s.toNat l s.toNat_lt (by assumption))
theorem c_crc_Sum (l : List UInt8) (hl : l.length ≤ 2 ^ 40) : Pure Try.prog n_crc_Sum [enc l] (u32V (crcN 0 l)) [] := by
  refine Pure.ofC D7_ok hm F_crc_Sum_ok (by simp [F_crc_Sum]) rfl ?_
  simp [F_crc_Sum, D7, u32V]
  omega
@[simp] def sp_Sum (l : List UInt8) : Option (V × List Tip) := if l.length ≤ 2 ^ 40 then some (u32V (crcN 0 l), []) else none
/-- A text with its sum behind. -/
def sealS (l : List UInt8) : List UInt8 := l ++ leB (crcN 0 l) 4
theorem put4 (l b : List UInt8) : bytesPut b (crcN 0 l) 4 = b ++ leB (crcN 0 l) 4 ∧ errPut (crcN 0 l) 4 = 0 := by
  have h := crcN_lt (sum := 0) (by decide) l
  have : mayB (crcN 0 l) 4 = true := by simp [mayB]; exact h
  simp [bytesPut, errPut, this]
def D8 : Orc := (Orc.nil.add n_crc_Sum (sp1 sp_Sum)).add n_le_Put (sp3 sp_Put)
theorem D8_ok : OOk Try.prog D8 := by
  refine (OOk.nil.add (sp1_ok fun l r h => ?_)).add (sp3_ok fun b v w r h => ?_)
  · simp only [sp_Sum] at h
    split at h <;> cases h
    exact c_crc_Sum l (by assumption)
  · simp only [sp_Put] at h
    split at h <;> cases h
    exact c_le_Put b v w (by assumption)
theorem u64_32 {n : Nat} (h : n < 2 ^ 32) : IntKind.u64.wrap (n : Int) = n := IntWalk.u64_in _ (by omega)
theorem c_crc_Seal (l : List UInt8) (hl : l.length ≤ 2 ^ 40) : Pure Try.prog n_crc_Seal [enc l] (.row 0 1 ((sealS l).map cs)) [(5, 1, (sealS l).length)] := by
  refine Pure.ofR D8_ok hm F_crc_Seal_ok (by simp [F_crc_Seal]) (by simp [V.res, V.res1]) ?_
  have h := u64_32 (crcN_lt (sum := 0) (by decide) l)
  have h4 := put4 l l
  simp [F_crc_Seal, D8, u32V, h, h4.1, h4.2, sealS]
  omega
@[simp] def sp_Seal (l : List UInt8) : Option (V × List Tip) := if l.length ≤ 2 ^ 40 then some (.row 0 1 ((sealS l).map cs), [(5, 1, (sealS l).length)]) else none
@[simp] def sp_Equal (a b : List UInt8) : Option (V × List Tip) := some (enc (a == b), [])
def D9 : Orc := (Orc.nil.add n_crc_Seal (sp1 sp_Seal)).add n_bytes_Equal (sp2 sp_Equal)
theorem D9_ok : OOk Try.prog D9 := by
  refine (OOk.nil.add (sp1_ok fun l r h => ?_)).add (sp2_ok fun a b r h => ?_)
  · simp only [sp_Seal] at h
    split at h <;> cases h
    exact c_crc_Seal l (by assumption)
  · cases h; exact c_bytes_Equal a b
/-- The text of one. -/
def openOk (b : List UInt8) : Bool := decide (4 ≤ b.length) && (sealS (b.take (b.length - 4)) == b)
def openT (b : List UInt8) : List UInt8 := if openOk b = true then b.take (b.length - 4) else []
def openE (b : List UInt8) : Int := if openOk b = true then 0 else 20
theorem c_crc_Open (b : List UInt8) (hb : b.length ≤ 2 ^ 40) : Pure Try.prog n_crc_Open [enc b] (.tuple [.row 0 1 ((openT b).map cs), enc (openE b)]) [(5, 1, (openT b).length)] := by
  refine Pure.ofR D9_ok hm F_crc_Open_ok (by simp [F_crc_Open]) (by simp [V.res, V.res1]) ?_
  have hw : IntKind.i64.wrap ((b.length : Int) - 4) = (b.length : Int) - 4 := IntWalk.i64_in _ (by omega)
  by_cases h4 : 4 ≤ b.length
  · have hn : (4 : Int) ≤ b.length := by omega
    have h0 : (0 : Int) ≤ (b.length : Int) - 4 := by omega
    have hs : ((b.length : Int) - 4).toNat = b.length - 4 := by omega
    have hle : (b.length : Int) - 4 ≤ b.length := by omega
    have hb2 : b.length ≤ 1099511627780 := by omega
    have hb3 : b.length ≤ 140737488355332 := by omega
    cases he : (sealS (b.take (b.length - 4)) == b) with
    | true =>
      have he' : sealS (b.take (b.length - 4)) = b := by simpa using he
      simp [F_crc_Open, D9, hw, hn, hs, hle, he', hb2, hb3, openT, openE, openOk, h4]
    | false =>
      have he' : ¬ sealS (b.take (b.length - 4)) = b := by simpa using he
      simp [F_crc_Open, D9, hw, hn, hs, hle, he', hb2, openT, openE, openOk, h4]
  · have hn : ¬ ((4 : Int) ≤ b.length) := by omega
    simp [F_crc_Open, D9, hw, hn, openT, openE, openOk, h4]

-- The reference of chapter 2.
theorem c_r02_step (n : Nat) (h : n < 2 ^ 32) : Pure Try.prog n_r02_step [u32V n] (u32V (stepN n)) [] := by
  refine Pure.ofC OOk.nil hm F_r02_step_ok (by simp [F_r02_step]) rfl ?_
  have hq : IntKind.u32.wrap ((n : Int) / 2) = ((n / 2 : Nat) : Int) := by rw [IntWalk.u32_in _ (by omega)]; omega
  have hr : (n : Int).tmod 2 = ((n % 2 : Nat) : Int) := by rw [Int.tmod_eq_emod_of_nonneg (by omega)]; omega
  have hx : bitXor .u32 ((n / 2 : Nat) : Int) 2197175160 = ((n / 2 ^^^ poly : Nat) : Int) := xor32 (show n / 2 < 2 ^ 32 by omega) (show poly < 2 ^ 32 by decide)
  by_cases h1 : n % 2 = 1
  · simp [F_r02_step, u32V, hq, hr, hx, h1, stepN, -Int.natCast_emod, -Int.natCast_ediv]
  · have h1' : ¬ (((n % 2 : Nat) : Int) = 1) := by omega
    simp [F_r02_step, u32V, hq, hr, h1', h1, stepN, -Int.natCast_emod, -Int.natCast_ediv]
@[simp] def sp_step (n : UInt32) : Option (V × List Tip) := some (u32V (stepN n.toNat), [])
def D10 : Orc := Orc.nil.add n_r02_step (sp1 sp_step)
theorem D10_ok : OOk Try.prog D10 := OOk.nil.add (sp1_ok fun n r h => by cases h; exact c_r02_step n.toNat n.toNat_lt)
def stepK : Nat → Nat → Nat
  | 0, n => n
  | k + 1, n => stepK k (stepN n)
theorem stepK_lt : ∀ (k : Nat) {n : Nat}, n < 2 ^ 32 → stepK k n < 2 ^ 32
  | 0, _, h => h
  | k + 1, _, h => stepK_lt k (stepN_lt h)
theorem stepK_succ : ∀ (k n : Nat), stepK (k + 1) n = stepN (stepK k n)
  | 0, _ => rfl
  | k + 1, n => by rw [stepK, stepK_succ k]; rfl
def RMoreI (sum : Nat) (l : List UInt8) (k : Nat) (s : Nat → V) (m : Mem) : Prop :=
  ∃ i : Nat, i + k = l.length ∧ s 5 = u32V (crcF sum (l.take i)) ∧ s 1 = .lit 1 (l.map cs) ∧ s 6 = .val (.int .i64 i) ∧ m = ⟨[], []⟩
def RMoreJ (x : Nat) (l : List UInt8) (i : Nat) (k : Nat) (s : Nat → V) (m : Mem) : Prop :=
  ∃ j : Nat, j + k = 8 ∧ s 5 = u32V (stepK j x) ∧ s 1 = .lit 1 (l.map cs) ∧ s 6 = .val (.int .i64 i) ∧ s 7 = .val (.int .i64 j) ∧ m = ⟨[], []⟩
theorem c_r02_More (sum : Nat) (l : List UInt8) (hs : sum < 2 ^ 32) (hl : l.length ≤ 2 ^ 40) : Pure Try.prog n_r02_More [u32V sum, enc l] (u32V (crcN sum l)) [] := by
  refine Pure.ofC D10_ok hm F_r02_More_ok (by simp [F_r02_More]) rfl ?_
  have hx' : bitXor .u32 (sum : Int) 4294967295 = ((sum ^^^ 4294967295 : Nat) : Int) := xor32 hs (show 4294967295 < 2 ^ 32 by decide)
  have hlt := Nat.xor_lt_two_pow hs (show 4294967295 < 2 ^ 32 by decide)
  simp [F_r02_More, u32V, hx']
  refine wp_loop (RMoreI (sum ^^^ 4294967295) l) l.length (IW.of ⟨0, by omega, by simp [u32V, crcF], by simp, by simp, rfl⟩) fun k s m ⟨i, hik, h5, h1, h6, hm⟩ => ?_
  subst hm
  have hc := crcF_lt (l.take i) hlt
  simp only [u32V] at h5
  by_cases hi : i < l.length
  · have hg : l[i]? = some l[i] := List.getElem?_eq_getElem hi
    have hb := l[i].toNat_lt
    have w1 : IntKind.u32.wrap (l[i].toNat : Int) = l[i].toNat := IntWalk.u32_in _ (by omega)
    have x1 := xor32 hc (show l[i].toNat < 2 ^ 32 by omega)
    have hn1 := Nat.xor_lt_two_pow hc (show l[i].toNat < 2 ^ 32 by omega)
    simp [F_r02_More_L1, h5, h1, h6, hg, hi, w1, x1]
    refine wp_loop (RMoreJ (crcF (sum ^^^ 4294967295) (l.take i) ^^^ l[i].toNat) l i) 8 (IW.of ⟨0, by omega, by simp [u32V, stepK], by simpa using h1, by simpa using h6, by simp, rfl⟩) fun k2 s m ⟨j, hjk, h5, h1, h6, h7, hm⟩ => ?_
    subst hm
    have hcj := stepK_lt j hn1
    simp only [u32V] at h5
    by_cases hj : j < 8
    · have hj' : (j : Int) < 8 := by omega
      have hcj' : ((stepK j (crcF (sum ^^^ 4294967295) (l.take i) ^^^ l[i].toNat) : Nat) : Int) < 4294967296 := by omega
      have hmod : stepK j (crcF (sum ^^^ 4294967295) (l.take i) ^^^ l[i].toNat) % 4294967296 = stepK j (crcF (sum ^^^ 4294967295) (l.take i) ^^^ l[i].toNat) := Nat.mod_eq_of_lt hcj
      simp [F_r02_More_L0, D10, h5, h1, h6, h7, hj', hcj', hmod]
      refine ⟨k2 - 1, by omega, IW.of (show RMoreJ _ l i _ _ _ from ⟨j + 1, by omega, by simp [u32V, stepK_succ], by simpa using h1, by simpa using h6, ?_, rfl⟩)⟩
      simp; rw [IntWalk.i64_in _ (by omega)]
    · have hj' : ¬ ((j : Int) < 8) := by omega
      obtain rfl : j = 8 := by omega
      simp [F_r02_More_L0, h5, h1, h6, h7]
      refine ⟨k - 1, by omega, IW.of (show RMoreI (sum ^^^ 4294967295) l _ _ _ from ⟨i + 1, by omega, ?_, by simpa using h1, ?_, rfl⟩)⟩
      · have e1 : l.take (i + 1) = l.take i ++ [l[i]] := by rw [List.take_add_one, hg]; rfl
        have e2 : crcF (sum ^^^ 4294967295) (l.take (i + 1)) = crcB (crcF (sum ^^^ 4294967295) (l.take i)) l[i] := by rw [e1, crcF_append]; rfl
        rw [e2]
        simp [h5, u32V, crcB, step4, stepK]
      · simp; rw [IntWalk.i64_in _ (by omega)]
  · have hil : i = l.length := by omega
    have ht : l.take i = l := by rw [hil, List.take_length]
    rw [ht] at h5 hc
    have hx2 : bitXor .u32 ((crcF (sum ^^^ 4294967295) l : Nat) : Int) 4294967295 = ((crcN sum l : Nat) : Int) := xor32 hc (show 4294967295 < 2 ^ 32 by decide)
    simp [F_r02_More_L1, h5, h1, h6, hi, hx2]
def D11 : Orc := (Orc.nil.add n_r02_More (sp2 sp_More)).add n_r01_Put (sp3 sp_Put)
theorem D11_ok : OOk Try.prog D11 := by
  refine (OOk.nil.add (sp2_ok fun s l r h => ?_)).add (sp3_ok fun b v w r h => ?_)
  · simp only [sp_More] at h
    split at h <;> cases h
    exact c_r02_More s.toNat l s.toNat_lt (by assumption)
  · simp only [sp_Put] at h
    split at h <;> cases h
    exact c_r01_Put b v w (by assumption)
theorem c_r02_Seal (l : List UInt8) (hl : l.length ≤ 2 ^ 40) : Pure Try.prog n_r02_Seal [enc l] (.row 0 1 ((sealS l).map cs)) [(5, 1, (sealS l).length)] := by
  refine Pure.ofR D11_ok hm F_r02_Seal_ok (by simp [F_r02_Seal]) (by simp [V.res, V.res1]) ?_
  have h := u64_32 (crcN_lt (sum := 0) (by decide) l)
  have h4 := put4 l l
  simp [F_r02_Seal, D11, u32V, h, h4.1, h4.2, sealS]
  omega
end Go.Av

namespace Go.Av.Pl
def recOk (r : Rec) : Bool := decide (1 ≤ r.kind ∧ r.kind ≤ 5 ∧ 0 ≤ r.seq ∧ r.seq ≤ 4611686018427387903 ∧ r.body.length ≤ 4096)
def recE (r : Rec) : Int := if recOk r = true then 0 else 50
def recH (r : Rec) : List UInt8 := leB 1196184151 4 ++ (leB r.kind.toNat 2 ++ (leB r.body.length 2 ++ leB r.seq.toNat 8))
def recB (r : Rec) : List UInt8 := if recOk r = true then sealS (recH r ++ r.body) else []
def recSz (n : Int) : Int := if n < 0 ∨ 4096 < n then 0 else n + 20
/-- The first zone of a state that has room for so many bytes. -/
def dFirst (d : Dv) (q n : Int) : Int := zIdx (fun z => decide (z.st = q) && decide (n ≤ zRoom z d.size)) d.zones
def placeE (d : Dv) (n : Int) : Int := if dOk d = false ∨ n < 1 ∨ d.size < n then 1 else if 0 ≤ dFirst d 1 n then 0 else if dFirst d 0 n < 0 then 60 else 0
def placeN (d : Dv) (n : Int) : Int := if dOk d = false ∨ n < 1 ∨ d.size < n then 0 else if 0 ≤ dFirst d 1 n then dFirst d 1 n else if dFirst d 0 n < 0 then 0 else dFirst d 0 n
def placeL (d : Dv) (n : Int) : List Rec := if dOk d = false ∨ n < 1 ∨ d.size < n then [] else if 0 ≤ dFirst d 1 n then [] else if dFirst d 0 n < 0 then [] else if 3 ≤ stN 1 d.zones then [⟨3, dFirst d 1 0, []⟩] else []
end Go.Av.Pl
namespace Go.Av
open Enc (enc dec)
open Cel (cs dc)
open Go.Proofs Pl

theorem c_rSize (n : Int) : Pure Try.prog n_record_Size [enc n] (enc (recSz n)) [] := by
  refine Pure.ofC OOk.nil hm F_record_Size_ok (by simp [F_record_Size]) rfl ?_
  by_cases h1 : n < 0
  · simp [F_record_Size, recSz, h1]
  · by_cases h2 : 4096 < n
    · simp [F_record_Size, recSz, h1, h2]
    · have w1 := IntWalk.i64_in (16 + n) (by omega)
      have w2 := IntWalk.i64_in (16 + n + 4) (by omega)
      simp [F_record_Size, recSz, h1, h2, w1, w2]
      omega
theorem c_rCheck (r : Rec) : Pure Try.prog n_record_Check [enc r] (enc (recE r)) [] := by
  refine Pure.ofC OOk.nil hm F_record_Check_ok (by simp [F_record_Check]) rfl ?_
  obtain ⟨k, s, b⟩ := r
  by_cases h1 : k < 1
  · have : ¬ 1 ≤ k := by omega
    simp [F_record_Check, recE, recOk, h1, this]
  by_cases h2 : 5 < k
  · have : ¬ k ≤ 5 := by omega
    simp [F_record_Check, recE, recOk, h1, h2, this]
  by_cases h3 : s < 0
  · have : ¬ 0 ≤ s := by omega
    simp [F_record_Check, recE, recOk, h1, h2, h3, this]
  by_cases h4 : 4611686018427387903 < s
  · have : ¬ s ≤ 4611686018427387903 := by omega
    simp [F_record_Check, recE, recOk, h1, h2, h3, h4, this]
  by_cases h5 : 4096 < (b.length : Int)
  · have : ¬ b.length ≤ 4096 := by omega
    simp [F_record_Check, recE, recOk, h1, h2, h3, h4, h5, this]
  have e1 : 1 ≤ k := by omega
  have e2 : k ≤ 5 := by omega
  have e3 : 0 ≤ s := by omega
  have e4 : s ≤ 4611686018427387903 := by omega
  have e5 : b.length ≤ 4096 := by omega
  simp [F_record_Check, recE, recOk, h1, h2, h3, h4, h5, e1, e2, e3, e4, e5]
@[simp] def sp_rCheck (r : Rec) : Option (V × List Tip) := some (enc (recE r), [])
theorem sp_rCheck_ok : EOk Try.prog n_record_Check (sp1 sp_rCheck) := sp1_ok fun a r h => by cases h; exact c_rCheck a
theorem sp_zSeal_ok : EOk Try.prog n_crc_Seal (sp1 sp_Seal) := sp1_ok fun l r h => by
  simp only [sp_Seal] at h
  split at h <;> cases h
  exact c_crc_Seal l (by assumption)
def Dl1 : Orc := ((Orc.nil.add n_record_Check (sp1 sp_rCheck)).add n_le_Pack (sp2 sp_pack)).add n_crc_Seal (sp1 sp_Seal)
theorem Dl1_ok : OOk Try.prog Dl1 := ((OOk.nil.add sp_rCheck_ok).add sp_pack_ok).add sp_zSeal_ok
theorem f_whhq : formOk ⟨#[119, 104, 104, 113]⟩ = true := by decide
theorem recH_length (r : Rec) : (recH r).length = 16 := by simp [recH, leB_length]
theorem recOk_iff {r : Rec} : recOk r = true ↔ (1 ≤ r.kind ∧ r.kind ≤ 5 ∧ 0 ≤ r.seq ∧ r.seq ≤ 4611686018427387903 ∧ r.body.length ≤ 4096) := by simp [recOk]
theorem pack_rec {r : Rec} (h : recOk r = true) : packS [119, 104, 104, 113] [1196184151, r.kind.toNat, r.body.length, r.seq.toNat] = some (recH r) := by
  have h := recOk_iff.1 h
  have m1 : mayB 1196184151 4 = true := by decide
  have m2 : mayB r.kind.toNat 2 = true := by simp [mayB]; omega
  have m3 : mayB r.body.length 2 = true := by simp [mayB]; omega
  have m4 : mayB r.seq.toNat 8 = true := by simp [mayB]
  simp [packS, sizeL, m1, m2, m3, m4, recH]
theorem sealS_length (l : List UInt8) : (sealS l).length = l.length + 4 := by simp [sealS, leB_length]
theorem recB_length {r : Rec} (h : recOk r = true) : (recB r).length = r.body.length + 20 := by
  rw [recB, if_pos h, sealS_length, List.length_append, recH_length]; omega
theorem c_rWrite (r : Rec) : Pure Try.prog n_record_Write [enc r] (.tuple [enc (recB r), enc (recE r)]) [] := by
  refine Pure.ofC Dl1_ok hm F_record_Write_ok (by simp [F_record_Write]) (by simp [V.res, V.res1]) ?_
  by_cases h : recOk r = true
  · have h2 := recOk_iff.1 h
    have hp := pack_rec h
    have w1 := IntWalk.u64_in r.kind (by omega)
    have w2 := IntWalk.u64_in (r.body.length : Int) (by omega)
    have w3 := IntWalk.u64_in r.seq (by omega)
    have k1 : 0 ≤ r.kind := by omega
    have k2 := h2.2.2.1
    have hl := recH_length r
    have hb := h2.2.2.2.2
    obtain ⟨k, s, b⟩ := r
    simp at w1 w2 w3 k1 k2 hl hb hp
    have g1 : (recH ⟨k, s, b⟩).length + b.length ≤ 2 ^ 40 := by omega
    simp [F_record_Write, Dl1, recE, recB, h, w1, w2, w3, k1, k2, f_whhq, packB, packE, hp, hl, decX_cs, decX_append, clean_cs]
    omega
  · have h' : recOk r = false := by simpa using h
    obtain ⟨k, s, b⟩ := r
    simp [F_record_Write, Dl1, recE, recB, h', decX_cs]
@[simp] def sp_dCheck (d : Dv) : Option (V × List Tip) := if d.zones.length ≤ 2 ^ 40 then some (enc (dOk d), []) else none
theorem sp_dCheck_ok : EOk Try.prog n_dev_Check (sp1 sp_dCheck) := sp1_ok fun d r h => by
  simp only [sp_dCheck] at h
  split at h <;> cases h
  exact c_dCheck d (by assumption)
@[simp] def sp_dOpen (d : Dv) : Option (V × List Tip) := if d.zones.length ≤ 2 ^ 40 then some (enc (stN 1 d.zones : Int), []) else none
theorem sp_dOpen_ok : EOk Try.prog n_dev_Open (sp1 sp_dOpen) := sp1_ok fun d r h => by
  simp only [sp_dOpen] at h
  split at h <;> cases h
  exact c_dOpen d (by assumption)
@[simp] def sp_lFirst (d : Dv) (a b : Int) : Option (V × List Tip) := if d.zones.length ≤ 2 ^ 40 then some (enc (dFirst d a b), []) else none
theorem sp_lFirst_ok : EOk Try.prog n_log_first (sp3 sp_lFirst) := sp3_ok fun d a b r h => by
  simp only [sp_lFirst] at h
  split at h <;> cases h
  exact c_logFirst d a b (by assumption)
def Dl2 : Orc := ((Orc.nil.add n_dev_Check (sp1 sp_dCheck)).add n_dev_Open (sp1 sp_dOpen)).add n_log_first (sp3 sp_lFirst)
theorem Dl2_ok : OOk Try.prog Dl2 := ((OOk.nil.add sp_dCheck_ok).add sp_dOpen_ok).add sp_lFirst_ok
theorem c_lPlace (d : Dv) (n : Int) (hl : d.zones.length ≤ 2 ^ 40) : Pure Try.prog n_log_Place [enc d, enc n] (.tuple [enc (placeN d n), .row 0 3 ((placeL d n).map cs), enc (placeE d n)]) [(89, 3, (placeL d n).length)] := by
  refine Pure.ofR Dl2_ok hm F_log_Place_ok (by simp [F_log_Place]) (by simp [V.res, V.res1]) ?_
  by_cases h1 : dOk d = true
  · by_cases h2 : n < 1
    · simp [F_log_Place, Dl2, decX_map, hl, h1, h2, placeN, placeL, placeE]
    by_cases h3 : d.size < n
    · simp [F_log_Place, Dl2, decX_map, hl, h1, h2, h3, placeN, placeL, placeE]
    by_cases h4 : 0 ≤ dFirst d 1 n
    · simp [F_log_Place, Dl2, decX_map, hl, h1, h2, h3, h4, placeN, placeL, placeE]
    by_cases h5 : dFirst d 0 n < 0
    · simp [F_log_Place, Dl2, decX_map, hl, h1, h2, h3, h4, h5, placeN, placeL, placeE]
    by_cases h6 : 3 ≤ (stN 1 d.zones : Int)
    · have h6' : 3 ≤ stN 1 d.zones := by omega
      simp [F_log_Place, Dl2, decX_map, hl, h1, h2, h3, h4, h5, h6, h6', placeN, placeL, placeE]
    · have h6' : ¬ 3 ≤ stN 1 d.zones := by omega
      simp [F_log_Place, Dl2, decX_map, hl, h1, h2, h3, h4, h5, h6, h6', placeN, placeL, placeE]
  · have h1' : dOk d = false := by simpa using h1
    simp [F_log_Place, Dl2, decX_map, hl, h1', placeN, placeL, placeE]
end Go.Av

namespace Go.Av.Pl
structure Cx where
  re : Nat
  im : Nat
deriving DecidableEq
/-- What a command makes of its zone, if it is done. -/
def dDoZ (d : Dv) (c : Rec) : Option Zo := (d.zones[c.seq.toNat]?).bind fun z => if 0 ≤ c.seq ∧ 1 ≤ c.kind ∧ c.kind ≤ 4 ∧ (dCmd c.kind d z c.body).2 = 0 then some (dCmd c.kind d z c.body).1 else none
def dDoR (d : Dv) (c : Rec) : Option Dv := if dOk d = true ∧ d.down = false ∧ ¬ d.left = 0 ∧ (-(2 ^ 62) ≤ d.left ∧ d.left ≤ 2 ^ 62) ∧ (0 ≤ d.done ∧ d.done ≤ 2 ^ 62) ∧ c.body.length ≤ 2 ^ 30 then (dDoZ d c).map fun z => dDid d (d.zones.set c.seq.toNat z) else none
/-- The commands that append a record. -/
def cmdL (d : Dv) (r : Rec) : List Rec := placeL d (recB r).length ++ [⟨1, placeN d (recB r).length, recB r⟩]
def oneD (d : Dv) (r : Rec) : Option Dv := (cmdL d r).foldlM dDoR d
def oneC (d : Dv) (r : Rec) : Cx := ⟨FloatKind.f64.nearest (placeN d (recB r).length), FloatKind.f64.nearest ((d.zones.getD (placeN d (recB r).length).toNat ⟨0, 0, [], 0⟩).data.length : Int)⟩
def one1 (d : Dv) (r : Rec) : Option (Dv × Cx × Int) :=
  if d.zones.length ≤ 2 ^ 40 then (if recOk r = false then some (d, ⟨0, 0⟩, 50) else if placeE d (recB r).length ≠ 0 then some (d, ⟨0, 0⟩, placeE d (recB r).length) else (oneD d r).map fun d' => (d', oneC d r, 0)) else none
end Go.Av.Pl
namespace Go.Av
open Enc (enc dec)
open Cel (cs dc)
open Go.Proofs Pl

instance : Enc Cx where
  enc x := .val (.complex .f64 x.re x.im)
  dec v := match v with
    | .val (.complex .f64 a b) => some ⟨a, b⟩
    | _ => none
  cl x := rfl
  ok v x h M w us hr := by
    split at h
    · cases h; exact hr
    · cases h
  de x := rfl
instance : Cel Cx := ⟨1, fun a => [enc a], dc1, fun _ => rfl, dc1_ok, fun a => by simp [Enc.cl], fun a => by simp [dc1, Enc.de]⟩
@[simp] theorem dv_eta (d : Dv) : (⟨d.size, d.zones, d.left, d.down, d.done⟩ : Dv) = d := rfl
@[simp] theorem rec_eta (d : Rec) : (⟨d.kind, d.seq, d.body⟩ : Rec) = d := rfl
@[simp] theorem zo_eta (d : Zo) : (⟨d.st, d.rs, d.data, d.la⟩ : Zo) = d := rfl
@[simp] theorem enc_cx (n : Cx) : (enc n : V) = .val (.complex .f64 n.re n.im) := rfl
@[simp] theorem dec_cx (a b : Nat) : (dec (.val (.complex .f64 a b)) : Option Cx) = some ⟨a, b⟩ := rfl
@[simp] theorem cs_cx (n : Cx) : cs n = [.val (.complex .f64 n.re n.im)] := rfl
@[simp] theorem dc_cx (l : List V) : (dc l : Option Cx) = dc1 l := rfl
@[simp] theorem sz_cx : Cel.sz Cx = 1 := rfl
@[simp] def sp_dDo (d : Dv) (c : Rec) : Option (V × List Tip) := (dDoR d c).map fun d' => (.tuple [enc d', .val (.int .i64 0)], [])
theorem sp_dDo_ok : EOk Try.prog n_dev_Do (sp2 sp_dDo) := sp2_ok fun d c r h => by
  simp only [sp_dDo, Option.map_eq_some_iff] at h
  obtain ⟨d', hd, rfl⟩ := h
  unfold dDoR at hd
  split at hd
  · rename_i hc
    obtain ⟨k1, k2, k3, k4, k5, k6⟩ := hc
    simp only [Option.map_eq_some_iff] at hd
    obtain ⟨z, hz, rfl⟩ := hd
    unfold dDoZ at hz
    simp only [Option.bind_eq_some_iff] at hz
    obtain ⟨z0, hz0, hz⟩ := hz
    split at hz
    · rename_i hq
      cases hz
      obtain ⟨q1, q2, q3, q4⟩ := hq
      obtain ⟨k, n, b⟩ := c
      simp only at q1 q2 q3 q4 hz0 k6 ⊢
      obtain ⟨hi, he⟩ := List.getElem?_eq_some_iff.1 hz0
      have en : ((n.toNat : Nat) : Int) = n := Int.toNat_of_nonneg q1
      have hcm : CmdOk k d n.toNat b hi (dCmd k d z0 b).1 := ⟨k6, by rw [he]; exact Prod.ext rfl q4, k1, k2, k3, k4, k5⟩
      have hk : k = 1 ∨ k = 2 ∨ k = 3 ∨ k = 4 := by omega
      have key := fun fid h1 h2 h3 h4 => c_dDo k fid h1 h2 h3 h4 d n.toNat b hi _ hcm
      rw [en] at key
      rcases hk with rfl | rfl | rfl | rfl
      · exact key n_dev_command_append (by decide) (by simp [doesK]) sp_capp_ok (by decide)
      · exact key n_dev_command_reset (by decide) (by simp [doesK]) sp_cres_ok (by decide)
      · exact key n_dev_command_finish (by decide) (by simp [doesK]) sp_cfin_ok (by decide)
      · exact key n_dev_command_close (by decide) (by simp [doesK]) sp_cclo_ok (by decide)
    · cases hz
  · cases hd
@[simp] def sp_rWrite (r : Rec) : Option (V × List Tip) := some (.tuple [enc (recB r), enc (recE r)], [])
theorem sp_rWrite_ok : EOk Try.prog n_record_Write (sp1 sp_rWrite) := sp1_ok fun a r h => by cases h; exact c_rWrite a
@[simp] def sp_lPlace (d : Dv) (n : Int) : Option (V × List Tip) := if d.zones.length ≤ 2 ^ 40 then some (.tuple [enc (placeN d n), .row 0 3 ((placeL d n).map cs), enc (placeE d n)], [(89, 3, (placeL d n).length)]) else none
theorem sp_lPlace_ok : EOk Try.prog n_log_Place (sp2 sp_lPlace) := sp2_ok fun a n r h => by
  simp only [sp_lPlace] at h
  split at h <;> cases h
  exact c_lPlace a n (by assumption)
def Dm1 : Orc := ((Orc.nil.add n_dev_Do (sp2 sp_dDo)).add n_record_Write (sp1 sp_rWrite)).add n_log_Place (sp2 sp_lPlace)
theorem Dm1_ok : OOk Try.prog Dm1 := ((OOk.nil.add sp_dDo_ok).add sp_rWrite_ok).add sp_lPlace_ok
theorem run_step {d d' : Dv} {l : List Rec} (h : l.foldlM dDoR d = some d') (i : Nat) (hi : i < l.length) : ∃ a b, (l.take i).foldlM dDoR d = some a ∧ dDoR a l[i] = some b ∧ (l.take (i + 1)).foldlM dDoR d = some b := by
  have e1 : l = l.take i ++ (l[i] :: l.drop (i + 1)) := by simp
  rw [e1, List.foldlM_append] at h
  simp only [Option.bind_eq_bind, Option.bind_eq_some_iff, List.foldlM_cons] at h
  obtain ⟨a, ha, b, hb, _⟩ := h
  refine ⟨a, b, ha, hb, ?_⟩
  rw [List.take_add_one, List.getElem?_eq_getElem hi, List.foldlM_append, ha]
  simp [hb]
def OneI (d : Dv) (l : List Rec) (c : Cx) (k : Nat) (s : Nat → V) (m : Mem) : Prop :=
  ∃ (i : Nat) (di : Dv) (t : Nat) (b1 : List V) (r : List (List V)), i + k = l.length ∧ (l.take i).foldlM dDoR d = some di ∧ s 51 = .row t 3 (l.map cs) ∧ s 52 = .val (.int .i64 l.length) ∧ s 53 = .val (.int .i64 i) ∧ s 2 = .ptr 0 0 ∧ s 4 = .ptr 2 0 ∧ s 8 = .val (.int .i64 0) ∧ s 11 = enc c ∧
    m.boxes = cs di :: b1 :: zeroDv :: r
theorem placeL_len (d : Dv) (n : Int) : (placeL d n).length ≤ 1 := by
  unfold placeL
  repeat' split
  all_goals simp
theorem zIdx_lt {pr : Zo → Bool} {l : List Zo} (h : 0 ≤ zIdx pr l) : ∃ (i : Nat) (hi : i < l.length), zIdx pr l = i ∧ pr l[i] = true := by
  unfold zIdx at h ⊢
  split at h
  · rename_i i e
    obtain ⟨hi, hp, _⟩ := List.findIdx?_eq_some_iff_getElem.1 e
    exact ⟨i, hi, rfl, hp⟩
  · omega
theorem place_lt {d : Dv} {n : Int} (h : placeE d n = 0) : ∃ (i : Nat), i < d.zones.length ∧ placeN d n = i := by
  unfold placeE at h
  unfold placeN
  split at h
  · cases h
  · rename_i h1
    rw [if_neg h1]
    split at h
    · rename_i h2
      rw [if_pos h2]
      obtain ⟨i, hi, e, _⟩ := zIdx_lt h2
      exact ⟨i, hi, e⟩
    · rename_i h2
      rw [if_neg h2]
      split at h
      · cases h
      · rename_i h3
        rw [if_neg h3]
        obtain ⟨i, hi, e, _⟩ := zIdx_lt (show 0 ≤ dFirst d 0 n by omega)
        exact ⟨i, hi, e⟩
theorem c_lOne (d : Dv) (r : Rec) (R : Dv × Cx × Int) (h : one1 d r = some R) : Pure Try.prog n_log_one [enc d, enc r] (.tuple [enc R.1, enc R.2.1, enc R.2.2]) [] := by
  refine Pure.ofC Dm1_ok hm F_log_one_ok (by simp [F_log_one]) (by simp [V.res, V.res1]) ?_
  unfold one1 at h
  split at h
  case isFalse => cases h
  rename_i hl
  split at h
  · rename_i h1
    cases h
    have e1 : recE r = 50 := by simp [recE, h1]
    simp [F_log_one, Dm1, e1, decX_cs]
  rename_i h1
  have h1 : recOk r = true := by simpa using h1
  have e1 : recE r = 0 := by simp [recE, h1]
  split at h
  · rename_i h2
    cases h
    simp [F_log_one, Dm1, e1, decX_cs, decX_map, hl, h2]
  rename_i h2
  have h2 : placeE d (recB r).length = 0 := by simpa using h2
  simp only [Option.map_eq_some_iff] at h
  obtain ⟨d', hd, rfl⟩ := h
  obtain ⟨i, hi, hn⟩ := place_lt h2
  have hg : d.zones[i]? = some d.zones[i] := List.getElem?_eq_getElem hi
  have hll := placeL_len d (recB r).length
  have hc : oneC d r = ⟨FloatKind.f64.nearest (i : Int), FloatKind.f64.nearest (d.zones[i].data.length : Int)⟩ := by simp [oneC, hn, List.getD_eq_getElem?_getD, hg]
  have hm : (cmdL d r).map cs = (placeL d (recB r).length).map cs ++ [[V.val (.int .i64 1), .val (.int .i64 i), .lit 1 ((recB r).map cs)]] := by simp [cmdL, hn]
  have hlen : (cmdL d r).length = (placeL d (recB r).length).length + 1 := by simp [cmdL]
  simp [F_log_one, Dm1, e1, decX_cs, decX_map, hl, h2, hn, hg]
  refine ⟨by omega, wp_loop (OneI d (cmdL d r) (oneC d r)) (cmdL d r).length (IW.of ⟨0, d, 0, cs r, [], by omega, rfl, by rw [hm]; simp, by rw [hlen]; simp, by simp, by simp, by simp, by simp, by rw [hc]; simp, by simp [zeroDv]⟩) fun k s m ⟨j, di, t, b1, rr, hjk, hdi, s51, s52, s53, s2, s4, s8, s11, hb⟩ => ?_⟩
  obtain ⟨bx, tips⟩ := m
  simp only at hb
  subst hb
  by_cases hj : j < (cmdL d r).length
  · have hjg : (cmdL d r)[j]? = some (cmdL d r)[j] := List.getElem?_eq_getElem hj
    have w1 := IntWalk.i64_in ((j : Int) + 1) (by omega)
    obtain ⟨a, b, ha, hb, hab⟩ := run_step hd j hj
    rw [hdi] at ha
    cases ha
    simp [F_log_one_L0, Dm1, zeroDv, s51, s52, s53, s2, s4, s8, hj, hjg, w1, decX_cs, decX_map, hb]
    refine ⟨k - 1, by omega, IW.of ⟨j + 1, b, t, b1, _, by omega, hab, by simpa using s51, by simpa using s52, by simp, by simpa using s2, by simpa using s4, by simp, by simpa using s11, by rfl⟩⟩
  · have e : (cmdL d r).take j = cmdL d r := List.take_of_length_le (by omega)
    rw [e] at hdi
    have : di = d' := Option.some.inj (hdi.symm.trans hd)
    subst this
    simp [F_log_one_L0, zeroDv, s51, s52, s53, s2, s4, s8, s11, hj, clean_cs]
end Go.Av

namespace Go.Av.Pl
def appR : Dv → List Rec → Option (Dv × List Cx × Int)
  | d, [] => some (d, [], 0)
  | d, r :: l => (one1 d r).bind fun R => if R.2.2 ≠ 0 then some (R.1, [], R.2.2) else (appR R.1 l).map fun Q => (Q.1, R.2.1 :: Q.2.1, Q.2.2)
end Go.Av.Pl
namespace Go.Av
open Enc (enc dec)
open Cel (cs dc)
open Go.Proofs Pl

@[simp] def sp_dLimit (d : Dv) (n : Int) : Option (V × List Tip) := if d.zones.length ≤ 2 ^ 40 ∧ d.zones.all (fun z => decide (z.data.length ≤ 2 ^ 30)) = true ∧ d.zones ≠ [] then some (enc { d with left := n }, []) else none
theorem sp_dLimit_ok : EOk Try.prog n_dev_Limit (sp2 sp_dLimit) := sp2_ok fun d n r h => by
  simp only [sp_dLimit] at h
  split at h <;> cases h
  rename_i hc
  exact c_dLimit d n ⟨hc.1, fun z hz => by simpa using List.all_eq_true.1 hc.2.1 z hz⟩ hc.2.2
@[simp] def sp_lOne (d : Dv) (r : Rec) : Option (V × List Tip) := (one1 d r).map fun R => (.tuple [enc R.1, enc R.2.1, enc R.2.2], [])
theorem sp_lOne_ok : EOk Try.prog n_log_one (sp2 sp_lOne) := sp2_ok fun d c r h => by
  simp only [sp_lOne, Option.map_eq_some_iff] at h
  obtain ⟨R, hR, rfl⟩ := h
  exact c_lOne d c R hR
def Do1 : Orc := (Orc.nil.add n_dev_Limit (sp2 sp_dLimit)).add n_log_one (sp2 sp_lOne)
theorem Do1_ok : OOk Try.prog Do1 := (OOk.nil.add sp_dLimit_ok).add sp_lOne_ok
theorem appR_len : ∀ {l : List Rec} {d : Dv} {R : Dv × List Cx × Int}, appR d l = some R → R.2.1.length ≤ l.length
  | [], d, R, h => by cases h; simp
  | r :: l, d, R, h => by
    simp only [appR, Option.bind_eq_some_iff] at h
    obtain ⟨Q, hQ, h⟩ := h
    split at h
    · cases h; simp
    · simp only [Option.map_eq_some_iff] at h
      obtain ⟨Q2, hQ2, rfl⟩ := h
      have := appR_len hQ2
      simp only [List.length_cons]
      omega
def AppI (d : Dv) (l : List Rec) (k : Nat) (s : Nat → V) (m : Mem) : Prop :=
  ∃ (i : Nat) (di : Dv) (p : List Cx) (t : Nat) (b0 : List V) (r : List (List V)) (tips : List Tip), i + k = l.length ∧ appR d l = (appR di (l.drop i)).map (fun Q => (Q.1, p ++ Q.2.1, Q.2.2)) ∧ p.length ≤ i ∧ s 14 = .lit 3 (l.map cs) ∧ s 15 = .val (.int .i64 l.length) ∧ s 16 = .val (.int .i64 i) ∧ s 4 = .ptr 1 0 ∧
    s 5 = .row t 1 (p.map cs) ∧ m = ⟨b0 :: cs di :: r, tips⟩ ∧ tips[t]? = some (91, 1, p.length)
theorem c_lAppend (d : Dv) (l : List Rec) (hs : DSm d) (hne : d.zones ≠ []) (hl : l.length ≤ 2 ^ 30) (R : Dv × List Cx × Int) (h : appR d l = some R) : Pure Try.prog n_log_Append [enc d, enc l] (.tuple [enc R.1, enc R.2.1, enc R.2.2]) [] := by
  refine Pure.ofC Do1_ok hm F_log_Append_ok (by simp [F_log_Append]) (by simp [V.res, V.res1]) ?_
  have hz : d.zones.all (fun z => decide (z.data.length ≤ 2 ^ 30)) = true := List.all_eq_true.2 fun z hz => by simpa using hs.z z hz
  have hsn := hs.n
  simp only [Nat.reducePow] at hz hsn hl
  simp [F_log_Append, Do1, decX_map, hsn, hne]
  simp at hz
  refine ⟨hz, wp_loop (AppI d l) l.length (IW.of ⟨0, d, [], 0, cs d, [], [(91, 1, 0)], by omega, by simp, by simp, by simp, by simp, by simp, by simp, by simp, by simp, by simp⟩) fun k s m ⟨i, di, p, t, b0, r, tips, hik, hap, hpl, s14, s15, s16, s4, s5, hm, ht⟩ => ?_⟩
  subst hm
  rw [h] at hap
  by_cases hi : i < l.length
  · have hg : l[i]? = some l[i] := List.getElem?_eq_getElem hi
    have w1 := IntWalk.i64_in ((i : Int) + 1) (by omega)
    rw [List.drop_eq_getElem_cons hi] at hap
    cases h1 : one1 di l[i] with
    | none => simp [appR, h1] at hap
    | some Q =>
      simp only [appR, h1, Option.bind_some] at hap
      by_cases he : Q.2.2 = 0
      · simp only [he, ne_eq, not_true_eq_false, if_false] at hap
        simp [F_log_Append_L0, Do1, s14, s15, s16, s4, s5, hi, hg, w1, decX_cs, decX_map, h1, he, ht]
        refine ⟨by omega, k - 1, by omega, IW.of ⟨i + 1, Q.1, p ++ [Q.2.1], t, b0, _, _, by omega, ?_, by simp; omega, by simpa using s14, by simpa using s15, by simp, by simpa using s4, by simp, by rfl, by rw [List.getElem?_set_self (lt_of_some ht)]; simp⟩⟩
        rw [h, hap, Option.map_map]
        congr 1
        funext Q2
        simp
      · simp only [he, ne_eq, not_false_eq_true, if_true, Option.map_some, Option.some.injEq] at hap
        subst hap
        simp [F_log_Append_L0, Do1, s14, s15, s16, s4, s5, hi, hg, w1, decX_cs, decX_map, h1, he, clean_cs]
  · rw [List.drop_eq_nil_of_le (by omega)] at hap
    simp only [appR, Option.map_some, List.append_nil, Option.some.injEq] at hap
    subst hap
    simp [F_log_Append_L0, s14, s15, s16, s4, s5, hi, clean_cs]
end Go.Av

namespace Go.Av.Pl
def zAdd (z : Zo) (s : Int) (b : List UInt8) : Zo := { z with data := z.data ++ b, st := zFill (z.data ++ b).length s 1 }
def zEnd (z : Zo) : Zo := { z with st := 3 }
/-- A device that does commands. -/
structure DG (d : Dv) (k : Nat) : Prop where
  ok : dOk d = true
  dn : d.down = false
  lf : d.left = -1
  dd : 0 ≤ d.done ∧ d.done ≤ k
  op : stN 1 d.zones ≤ 3

theorem cnt_set (p : Zo → Bool) : ∀ (l : List Zo) (i : Nat) (hi : i < l.length) (z : Zo), (l.set i z).countP p + (p l[i]).toNat = l.countP p + (p z).toNat
  | a :: l, 0, hi, z => by
    simp only [List.set_cons_zero, List.countP_cons, List.getElem_cons_zero]
    cases p a <;> cases p z <;> simp <;> omega
  | a :: l, i + 1, hi, z => by
    have := cnt_set p l i (by simpa using hi) z
    simp only [List.set_cons_succ, List.countP_cons, List.getElem_cons_succ]
    omega
theorem sum_set (f : Zo → Nat) : ∀ (l : List Zo) (i : Nat) (hi : i < l.length) (z : Zo), ((l.set i z).map f).sum + f l[i] = (l.map f).sum + f z
  | a :: l, 0, hi, z => by
    simp only [List.set_cons_zero, List.map_cons, List.sum_cons, List.getElem_cons_zero]
    omega
  | a :: l, i + 1, hi, z => by
    have := sum_set f l i (by simpa using hi) z
    simp only [List.set_cons_succ, List.map_cons, List.sum_cons, List.getElem_cons_succ]
    omega
theorem stN_set (q : Int) (l : List Zo) (i : Nat) (hi : i < l.length) (z : Zo) : stN q (l.set i z) + (if l[i].st = q then 1 else 0) = stN q l + (if z.st = q then 1 else 0) := by
  have := cnt_set (fun z => decide (z.st = q)) l i hi z
  unfold stN
  by_cases h1 : l[i].st = q <;> by_cases h2 : z.st = q <;> simp [h1, h2] at this ⊢ <;> omega
theorem dOk_iff {d : Dv} : dOk d = true ↔ (∀ z ∈ d.zones, zOk z d.size = true) ∧ 0 < d.zones.length ∧ d.zones.length ≤ 64 ∧ 0 < d.size ∧ d.size ≤ 1048576 := by
  simp only [dOk, Bool.and_eq_true, Bool.not_eq_true', decide_eq_true_eq, List.any_eq_false]
  constructor
  · rintro ⟨h1, h2⟩
    exact ⟨fun z hz => by simpa using h1 z hz, h2⟩
  · rintro ⟨h1, h2⟩
    exact ⟨fun z hz => by simpa using h1 z hz, h2⟩
theorem zOk_iff {z : Zo} {n : Int} : zOk z n = true ↔ (1 ≤ n ∧ n ≤ 1048576 ∧ (z.data.length : Int) ≤ n ∧ 0 ≤ z.la ∧ z.la ≤ z.data.length ∧ 0 ≤ z.rs ∧ z.rs ≤ 1073741824) ∧
    ((z.st = 0 ∧ z.data.length = 0) ∨ ((z.st = 1 ∨ z.st = 2) ∧ 0 < z.data.length ∧ (z.data.length : Int) < n) ∨ z.st = 3) := by
  simp only [zOk, Bool.and_eq_true, decide_eq_true_eq]
  refine and_congr_right fun _ => ?_
  by_cases h0 : z.st = 0
  · simp [h0]
  · by_cases h1 : z.st = 1
    · simp [h1, zTakes]
    · by_cases h2 : z.st = 2
      · simp [h2, zTakes]
      · simp [h0, h1, h2, zTakes]
theorem zRoom_pos {z : Zo} {n k : Int} (hk : 0 < k) (h : k ≤ zRoom z n) : zOk z n = true ∧ zTakes z = true ∧ k + z.data.length ≤ n := by
  unfold zRoom at h
  split at h
  · rename_i hc
    exact ⟨hc.1, hc.2, by omega⟩
  · omega
theorem zAdd_ok {z : Zo} {n : Int} {b : List UInt8} (hb : b ≠ []) (h : (b.length : Int) ≤ zRoom z n) : zOk (zAdd z n b) n = true ∧ ((zAdd z n b).st = 1 ∨ (zAdd z n b).st = 3 ∧ ((zAdd z n b).data.length : Int) = n) := by
  have hb0 : 0 < b.length := List.length_pos_iff.2 hb
  obtain ⟨h1, h2, h3⟩ := zRoom_pos (by omega) h
  have h4 := zOk_iff.1 h1
  have hne : ¬ (z.data ++ b).length = 0 := by rw [List.length_append]; omega
  by_cases hf : ((z.data ++ b).length : Int) = n
  · have e : zAdd z n b = { z with data := z.data ++ b, st := 3 } := by simp only [zAdd, zFill]; rw [if_neg hne, if_pos hf]
    rw [e]
    refine ⟨zOk_iff.2 ⟨⟨h4.1.1, h4.1.2.1, ?_, h4.1.2.2.2.1, ?_, h4.1.2.2.2.2.2.1, h4.1.2.2.2.2.2.2⟩, .inr (.inr rfl)⟩, .inr ⟨rfl, hf⟩⟩
    · simp; omega
    · have := h4.1.2.2.2.2.1
      simp
      omega
  · have e : zAdd z n b = { z with data := z.data ++ b, st := 1 } := by simp only [zAdd, zFill]; rw [if_neg hne, if_neg hf]
    rw [e]
    have hl : ((z.data ++ b).length : Int) = z.data.length + b.length := by simp
    refine ⟨zOk_iff.2 ⟨⟨h4.1.1, h4.1.2.1, ?_, h4.1.2.2.2.1, ?_, h4.1.2.2.2.2.2.1, h4.1.2.2.2.2.2.2⟩, .inr (.inl ⟨.inl rfl, ?_, ?_⟩)⟩, .inl rfl⟩
    · simp; omega
    · have := h4.1.2.2.2.2.1
      simp
      omega
    · simp; omega
    · simp only
      omega
theorem zApp_ok {z : Zo} {n : Int} {b : List UInt8} (hb : b ≠ []) (h : (b.length : Int) ≤ zRoom z n) : zApp z n b = (zAdd z n b, 0) := by
  have hb0 : 0 < b.length := List.length_pos_iff.2 hb
  obtain ⟨h1, h2, h3⟩ := zRoom_pos (by omega) h
  unfold zApp
  rw [if_neg (by simp [h1, hb]), if_pos h]
  rfl
theorem dOk_set {d : Dv} (h : dOk d = true) {i : Nat} {z : Zo} (hz : zOk z d.size = true) (l : Int) (w : Bool) (k : Int) : dOk ⟨d.size, d.zones.set i z, l, w, k⟩ = true := by
  have h := dOk_iff.1 h
  refine dOk_iff.2 ⟨fun y hy => ?_, by simpa using h.2⟩
  rcases List.mem_or_eq_of_mem_set hy with hy | rfl
  · exact h.1 y hy
  · exact hz
/-- An append that is done. -/
theorem do_app {d : Dv} {k : Nat} (hg : DG d k) (hk : k ≤ 2 ^ 62) {i : Nat} (hi : i < d.zones.length) {b : List UInt8} (hb : b ≠ []) (hbl : b.length ≤ 2 ^ 30) (hr : (b.length : Int) ≤ zRoom d.zones[i] d.size) (ho : d.zones[i].st = 1 ∨ stN 1 d.zones < 3) :
    dDoR d ⟨1, i, b⟩ = some (dDid d (d.zones.set i (zAdd d.zones[i] d.size b))) ∧ DG (dDid d (d.zones.set i (zAdd d.zones[i] d.size b))) (k + 1) := by
  have hc : dCmd 1 d d.zones[i] b = (zAdd d.zones[i] d.size b, 0) := by
    simp only [dCmd, if_true]
    rw [if_neg (by rintro ⟨h1, h2⟩; rcases ho with h | h <;> first | exact h1 h | omega), zApp_ok hb hr]
  refine ⟨?_, ?_⟩
  · have hz : dDoZ d ⟨1, i, b⟩ = some (zAdd d.zones[i] d.size b) := by
      simp only [dDoZ, Int.toNat_natCast, List.getElem?_eq_getElem hi, Option.bind_some, hc]
      rw [if_pos ⟨by omega, by omega, by omega, trivial⟩]
    unfold dDoR
    rw [if_pos ⟨hg.ok, hg.dn, by rw [hg.lf]; omega, by rw [hg.lf]; omega, by have := hg.dd; omega, hbl⟩, hz]
    rfl
  · obtain ⟨h1, h2⟩ := zAdd_ok hb hr
    refine ⟨dOk_set hg.ok h1 _ _ _, hg.dn, ?_, ?_, ?_⟩
    · simp only [dDid, dLeft, hg.lf]
      rfl
    · have := hg.dd
      simp only [dDid]
      omega
    · have h3 := stN_set 1 d.zones i hi (zAdd d.zones[i] d.size b)
      have h4 := hg.op
      show stN 1 (d.zones.set i (zAdd d.zones[i] d.size b)) ≤ 3
      have h5 : (if (zAdd d.zones[i] d.size b).st = 1 then 1 else 0) ≤ 1 := by split <;> omega
      rcases ho with h | h
      · rw [if_pos h] at h3
        omega
      · omega
/-- A finish that is done. -/
theorem do_fin {d : Dv} {k : Nat} (hg : DG d k) (hk : k ≤ 2 ^ 62) {j : Nat} (hj : j < d.zones.length) (ho : d.zones[j].st = 1) :
    dDoR d ⟨3, j, []⟩ = some (dDid d (d.zones.set j (zEnd d.zones[j]))) ∧ DG (dDid d (d.zones.set j (zEnd d.zones[j]))) (k + 1) ∧ stN 1 (d.zones.set j (zEnd d.zones[j])) + 1 = stN 1 d.zones := by
  have hc : dCmd 3 d d.zones[j] [] = (zEnd d.zones[j], 0) := by
    have : zFin d.zones[j] = (zEnd d.zones[j], 0) := by
      unfold zFin
      rw [if_pos ⟨by simp [zTakes, ho], by rw [ho]; decide⟩]
      rfl
    simp [dCmd, this]
  have h3 := stN_set 1 d.zones j hj (zEnd d.zones[j])
  rw [if_pos ho, if_neg (by simp [zEnd])] at h3
  refine ⟨?_, ?_, by omega⟩
  · have hz : dDoZ d ⟨3, j, []⟩ = some (zEnd d.zones[j]) := by
      simp only [dDoZ, Int.toNat_natCast, List.getElem?_eq_getElem hj, Option.bind_some, hc]
      rw [if_pos ⟨by omega, by omega, by omega, trivial⟩]
    unfold dDoR
    rw [if_pos ⟨hg.ok, hg.dn, by rw [hg.lf]; omega, by rw [hg.lf]; omega, by have := hg.dd; omega, by simp⟩, hz]
    rfl
  · have h1 := zOk_iff.1 ((dOk_iff.1 hg.ok).1 _ (List.getElem_mem hj))
    refine ⟨dOk_set (z := zEnd d.zones[j]) hg.ok (zOk_iff.2 ⟨h1.1, .inr (.inr rfl)⟩) _ _ _, hg.dn, ?_, ?_, ?_⟩
    · simp only [dDid, dLeft, hg.lf]
      rfl
    · have := hg.dd
      simp only [dDid]
      omega
    · have h4 := hg.op
      show stN 1 (d.zones.set j (zEnd d.zones[j])) ≤ 3
      omega
end Go.Av.Pl

namespace Go.Av.Pl
theorem zIdx_none {pr : Zo → Bool} {l : List Zo} (h : zIdx pr l < 0) : ∀ z ∈ l, pr z = false := by
  unfold zIdx at h
  split at h
  · omega
  · rename_i e
    intro z hz
    simpa using List.findIdx?_eq_none_iff.1 e z hz
theorem DG.mono {d : Dv} {k k' : Nat} (h : DG d k) (hk : k ≤ k') : DG d k' := ⟨h.ok, h.dn, h.lf, ⟨h.dd.1, by have := h.dd.2; omega⟩, h.op⟩
theorem recB_ne {r : Rec} (h : recOk r = true) : recB r ≠ [] := by
  intro e
  have := recB_length h
  rw [e] at this
  simp at this
theorem one_bad {d : Dv} (hl : d.zones.length ≤ 2 ^ 40) {r : Rec} (hr : recOk r = false) : one1 d r = some (d, ⟨0, 0⟩, 50) := by
  unfold one1
  rw [if_pos hl, if_pos hr]
/-- Behind a record. -/
structure OneS (d : Dv) (k : Nat) (b : List UInt8) (d' : Dv) (i : Nat) (hi : i < d.zones.length) : Prop where
  room : (b.length : Int) ≤ zRoom d.zones[i] d.size
  good : DG d' (k + 2)
  size : d'.size = d.size
  zones : (d.zones[i].st = 1 ∧ d'.zones = d.zones.set i (zAdd d.zones[i] d.size b)) ∨
    (d.zones[i].st = 0 ∧ (∀ z ∈ d.zones, z.st = 1 → zRoom z d.size < b.length) ∧ (d'.zones = d.zones.set i (zAdd d.zones[i] d.size b) ∨
      ∃ (j : Nat) (hj : j < d.zones.length), j ≠ i ∧ d.zones[j].st = 1 ∧ stN 1 d.zones = 3 ∧ d'.zones = (d.zones.set j (zEnd d.zones[j])).set i (zAdd d.zones[i] d.size b)))
theorem one_good {d : Dv} {k : Nat} (hg : DG d k) (hk : k + 2 ≤ 2 ^ 62) {r : Rec} (hr : recOk r = true) :
    (placeE d (recB r).length ≠ 0 ∧ one1 d r = some (d, ⟨0, 0⟩, placeE d (recB r).length)) ∨
    ∃ (i : Nat) (hi : i < d.zones.length) (d' : Dv), one1 d r = some (d', ⟨FloatKind.f64.nearest (i : Int), FloatKind.f64.nearest (d.zones[i].data.length : Int)⟩, 0) ∧ OneS d k (recB r) d' i hi := by
  have hd := dOk_iff.1 hg.ok
  have hl : d.zones.length ≤ 2 ^ 40 := by omega
  have hr' : ¬ recOk r = false := by simp [hr]
  by_cases hp : placeE d (recB r).length = 0
  · refine .inr ?_
    have hb := recB_ne hr
    have hbl := recB_length hr
    have hbody := (recOk_iff.1 hr).2.2.2.2
    have hb0 : 0 < (recB r).length := by omega
    have hn1 : ¬ (dOk d = false ∨ ((recB r).length : Int) < 1 ∨ d.size < (recB r).length) := by
      intro h
      unfold placeE at hp
      rw [if_pos h] at hp
      cases hp
    have hone : ∀ d', oneD d r = some d' → one1 d r = some (d', oneC d r, 0) := fun d' h => by
      unfold one1
      rw [if_pos hl, if_neg hr', if_neg (by simp [hp]), h]
      rfl
    by_cases h1 : 0 ≤ dFirst d 1 (recB r).length
    · obtain ⟨i, hi, e, hpr⟩ := zIdx_lt h1
      simp only [Bool.and_eq_true, decide_eq_true_eq] at hpr
      have eN : placeN d (recB r).length = i := by unfold placeN; rw [if_neg hn1, if_pos h1]; exact e
      have eL : placeL d (recB r).length = [] := by unfold placeL; rw [if_neg hn1, if_pos h1]
      obtain ⟨k1, k2⟩ := do_app hg (by omega) hi hb (by omega) hpr.2 (.inl hpr.1)
      refine ⟨i, hi, _, (hone _ (by unfold oneD cmdL; rw [eL, eN]; simp only [List.nil_append, List.foldlM_cons, List.foldlM_nil]; rw [k1]; rfl)).trans ?_, ⟨hpr.2, k2.mono (by omega), rfl, .inl ⟨hpr.1, rfl⟩⟩⟩
      unfold oneC
      rw [eN, Int.toNat_natCast, List.getD_eq_getElem?_getD, List.getElem?_eq_getElem hi]
      rfl
    · have h1' : dFirst d 1 (recB r).length < 0 := by omega
      have h2 : 0 ≤ dFirst d 0 (recB r).length := by
        refine Classical.byContradiction fun h2 => ?_
        unfold placeE at hp
        rw [if_neg hn1, if_neg h1, if_pos (by omega)] at hp
        cases hp
      have h2' : ¬ dFirst d 0 (recB r).length < 0 := by omega
      obtain ⟨i, hi, e, hpr⟩ := zIdx_lt h2
      simp only [Bool.and_eq_true, decide_eq_true_eq] at hpr
      have eN : placeN d (recB r).length = i := by unfold placeN; rw [if_neg hn1, if_neg h1, if_neg h2']; exact e
      have hno : ∀ z ∈ d.zones, z.st = 1 → zRoom z d.size < (recB r).length := fun z hz hs => by
        have := zIdx_none h1' z hz
        simp [hs] at this
        omega
      have eC : oneC d r = ⟨FloatKind.f64.nearest (i : Int), FloatKind.f64.nearest (d.zones[i].data.length : Int)⟩ := by
        unfold oneC
        rw [eN, Int.toNat_natCast, List.getD_eq_getElem?_getD, List.getElem?_eq_getElem hi]
        rfl
      by_cases h3 : 3 ≤ stN 1 d.zones
      · have h30 := hg.op
        have hex : 0 ≤ dFirst d 1 0 := by
          refine Classical.byContradiction fun hx => ?_
          have hall := zIdx_none (show dFirst d 1 0 < 0 by omega)
          have : stN 1 d.zones = 0 := by
            unfold stN
            rw [List.countP_eq_zero]
            intro z hz hs
            have hs' : z.st = 1 := by simpa using hs
            have := hall z hz
            simp only [hs', decide_true, Bool.true_and, decide_eq_false_iff_not] at this
            apply this
            unfold zRoom
            split
            · have := zOk_iff.1 (hd.1 z hz)
              omega
            · omega
          omega
        obtain ⟨j, hj, ej, hpj⟩ := zIdx_lt hex
        simp only [Bool.and_eq_true, decide_eq_true_eq] at hpj
        have hji : j ≠ i := by
          rintro rfl
          rw [hpr.1] at hpj
          exact absurd hpj.1 (by decide)
        have eL : placeL d (recB r).length = [⟨3, j, []⟩] := by unfold placeL; rw [if_neg hn1, if_neg h1, if_neg h2', if_pos h3]; rw [show dFirst d 1 0 = (j : Int) from ej]
        obtain ⟨f1, f2, f3⟩ := do_fin hg (by omega) hj hpj.1
        have hi' : i < (dDid d (d.zones.set j (zEnd d.zones[j]))).zones.length := by simpa [dDid] using hi
        have eg : (dDid d (d.zones.set j (zEnd d.zones[j]))).zones[i] = d.zones[i] := by
          exact List.getElem_set_ne hji (show i < (d.zones.set j (zEnd d.zones[j])).length by simpa using hi)
        obtain ⟨k1, k2⟩ := do_app f2 (by omega) hi' hb (by omega) (by rw [eg]; exact hpr.2) (.inr (by show stN 1 (d.zones.set j _) < 3; omega))
        rw [eg] at k1 k2
        refine ⟨i, hi, _, (hone _ (by unfold oneD cmdL; rw [eL, eN]; simp only [List.cons_append, List.nil_append, List.foldlM_cons, List.foldlM_nil]; rw [f1]; simp only [Option.bind_eq_bind, Option.bind_some]; rw [k1]; rfl)).trans (by rw [eC]), ⟨hpr.2, k2.mono (by omega), rfl, .inr ⟨hpr.1, hno, .inr ⟨j, hj, hji, hpj.1, by omega, rfl⟩⟩⟩⟩
      · have eL : placeL d (recB r).length = [] := by unfold placeL; rw [if_neg hn1, if_neg h1, if_neg h2', if_neg h3]
        obtain ⟨k1, k2⟩ := do_app hg (by omega) hi hb (by omega) hpr.2 (.inr (by omega))
        exact ⟨i, hi, _, (hone _ (by unfold oneD cmdL; rw [eL, eN]; simp only [List.nil_append, List.foldlM_cons, List.foldlM_nil]; rw [k1]; rfl)).trans (by rw [eC]), ⟨hpr.2, k2.mono (by omega), rfl, .inr ⟨hpr.1, hno, .inl rfl⟩⟩⟩
  · refine .inl ⟨hp, ?_⟩
    unfold one1
    rw [if_pos hl, if_neg hr', if_pos hp]
end Go.Av.Pl

namespace Go.Av.Pl
def lightZ (c : Nat) (z : Zo) : Bool := decide (z.st = 1 ∧ z.data.length ≤ c)
/-- A device that records were appended to: of zones of c + 4116 bytes. -/
structure HInv (c : Nat) (d : Dv) (i sum : Nat) : Prop where
  good : DG d (2 * i)
  size : d.size = c + 4116
  len : d.zones.length = 60
  sum : (d.zones.map fun z => z.data.length).sum = sum
  st : ∀ z ∈ d.zones, z.st = 0 ∨ z.st = 1 ∨ z.st = 3 ∧ c < z.data.length
  light : d.zones.countP (lightZ c) ≤ 1
  used : 60 ≤ stN 0 d.zones + i
theorem used_le (c : Nat) : ∀ (l : List Zo), (∀ z ∈ l, z.st = 0 ∨ z.st = 1 ∨ z.st = 3 ∧ c < z.data.length) → l.length * c ≤ (l.map fun z => z.data.length).sum + (l.countP (lightZ c) + stN 0 l) * c
  | [], _ => by simp
  | z :: l, h => by
    have ih := used_le c l fun y hy => h y (List.mem_cons_of_mem _ hy)
    have h0 := h z List.mem_cons_self
    simp only [List.length_cons, List.map_cons, List.sum_cons, List.countP_cons, stN] at ih ⊢
    have e1 : (l.length + 1) * c = l.length * c + c := by rw [Nat.add_mul]; omega
    by_cases hz : z.st = 0
    · have e2 : lightZ c z = false := by simp [lightZ, hz]
      simp only [hz, e2, decide_true, if_true, Bool.false_eq_true, if_false, Nat.add_zero]
      have e3 : (l.countP (lightZ c) + (l.countP (fun z => decide (z.st = 0)) + 1)) * c = (l.countP (lightZ c) + l.countP (fun z => decide (z.st = 0))) * c + c := by rw [← Nat.add_assoc, Nat.add_mul]; omega
      omega
    · by_cases hl : lightZ c z = true
      · simp only [hz, hl, decide_false, if_true, Bool.false_eq_true, if_false, Nat.add_zero]
        have e3 : (l.countP (lightZ c) + 1 + l.countP (fun z => decide (z.st = 0))) * c = (l.countP (lightZ c) + l.countP (fun z => decide (z.st = 0))) * c + c := by rw [Nat.add_right_comm, Nat.add_mul]; omega
        omega
      · have hl' : lightZ c z = false := by simpa using hl
        have hc : c ≤ z.data.length := by
          rcases h0 with h | h | h
          · exact absurd h hz
          · simp only [lightZ, h, true_and, decide_eq_true_eq] at hl
            omega
          · omega
        simp only [hz, hl', decide_false, Bool.false_eq_true, if_false, Nat.add_zero]
        omega
theorem place_empty {d : Dv} (hok : dOk d = true) {n : Nat} (hn : 1 ≤ n) (hs : (n : Int) ≤ d.size) (h : ∃ z ∈ d.zones, z.st = 0) : placeE d n = 0 := by
  unfold placeE
  rw [if_neg (by rintro (h | h | h) <;> first | (rw [hok] at h; cases h) | omega)]
  by_cases h1 : 0 ≤ dFirst d 1 n
  · rw [if_pos h1]
  · rw [if_neg h1, if_neg]
    intro h2
    obtain ⟨z, hz, hz0⟩ := h
    have := zIdx_none h2 z hz
    have h3 := (dOk_iff.1 hok).1 z hz
    have h4 := zOk_iff.1 h3
    have h5 : z.data.length = 0 := by
      rcases h4.2 with h | h | h
      · exact h.2
      · omega
      · omega
    have h6 : zRoom z d.size = d.size := by
      unfold zRoom
      rw [if_pos ⟨h3, by simp [zTakes, hz0]⟩, h5]
      omega
    simp only [hz0, h6, decide_true, Bool.true_and, decide_eq_false_iff_not] at this
    exact this hs
theorem zAdd_len (z : Zo) (s : Int) (b : List UInt8) : (zAdd z s b).data.length = z.data.length + b.length := by simp [zAdd]
theorem hinv_step {c i sum : Nat} {d : Dv} (h : HInv c d i sum) (hi : i < 60) {r : Rec} (hr : recOk r = true) (hc : 4076 ≤ c) : ∃ (d' : Dv) (at' : Cx), one1 d r = some (d', at', 0) ∧ HInv c d' (i + 1) (sum + r.body.length + 20) := by
  have hbl := recB_length hr
  have hbody := (recOk_iff.1 hr).2.2.2.2
  have hex : ∃ z ∈ d.zones, z.st = 0 := by
    have h1 : 0 < stN 0 d.zones := by have := h.used; omega
    unfold stN at h1
    obtain ⟨z, hz, hz0⟩ := List.countP_pos_iff.1 h1
    exact ⟨z, hz, by simpa using hz0⟩
  rcases one_good h.good (by omega) hr with ⟨h1, _⟩ | ⟨p, hp, d', hone, hS⟩
  · exact absurd (place_empty h.good.ok (by omega) (by rw [h.size]; omega) hex) h1
  refine ⟨d', _, hone, ?_⟩
  have hb := recB_ne hr
  obtain ⟨a1, a2⟩ := zAdd_ok hb hS.room
  have hlen := zAdd_len d.zones[p] d.size (recB r)
  have hroom := zRoom_pos (by have := hbl; omega) hS.room
  have hlp : lightZ c (zAdd d.zones[p] d.size (recB r)) = true → lightZ c d.zones[p] = true ∨ d.zones[p].st = 0 := by
    intro hl
    simp only [lightZ, decide_eq_true_eq] at hl ⊢
    have := h.st _ (List.getElem_mem hp)
    rcases this with h1 | h1 | ⟨h1, _⟩
    · exact .inr h1
    · exact .inl ⟨h1, by omega⟩
    · have h7 := hroom.2.1
      simp [zTakes, h1] at h7
  have hst : (zAdd d.zones[p] d.size (recB r)).st = 0 ∨ (zAdd d.zones[p] d.size (recB r)).st = 1 ∨ (zAdd d.zones[p] d.size (recB r)).st = 3 ∧ c < (zAdd d.zones[p] d.size (recB r)).data.length := by
    rcases a2 with a2 | ⟨a2, a3⟩
    · exact .inr (.inl a2)
    · have := h.size
      exact .inr (.inr ⟨a2, by omega⟩)
  have hst0 : ¬ (zAdd d.zones[p] d.size (recB r)).st = 0 := by
    rcases a2 with a2 | ⟨a2, _⟩ <;> rw [a2] <;> decide
  have key : ∀ (zs : List Zo) (hpz : p < zs.length), zs[p] = d.zones[p] → zs.length = 60 → (zs.map fun z => z.data.length).sum = sum → (∀ z ∈ zs, z.st = 0 ∨ z.st = 1 ∨ z.st = 3 ∧ c < z.data.length) →
      (zs.countP (lightZ c) = 0 ∨ d.zones[p].st = 1 ∧ zs.countP (lightZ c) ≤ 1) → 60 ≤ stN 0 zs + i → d'.zones = zs.set p (zAdd d.zones[p] d.size (recB r)) → HInv c d' (i + 1) (sum + r.body.length + 20) := by
    intro zs hpz e k1 k2 k3 k4 k5 k6
    refine ⟨?_, by rw [hS.size, h.size], by rw [k6]; simpa using k1, ?_, ?_, ?_, ?_⟩
    · exact hS.good.mono (by omega)
    · have := sum_set (fun z => z.data.length) zs p hpz (zAdd d.zones[p] d.size (recB r))
      rw [k6]
      rw [e] at this
      simp only [hlen] at this
      omega
    · intro z hz
      rw [k6] at hz
      rcases List.mem_or_eq_of_mem_set hz with hz | rfl
      · exact k3 z hz
      · exact hst
    · have := cnt_set (lightZ c) zs p hpz (zAdd d.zones[p] d.size (recB r))
      rw [k6]
      rw [e] at this
      rcases k4 with k4 | ⟨k4, k4'⟩
      · have h1 : (lightZ c (zAdd d.zones[p] d.size (recB r))).toNat ≤ 1 := by cases lightZ c (zAdd d.zones[p] d.size (recB r)) <;> simp
        omega
      · cases hq : lightZ c (zAdd d.zones[p] d.size (recB r)) with
        | false =>
          rw [hq] at this
          simp at this
          omega
        | true =>
          rcases hlp hq with h1 | h1
          · rw [hq, h1] at this
            omega
          · rw [k4] at h1
            exact absurd h1 (by decide)
    · have := stN_set 0 zs p hpz (zAdd d.zones[p] d.size (recB r))
      rw [k6]
      rw [if_neg hst0] at this
      split at this <;> omega
  rcases hS.zones with ⟨z1, z2⟩ | ⟨z1, z2, z3⟩
  · exact key d.zones hp rfl h.len h.sum h.st (.inr ⟨z1, h.light⟩) h.used z2
  · have hheavy : ∀ z ∈ d.zones, z.st = 1 → c < z.data.length := by
      intro z hz hz1
      have h1 := z2 z hz hz1
      have h2 := (dOk_iff.1 h.good.ok).1 z hz
      unfold zRoom at h1
      rw [if_pos ⟨h2, by simp [zTakes, hz1]⟩, h.size] at h1
      omega
    have hl0 : d.zones.countP (lightZ c) = 0 := by
      rw [List.countP_eq_zero]
      intro z hz hl
      simp only [lightZ, decide_eq_true_eq] at hl
      have := hheavy z hz hl.1
      omega
    rcases z3 with z3 | ⟨j, hj, hji, hj1, _, z3⟩
    · exact key d.zones hp rfl h.len h.sum h.st (.inl hl0) h.used z3
    · refine key (d.zones.set j (zEnd d.zones[j])) (by simpa using hp) (List.getElem_set_ne hji (by simpa using hp)) (by simpa using h.len) ?_ ?_ (.inl ?_) ?_ z3
      · have := sum_set (fun z => z.data.length) d.zones j hj (zEnd d.zones[j])
        have h1 := h.sum
        simp only [zEnd] at this ⊢
        omega
      · intro z hz
        rcases List.mem_or_eq_of_mem_set hz with hz | rfl
        · exact h.st z hz
        · exact .inr (.inr ⟨rfl, hheavy d.zones[j] (List.getElem_mem hj) hj1⟩)
      · have := cnt_set (lightZ c) d.zones j hj (zEnd d.zones[j])
        have h1 : lightZ c (zEnd d.zones[j]) = false := by simp [lightZ, zEnd]
        rw [h1] at this
        simp at this
        omega
      · have := stN_set 0 d.zones j hj (zEnd d.zones[j])
        rw [if_neg (by rw [hj1]; decide), if_neg (by simp [zEnd])] at this
        have := h.used
        omega
theorem hinv_new (c : Nat) (hc : c + 4116 ≤ 1048576) : HInv c (dNew 60 (c + 4116)) 0 0 := by
  have e : dNew 60 (c + 4116) = ⟨c + 4116, List.replicate 60 ⟨0, 0, [], 0⟩, -1, false, 0⟩ := by
    unfold dNew
    rw [if_neg (by omega)]
    rfl
  rw [e]
  refine ⟨⟨?_, rfl, rfl, by simp, by simp [stN, List.countP_replicate]⟩, rfl, rfl, rfl, ?_, by simp [List.countP_replicate, lightZ], by simp [stN, List.countP_replicate]⟩
  · refine dOk_iff.2 ⟨fun z hz => ?_, by simp, by simp, by simp only; omega, by simp only; omega⟩
    rw [(List.mem_replicate.1 hz).2]
    refine zOk_iff.2 ⟨⟨?_, ?_, ?_, by simp, by simp, by simp, by simp⟩, .inl ⟨rfl, rfl⟩⟩ <;> simp <;> omega
  · intro z hz
    rw [(List.mem_replicate.1 hz).2]
    exact .inl rfl
theorem hinv_used {c i sum : Nat} {d : Dv} (h : HInv c d i sum) (hc : 4076 ≤ c) : 60 - (stN 0 d.zones : Int) ≤ (sum : Int).tdiv c + 1 := by
  have h1 := used_le c d.zones h.st
  rw [h.len, h.sum] at h1
  have h2 := h.light
  have h3 : (d.zones.countP (lightZ c) + stN 0 d.zones) * c ≤ (1 + stN 0 d.zones) * c := Nat.mul_le_mul_right _ (by omega)
  have h4 : stN 0 d.zones ≤ 60 := by have := stN_le 0 d.zones; rw [h.len] at this; exact this
  rw [Int.tdiv_eq_ediv_of_nonneg (by omega)]
  have h5 : (59 - stN 0 d.zones) * c ≤ sum := by
    have : 60 * c = (59 - stN 0 d.zones) * c + (1 + stN 0 d.zones) * c ∨ stN 0 d.zones = 60 := by
      by_cases hh : stN 0 d.zones = 60
      · exact .inr hh
      · left
        rw [← Nat.add_mul]
        congr 1
        omega
    rcases this with h | h
    · omega
    · rw [h]; simp
  have h6 : (59 - stN 0 d.zones) ≤ sum / c := (Nat.le_div_iff_mul_le (by omega)).2 h5
  have h7 : ((sum / c : Nat) : Int) = (sum : Int) / c := by simp
  omega
end Go.Av.Pl

namespace Go.Av
open Enc (enc dec)
open Cel (cs dc)
open Go.Proofs Pl

theorem c_held (n a b : Int) : Pure Try.prog n_space_held_int [enc n, enc a, enc b] (enc (min (max n a) b)) [] := by
  refine Pure.ofC OOk.nil hm F_space_held_int_ok (by simp [F_space_held_int]) rfl ?_
  simp [F_space_held_int]
@[simp] def sp_held (n a b : Int) : Option (V × List Tip) := some (enc (min (max n a) b), [])
theorem sp_held_ok : EOk Try.prog n_space_held_int (sp3 sp_held) := sp3_ok fun a b c r h => by cases h; exact c_held a b c
def Dp1 : Orc := Orc.nil.add n_space_held_int (sp3 sp_held)
theorem Dp1_ok : OOk Try.prog Dp1 := OOk.nil.add sp_held_ok
def mayZ (n : Int) : Bool := decide (8192 ≤ n ∧ n ≤ 1048576)
def someZ (n : Int) : Bool := decide (1 ≤ n ∧ n ≤ 64)
theorem c_spMay (n : Int) : Pure Try.prog n_space_may [enc n] (enc (mayZ n)) [] := by
  refine Pure.ofC Dp1_ok hm F_space_may_ok (by simp [F_space_may]) rfl ?_
  simp [F_space_may, Dp1, mayZ]
  rw [Bool.eq_iff_iff]
  simp
  omega
theorem c_spSome (n : Int) : Pure Try.prog n_space_some [enc n] (enc (someZ n)) [] := by
  refine Pure.ofC Dp1_ok hm F_space_some_ok (by simp [F_space_some]) rfl ?_
  simp [F_space_some, Dp1, someZ]
  rw [Bool.eq_iff_iff]
  simp
  omega
@[simp] def sp_spMay (n : Int) : Option (V × List Tip) := some (enc (mayZ n), [])
theorem sp_spMay_ok : EOk Try.prog n_space_may (sp1 sp_spMay) := sp1_ok fun a r h => by cases h; exact c_spMay a
@[simp] def sp_spSome (n : Int) : Option (V × List Tip) := some (enc (someZ n), [])
theorem sp_spSome_ok : EOk Try.prog n_space_some (sp1 sp_spSome) := sp1_ok fun a r h => by cases h; exact c_spSome a
@[simp] def sp_rSize (n : Int) : Option (V × List Tip) := some (enc (recSz n), [])
theorem sp_rSize_ok : EOk Try.prog n_record_Size (sp1 sp_rSize) := sp1_ok fun a r h => by cases h; exact c_rSize a
def Dp2 : Orc := (((Dp1.add n_space_may (sp1 sp_spMay)).add n_space_some (sp1 sp_spSome)).add n_record_Size (sp1 sp_rSize))
theorem Dp2_ok : OOk Try.prog Dp2 := ((Dp1_ok.add sp_spMay_ok).add sp_spSome_ok).add sp_rSize_ok
def takesZ (n s : Int) : Int := if mayZ s = true then (max n 0).tdiv (s - 4116) + 1 else 0
theorem c_takesZ (n s : Int) (hn : n ≤ 2 ^ 62) : Pure Try.prog n_space_Takes [enc n, enc s] (enc (takesZ n s)) [] := by
  refine Pure.ofC Dp2_ok hm F_space_Takes_ok (by simp [F_space_Takes]) rfl ?_
  by_cases h : mayZ s = true
  · have h2 : 8192 ≤ s ∧ s ≤ 1048576 := by simpa [mayZ] using h
    have w1 := IntWalk.i64_in (s - 4116) (by omega)
    have hd : 0 ≤ (max n 0).tdiv (s - 4116) ∧ (max n 0).tdiv (s - 4116) ≤ max n 0 := ⟨Int.tdiv_nonneg (by omega) (by omega), by
      rw [Int.tdiv_eq_ediv_of_nonneg (by omega)]
      exact Int.ediv_le_self _ (by omega)⟩
    have w2 := IntWalk.i64_in ((max n 0).tdiv (s - 4116)) (by omega)
    have w3 := IntWalk.i64_in ((max n 0).tdiv (s - 4116) + 1) (by omega)
    have e : recSz 4096 = 4116 := by decide
    have hne : ¬ s - 4116 = 0 := by omega
    simp [F_space_Takes, Dp2, Dp1, h, e, w1, w2, w3, takesZ, hne]
  · have h' : mayZ s = false := by simpa using h
    simp [F_space_Takes, Dp2, Dp1, h', takesZ]
@[simp] def sp_takesZ (n s : Int) : Option (V × List Tip) := if n ≤ 2 ^ 62 then some (enc (takesZ n s), []) else none
theorem sp_takesZ_ok : EOk Try.prog n_space_Takes (sp2 sp_takesZ) := sp2_ok fun a b r h => by
  simp only [sp_takesZ] at h
  split at h <;> cases h
  exact c_takesZ a b (by assumption)
theorem wI (n : Int) (h1 : -9223372036854775808 ≤ n) (h2 : n ≤ 9223372036854775807) : IntKind.i64.wrap n = n := IntWalk.i64_in n (by omega)
theorem c_mapped64 : Pure Try.prog n_space_mapped [enc (64 : Int)] (enc (2499 : Int)) [] := by
  refine Pure.ofC OOk.nil hm F_space_mapped_ok (by simp [F_space_mapped]) rfl ?_
  simp [F_space_mapped, wI]
@[simp] def sp_if (a b : Int) (n : Int) : Option (V × List Tip) := if n = a then some (enc b, []) else none
theorem sp_if_ok {n : FuncId} {a b : Int} (h : Pure Try.prog n [enc a] (enc b) []) : EOk Try.prog n (sp1 (sp_if a b)) := sp1_ok fun x r hh => by
  simp only [sp_if] at hh
  split at hh <;> cases hh
  rename_i e
  subst e
  exact h
def Dp3 : Orc := (Dp2.add n_space_mapped (sp1 (sp_if 64 2499)))
theorem Dp3_ok : OOk Try.prog Dp3 := Dp2_ok.add (sp_if_ok c_mapped64)
theorem c_snap64 : Pure Try.prog n_space_Snap [enc (64 : Int)] (.tuple [enc (16665 : Int), enc (6 : Int)]) [] := by
  refine Pure.ofC Dp3_ok hm F_space_Snap_ok (by simp [F_space_Snap]) (by simp [V.res, V.res1]) ?_
  simp [F_space_Snap, Dp3, Dp2, Dp1, wI, someZ, recSz]
@[simp] def sp_snap64 (n : Int) : Option (V × List Tip) := if n = 64 then some (.tuple [enc (16665 : Int), enc (6 : Int)], []) else none
theorem sp_snap64_ok : EOk Try.prog n_space_Snap (sp1 sp_snap64) := sp1_ok fun x r hh => by
  simp only [sp_snap64] at hh
  split at hh <;> cases hh
  rename_i e
  subst e
  exact c_snap64
theorem c_change64 : Pure Try.prog n_space_Change [enc (64 : Int)] (enc (2526 : Int)) [] := by
  refine Pure.ofC Dp2_ok hm F_space_Change_ok (by simp [F_space_Change]) rfl ?_
  simp [F_space_Change, Dp2, Dp1, wI, someZ, recSz]
  decide
theorem c_change0 : Pure Try.prog n_space_Change [enc (0 : Int)] (enc (0 : Int)) [] := by
  refine Pure.ofC Dp2_ok hm F_space_Change_ok (by simp [F_space_Change]) rfl ?_
  simp [F_space_Change, Dp2, Dp1, wI, someZ]
@[simp] def sp_change (n : Int) : Option (V × List Tip) := if n = 64 then some (enc (2526 : Int), []) else if n = 0 then some (enc (0 : Int), []) else none
theorem sp_change_ok : EOk Try.prog n_space_Change (sp1 sp_change) := sp1_ok fun x r hh => by
  simp only [sp_change] at hh
  split at hh
  · cases hh
    rename_i e
    subst e
    exact c_change64
  · split at hh <;> cases hh
    rename_i e
    subst e
    exact c_change0
def Dp4 : Orc := ((Dp2.add n_space_Takes (sp2 sp_takesZ)).add n_space_Snap (sp1 sp_snap64)).add n_space_Change (sp1 sp_change)
theorem Dp4_ok : OOk Try.prog Dp4 := ((Dp2_ok.add sp_takesZ_ok).add sp_snap64_ok).add sp_change_ok
theorem c_need1 (m : Mem) (p : Nat) (n s : Int) (hn : n ≤ 2 ^ 62) (hp : m.boxes[p]? = some [.val (.int .i64 s)]) : Loc Try.prog n_space_Need_1 [enc n, .ptr p 0] m (enc (takesZ n s)) m := by
  refine Loc.ofC Dp4_ok hm F_space_Need_1_ok (by simp [F_space_Need_1]) (.inl rfl) m.boxes.length m.tips.length (Nat.le_refl _) (Nat.le_refl _) fun hu => ?_
  simp at hn
  simp [F_space_Need_1, Dp4, hp, hu, hn]
def sp_need1 : List V → Mem → Option (V × Mem)
  | [.val (.int .i64 n), .ptr p 0], m => (boxI m p).bind fun s => if n ≤ 2 ^ 62 then some (enc (takesZ n s), m) else none
  | _, _ => none
theorem sp_need1_ok : EOkL Try.prog n_space_Need_1 sp_need1 := by
  intro args m v m' h
  unfold sp_need1 at h
  split at h
  · simp only [Option.bind_eq_some_iff] at h
    obtain ⟨s, hs, h⟩ := h
    split at h <;> cases h
    exact c_need1 m _ _ s (by assumption) (boxI_some hs)
  · cases h
def Dp5 : Orc := Dp4.addL n_space_Need_1 sp_need1
theorem Dp5_ok : OOk Try.prog Dp5 := Dp4_ok.addL sp_need1_ok
theorem c_need : Pure Try.prog n_space_Need [enc (64 : Int), enc (8192 : Int)] (enc (6 : Int)) [] := by
  refine Pure.ofC Dp5_ok hm F_space_Need_ok (by simp [F_space_Need]) rfl ?_
  simp [F_space_Need, Dp5, Dp4, Dp2, Dp1, wI, someZ, mayZ, sp_need1, boxI, takesZ]
  decide
@[simp] def sp_need (a b : Int) : Option (V × List Tip) := if a = 64 ∧ b = 8192 then some (enc (6 : Int), []) else none
theorem sp_need_ok : EOk Try.prog n_space_Need (sp2 sp_need) := sp2_ok fun a b r hh => by
  simp only [sp_need] at hh
  split at hh <;> cases hh
  rename_i e
  obtain ⟨rfl, rfl⟩ := e
  exact c_need
def Dp6 : Orc := Dp5.add n_space_Need (sp2 sp_need)
theorem Dp6_ok : OOk Try.prog Dp6 := Dp5_ok.add sp_need_ok
theorem c_zones : Pure Try.prog n_space_Zones [enc (64 : Int), enc (8192 : Int)] (enc (15 : Int)) [] := by
  refine Pure.ofC Dp6_ok hm F_space_Zones_ok (by simp [F_space_Zones]) rfl ?_
  simp [F_space_Zones, Dp6, Dp5, Dp4, Dp2, Dp1, wI, takesZ, mayZ]
  decide
@[simp] def sp_zones (a b : Int) : Option (V × List Tip) := if a = 64 ∧ b = 8192 then some (enc (15 : Int), []) else none
theorem sp_zones_ok : EOk Try.prog n_space_Zones (sp2 sp_zones) := sp2_ok fun a b r hh => by
  simp only [sp_zones] at hh
  split at hh <;> cases hh
  rename_i e
  obtain ⟨rfl, rfl⟩ := e
  exact c_zones
def Dp7 : Orc := Dp6.add n_space_Zones (sp2 sp_zones)
theorem Dp7_ok : OOk Try.prog Dp7 := Dp6_ok.add sp_zones_ok
theorem c_spCheck (n : Int) (hn : n = 15 ∨ n = 14) : Pure Try.prog n_space_Check [enc n, enc (8192 : Int), enc (64 : Int)] (enc (if n = 15 then 0 else 130 : Int)) [] := by
  refine Pure.ofC Dp7_ok hm F_space_Check_ok (by simp [F_space_Check]) rfl ?_
  rcases hn with rfl | rfl <;> simp [F_space_Check, Dp7]
@[simp] def sp_spCheck (a b c : Int) : Option (V × List Tip) := if (a = 15 ∨ a = 14) ∧ b = 8192 ∧ c = 64 then some (enc (if a = 15 then 0 else 130 : Int), []) else none
theorem sp_spCheck_ok : EOk Try.prog n_space_Check (sp3 sp_spCheck) := sp3_ok fun a b c r hh => by
  simp only [sp_spCheck] at hh
  split at hh <;> cases hh
  rename_i e
  obtain ⟨e, rfl, rfl⟩ := e
  exact c_spCheck a e
theorem c_spBound : Pure Try.prog n_space_Bound [enc (15 : Int), enc (64 : Int)] (enc (49 : Int)) [] := by
  refine Pure.ofC Dp7_ok hm F_space_Bound_ok (by simp [F_space_Bound]) rfl ?_
  simp [F_space_Bound, Dp7, Dp6, Dp5, Dp4, Dp2, Dp1, wI]
  decide
@[simp] def sp_spBound (a b : Int) : Option (V × List Tip) := if a = 15 ∧ b = 64 then some (enc (49 : Int), []) else none
theorem sp_spBound_ok : EOk Try.prog n_space_Bound (sp2 sp_spBound) := sp2_ok fun a b r hh => by
  simp only [sp_spBound] at hh
  split at hh <;> cases hh
  rename_i e
  obtain ⟨rfl, rfl⟩ := e
  exact c_spBound
def Dp8 : Orc := (Dp7.add n_space_Check (sp3 sp_spCheck)).add n_space_Bound (sp2 sp_spBound)
theorem Dp8_ok : OOk Try.prog Dp8 := (Dp7_ok.add sp_spCheck_ok).add sp_spBound_ok
theorem c_w13awake : Pure Try.prog n_w13_awake [] (.val (.bool true)) [] := by
  refine Pure.ofC Dp8_ok hm F_w13_awake_ok (by simp [F_w13_awake]) rfl ?_
  simp [F_w13_awake, Dp8, Dp7, Dp6, Dp5, Dp4, Dp2, takesZ, mayZ]
  decide
end Go.Av

namespace Go.Av.Pl
structure Half where
  v : Int
end Go.Av.Pl
namespace Go.Av
open Enc (enc dec)
open Cel (cs dc)
open Go.Proofs Pl

instance : Enc Half where
  enc n := .val (.int .u16 n.v)
  dec v := match v with
    | .val (.int .u16 n) => some ⟨n⟩
    | _ => none
  ok v a h M w x hr := by
    split at h
    · cases h; exact hr
    · cases h
  cl _ := rfl
  de _ := rfl
instance : Cel Half := ⟨1, fun a => [enc a], dc1, fun _ => rfl, dc1_ok, fun a => by simp [Enc.cl], fun a => by simp [dc1, Enc.de]⟩
@[simp] theorem enc_half (n : Half) : (enc n : V) = .val (.int .u16 n.v) := rfl
@[simp] theorem cs_half (n : Half) : cs n = [.val (.int .u16 n.v)] := rfl
@[simp] theorem sz_half : Cel.sz Half = 1 := rfl
theorem decX_rep : ∀ n : Nat, (decX (List.replicate n [V.val (.int .u8 0)]) : Option (List UInt8)) = some (List.replicate n 0)
  | 0 => rfl
  | n + 1 => by
    rw [List.replicate_succ, decX_cons, decX_rep n]
    rfl
@[simp] def sp_lApp (d : Dv) (l : List Rec) : Option (V × List Tip) := if (d.zones.length ≤ 2 ^ 40 ∧ d.zones.all (fun z => decide (z.data.length ≤ 2 ^ 30)) = true ∧ d.zones ≠ []) ∧ l.length ≤ 2 ^ 30 then (appR d l).map fun R => (.tuple [enc R.1, enc R.2.1, enc R.2.2], []) else none
theorem sp_lApp_ok : EOk Try.prog n_log_Append (sp2 sp_lApp) := sp2_ok fun d l r h => by
  simp only [sp_lApp] at h
  split at h
  · rename_i hc
    simp only [Option.map_eq_some_iff] at h
    obtain ⟨R, hR, rfl⟩ := h
    exact c_lAppend d l ⟨hc.1.1, fun z hz => by simpa using List.all_eq_true.1 hc.1.2.1 z hz⟩ hc.1.2.2 hc.2 R hR
  · cases h
@[simp] def sp_dNew (a b : Int) : Option (V × List Tip) := some (.tuple [enc (dNew a b), enc (dNewE a b)], [])
theorem sp_dNew_ok : EOk Try.prog n_dev_New (sp2 sp_dNew) := sp2_ok fun a b r h => by cases h; exact c_dNew a b
@[simp] def sp_lEmpty (d : Dv) : Option (V × List Tip) := if d.zones.length ≤ 2 ^ 40 then some (enc (stN 0 d.zones : Int), []) else none
theorem sp_lEmpty_ok : EOk Try.prog n_log_Empty (sp1 sp_lEmpty) := sp1_ok fun d r h => by
  simp only [sp_lEmpty] at h
  split at h <;> cases h
  exact c_lEmpty d (by assumption)
@[simp] def sp_true : Option (V × List Tip) := some (.val (.bool true), [])
theorem sp_awake13_ok : EOk Try.prog n_w13_awake (sp0 sp_true) := sp0_ok fun r h => by cases h; exact c_w13awake
def Dt1 : Orc := ((((Orc.nil.add n_log_Append (sp2 sp_lApp)).add n_dev_New (sp2 sp_dNew)).add n_log_Empty (sp1 sp_lEmpty)).add n_w13_awake (sp0 sp_true)).add n_space_Takes (sp2 sp_takesZ)
theorem Dt1_ok : OOk Try.prog Dt1 := ((((OOk.nil.add sp_lApp_ok).add sp_dNew_ok).add sp_lEmpty_ok).add sp_awake13_ok).add sp_takesZ_ok
theorem dg_app {d : Dv} {k : Nat} (h : DG d k) : d.zones.length ≤ 2 ^ 40 ∧ d.zones.all (fun z => decide (z.data.length ≤ 2 ^ 30)) = true ∧ d.zones ≠ [] := by
  obtain ⟨h1, h2⟩ := dOk_sm h.ok
  exact ⟨h1.n, List.all_eq_true.2 fun z hz => by simpa using h1.z z hz, h2⟩
def HoldI (l : List Half) (c : Nat) (k : Nat) (s : Nat → V) (m : Mem) : Prop :=
  ∃ (i sum : Nat) (d : Dv) (r : List (List V)), i + k = l.length ∧ HInv c d i sum ∧ sum ≤ 4116 * i ∧ s 0 = .lit 1 (l.map cs) ∧ s 5 = .val (.bool true) ∧ s 6 = .val (.int .i64 ((c : Int) + 4116)) ∧ s 7 = .ptr 0 0 ∧ s 8 = .val (.int .i64 0) ∧ s 9 = .val (.int .i64 sum) ∧ s 10 = .val (.int .i64 i) ∧ m.boxes = cs d :: r
theorem c_SpaceHolds (l : List Half) (a : Int) (hl : ∀ h ∈ l, 0 ≤ h.v ∧ h.v < 65536) (ha : 0 ≤ a ∧ a < 65536) : Pure Try.prog n_w13_SpaceHolds [enc l, .val (.int .u16 a)] (.val (.bool true)) [] := by
  refine Pure.ofC Dt1_ok hm F_w13_SpaceHolds_ok (by simp [F_w13_SpaceHolds]) rfl ?_
  by_cases hn : 60 < (l.length : Int)
  · simp [F_w13_SpaceHolds, Dt1, hn]
  have w1 := wI a (by omega) (by omega)
  obtain ⟨c, hc⟩ : ∃ c : Nat, 8192 + a.tmod 8000 = (c : Int) + 4116 := by
    rw [Int.tmod_eq_emod_of_nonneg ha.1]
    have := Int.emod_nonneg a (show (8000 : Int) ≠ 0 by decide)
    exact ⟨(8192 + a % 8000 - 4116).toNat, by omega⟩
  have hc2 : 4076 ≤ c ∧ c ≤ 12075 := by
    rw [Int.tmod_eq_emod_of_nonneg ha.1] at hc
    have := Int.emod_nonneg a (show (8000 : Int) ≠ 0 by decide)
    have := Int.emod_lt_of_pos a (show (0 : Int) < 8000 by decide)
    omega
  have w2 : IntKind.i64.wrap (8192 + a.tmod 8000) = (c : Int) + 4116 := by rw [hc]; exact wI _ (by omega) (by omega)
  have e1 : dNewE 60 ((c : Int) + 4116) = 0 := by unfold dNewE; rw [if_neg (by omega)]
  simp [F_w13_SpaceHolds, Dt1, hn, w1, w2, e1]
  refine wp_loop (HoldI l c) l.length (IW.of ⟨0, 0, dNew 60 (c + 4116), [], by omega, hinv_new c (by omega), by omega, by simp, by simp, by simp, by simp, by simp, by simp, by simp, by simp⟩) fun k s m ⟨i, sum, d, r, hik, hH, hsum, s0, s5, s6, s7, s8, s9, s10, hm⟩ => ?_
  obtain ⟨bx, tips⟩ := m
  simp only at hm
  subst hm
  obtain ⟨g1, g2, g3⟩ := dg_app hH.good
  simp at g2
  by_cases hi : i < l.length
  · have hg : l[i]? = some l[i] := List.getElem?_eq_getElem hi
    have hv := hl _ (List.getElem_mem hi)
    have w3 := wI l[i].v (by omega) (by omega)
    obtain ⟨b, hb⟩ : ∃ b : Nat, l[i].v.tmod 4097 = b := by
      rw [Int.tmod_eq_emod_of_nonneg hv.1]
      have := Int.emod_nonneg l[i].v (show (4097 : Int) ≠ 0 by decide)
      exact ⟨(l[i].v % 4097).toNat, by omega⟩
    have hb2 : b ≤ 4096 := by
      rw [Int.tmod_eq_emod_of_nonneg hv.1] at hb
      have := Int.emod_lt_of_pos l[i].v (show (0 : Int) < 4097 by decide)
      omega
    have w4 := wI ((sum : Int) + b) (by omega) (by omega)
    have w5 := wI ((sum : Int) + b + 20) (by omega) (by omega)
    have w6 := wI ((i : Int) + 1) (by omega) (by omega)
    have w7 := wI (b : Int) (by omega) (by omega)
    obtain ⟨d', at', hone, hH'⟩ := hinv_step (r := ⟨1, i, List.replicate b 0⟩) hH (by omega) (recOk_iff.2 ⟨by simp, by simp, by simp, by simp only; omega, by simpa using hb2⟩) hc2.1
    have happ : appR d [⟨1, i, List.replicate b 0⟩] = some (d', [at'], 0) := by simp [appR, hone]
    simp [F_w13_SpaceHolds_L0, Dt1, s0, s5, s6, s7, s8, s9, s10, hi, hg, w3, hb, w4, w5, w6, w7, decX_rep, decX_map, happ, g1, g2, g3]
    exact ⟨by omega, g2, k - 1, by omega, IW.of (show HoldI l c _ _ _ from ⟨i + 1, sum + b + 20, d', _, by omega, by simpa using hH', by omega, by simpa using s0, by simpa using s5, by simpa using s6, by simpa using s7, by simpa using s8, by simp, by simp, by rfl⟩)⟩
  · simp [F_w13_SpaceHolds_L0, Dt1, s0, s5, s6, s7, s8, s9, s10, hi, decX_map, g1]
    have hu := hinv_used hH hc2.1
    have hsl := stN_le 0 d.zones
    have hdl := hH.len
    have w8 := wI (60 - (stN 0 d.zones : Int)) (by omega) (by omega)
    have ht : takesZ (sum : Int) ((c : Int) + 4116) = (sum : Int).tdiv c + 1 := by
      unfold takesZ
      rw [if_pos (by simp [mayZ]; omega), show max (sum : Int) 0 = sum by omega, show (c : Int) + 4116 - 4116 = c by omega]
    rw [w8, ht]
    exact ⟨fun _ _ => ⟨by omega, hu⟩, fun _ => ⟨by omega, hu⟩⟩
end Go.Av

namespace Go.Av
open Enc (enc dec)
open Cel (cs dc)
open Go.Proofs Pl Go.ChangeShapes Go.WideShapes Go.RowKit

theorem opn_half : Opn Try.prog 23 (fun b : Half => cs b) (fun h => 0 ≤ h.v ∧ h.v < 65536) := by
  refine ⟨fun _ => Eq.symm (by kernel_rfl), fun en w base spare held fuel cs x h => ?_⟩
  obtain ⟨n, rfl, _, hw⟩ := DataW.trod_int Try.underlying23 h
  have hw := bounds_u16 hw
  exact ⟨⟨n⟩, ⟨hw.1, by simp only; omega⟩, ⟨_, _, rfl, ⟨rfl, rfl⟩, rfl⟩, by simp [Value.oneCell']⟩
theorem opn_halves : Opn Try.prog 22 (fun l : List Half => [enc l]) (fun l => l.length ≤ maxLen ∧ ∀ b ∈ l, 0 ≤ b.v ∧ b.v < 65536) := Opn.slice Try.underlying22 (by kernel_rfl) (by decide) opn_half
end Go.Av
