/-
  SnB: Contracts of package le: Take, size, Pack, Unpack.
  SnC: Contracts of package le: letters, Pack, Unpack.
  SnD: Contracts of package le: Pack, Unpack.
  SnPk: Numbers by a form: as contracts are asked.
  SnE: Contracts of the reference of chapter 1.
  SnF: Contracts of the reference of chapter 1: Pack, Unpack.
  PlA: Sums, by numbers: no Go here.
  SnG: Contracts of package crc, and of the reference of chapter 2.
  DvL: Contracts of package record: what is written; of package log: where it may be.
  DvM: Contracts of package log: a record appended.
  AvAl: Answers that are one of some; boxes of which less is said.
  DvLa: Contracts of package dev: a command that is done, or tells an error: its error, or none yet (the load of the result is not ordered).
  DvO: Contracts of package log: records appended.
  DvQ: The plain law of appending: what a device is behind a record.
  DvLb: Contracts of package log: a record appended to any device.
  DvLc: Contracts of package log: records appended to any device.
  DvNb: Numbers and compact codes of functions.
  DvNf: Numbers and compact codes of functions.
-/
import Derived.Test.YthjmodhemglgbaaCF
import Derived.Laws.StandIn
import Derived.Lib.Bytealg
import Derived.Laws.RangeString
import Derived.Test.YthjmodhemglgbaaRows
set_option linter.unusedSimpArgs false
set_option linter.unusedVariables false

namespace Go.Av
open Enc (enc dec)
open Cel (cs dc)
open Go.Proofs

/-- The number that bytes are. -/
def leN : List UInt8 → Nat
  | [] => 0
  | b :: l => b.toNat + 256 * leN l
theorem leN_lt : ∀ l : List UInt8, leN l < 256 ^ l.length
  | [] => by simp [leN]
  | b :: l => by
    have := leN_lt l
    have := b.toNat_lt
    simp only [leN, List.length_cons, Nat.pow_succ]
    omega
theorem leN_append : ∀ l m : List UInt8, leN (l ++ m) = leN l + 256 ^ l.length * leN m
  | [], m => by simp [leN]
  | b :: l, m => by
    simp only [List.cons_append, leN, leN_append l m, List.length_cons, Nat.pow_succ, Nat.mul_add]
    rw [← Nat.mul_assoc, Nat.mul_comm 256 (256 ^ l.length)]
    omega
def okT (b : List UInt8) (w : Int) : Bool := mayB 0 w && decide (w ≤ b.length)
def takeV (b : List UInt8) (w : Int) : Nat := if okT b w = true then leN (b.take w.toNat) else 0
def takeR (b : List UInt8) (w : Int) : List UInt8 := if okT b w = true then b.drop w.toNat else []
def takeE (b : List UInt8) (w : Int) : Int := if okT b w = true then 0 else 10
theorem or_shl (x y k : Nat) (hx : x < 2 ^ k) (hy : x + y * 2 ^ k < 2 ^ 64) : bitOr .u64 (x : Int) (y * 2 ^ k : Nat) = ((x + y * 2 ^ k : Nat) : Int) := by
  have h2 : y * 2 ^ k < 2 ^ 64 := by omega
  have hx2 : x < 2 ^ 64 := by omega
  have e : x ||| y * 2 ^ k = x + y * 2 ^ k := by
    have := Nat.two_pow_add_eq_or_of_lt hx y
    rw [Nat.mul_comm y, Nat.or_comm, ← this]; omega
  unfold bitOr
  rw [IntKind.wrap_u64]
  have e2 : (BitVec.ofInt 64 (x : Int) ||| BitVec.ofInt 64 ((y * 2 ^ k : Nat) : Int)).toNat = x + y * 2 ^ k := by
    rw [BitVec.ofInt_natCast, BitVec.ofInt_natCast, BitVec.toNat_or, BitVec.toNat_ofNat, BitVec.toNat_ofNat, Nat.mod_eq_of_lt hx2, Nat.mod_eq_of_lt h2, e]
  show (((BitVec.ofInt 64 (x : Int) ||| BitVec.ofInt 64 ((y * 2 ^ k : Nat) : Int)).toNat : Nat) : Int) % 18446744073709551616 = _
  rw [e2]
  omega

theorem c_le_Take (b : List UInt8) (w : Int) (hb : b.length ≤ 2 ^ 40) : Pure Try.prog n_le_Take [enc b, enc w] (.tuple [enc (takeV b w), .row 0 1 ((takeR b w).map cs), enc (takeE b w)]) [(5, 1, (takeR b w).length)] := by
  refine Pure.ofR D1_ok hm F_le_Take_ok (by simp [F_le_Take]) (by simp [V.res, V.res1]) ?_
  simp [F_le_Take, D1]
  refine ⟨fun h => ⟨fun hlt => ?_, fun hle => ?_⟩, fun h => ?_⟩
  · have : okT b w = false := by simp [okT]; omega
    simp [takeV, takeR, takeE, this]
  · obtain ⟨n, rfl, hn, _⟩ := mayB_cases h
    have ok : okT b n = true := by simp [okT, h]; omega
    have e1 : takeV b n = leN (b.take n) := by simp [takeV, ok]
    have e2 : takeR b n = b.drop n := by simp [takeR, ok]
    have e3 : takeE b n = 0 := by simp [takeE, ok]
    rw [e1, e2, e3]
    have hnb : n ≤ b.length := by omega
    refine wp_loop (fun k s m => ∃ i, i + k = n ∧ s 17 = .val (.int .i64 n) ∧ s 18 = .val (.int .i64 i) ∧ s 1 = .val (.int .i64 n) ∧ s 0 = .lit 1 (b.map cs) ∧ s 4 = .val (.int .u64 (leN (b.take i) : Nat)) ∧ m = ⟨[], [(5, 1, 0)]⟩)
      n (IW.of ⟨0, by omega, by simp, by simp, by simp, by simp, by simp [leN], by simp⟩) fun k s m ⟨i, hik, h17, h18, h1, h0, h4, hm⟩ => ?_
    subst hm
    by_cases hlt : i < n
    · have hg : b[i]? = some b[i] := List.getElem?_eq_getElem (by omega)
      have hs : b.take (i + 1) = b.take i ++ [b[i]] := by rw [List.take_add_one, hg]; rfl
      have hl : (b.take i).length = i := by simp; omega
      have hlt1 := leN_lt (b.take i)
      have hlt2 := leN_lt (b.take (i + 1))
      have hl2 : (b.take (i + 1)).length = i + 1 := by simp; omega
      rw [hl] at hlt1
      rw [hl2] at hlt2
      have e5 : leN (b.take (i + 1)) = leN (b.take i) + b[i].toNat * 2 ^ (8 * i) := by
        rw [hs, leN_append, hl, Nat.pow_mul]; simp [leN, Nat.mul_comm]
      have h64 : 256 ^ (i + 1) ≤ 2 ^ 64 := by
        have : 256 ^ (i + 1) ≤ 256 ^ 8 := Nat.pow_le_pow_right (by omega) (by omega)
        simpa using this
      have h64' : leN (b.take (i + 1)) < 2 ^ 64 := Nat.lt_of_lt_of_le hlt2 h64
      have eb : IntKind.u64.wrap (b[i].toNat : Int) = b[i].toNat := by have := b[i].toNat_lt; exact IntWalk.u64_in _ (by omega)
      have e8 : IntKind.i64.wrap (8 * (i : Int)) = ((8 * i : Nat) : Int) := by rw [IntWalk.i64_in _ (by omega)]; omega
      have e9 : min (8 * i) IntKind.u64.bits = 8 * i := Nat.min_eq_left (show 8 * i ≤ 64 by omega)
      have e10 : IntKind.u64.wrap ((b[i].toNat * 2 ^ (8 * i) : Nat) : Int) = ((b[i].toNat * 2 ^ (8 * i) : Nat) : Int) := IntWalk.u64_in _ (by omega)
      have e11 : (b[i].toNat : Int) * 2 ^ (8 * i) = ((b[i].toNat * 2 ^ (8 * i) : Nat) : Int) := by simp
      have e12 := or_shl (leN (b.take i)) b[i].toNat (8 * i) (by rw [Nat.pow_mul]; exact hlt1) (by rw [← e5]; exact h64')
      simp [F_le_Take_L0, h17, h18, h1, h0, h4, hg, hlt, eb, e8, e9, e10, e11, e12, -Int.natCast_mul, -Int.natCast_pow, -Int.natCast_add]
      refine ⟨k - 1, by omega, IW.of ⟨i + 1, by omega, by simpa using h17, ?_, by simpa using h1, by simpa using h0, ?_, by simp⟩⟩
      · simp; rw [IntWalk.i64_in _ (by omega)]
      · simp [e5]
    · obtain rfl : i = n := by omega
      simp [F_le_Take_L0, h17, h18, h1, h0, h4, D1]
      omega
  · have : okT b w = false := by simp [okT, h]
    simp [takeV, takeR, takeE, this]

@[simp] def sp_Put (b : List UInt8) (v : Nat) (w : Int) : Option (V × List Tip) := if b.length ≤ 2 ^ 40 then some (.tuple [.row 0 1 ((bytesPut b v w).map cs), enc (errPut v w)], [(5, 1, (bytesPut b v w).length)]) else none
@[simp] def sp_Take (b : List UInt8) (w : Int) : Option (V × List Tip) := if b.length ≤ 2 ^ 40 then some (.tuple [enc (takeV b w), .row 0 1 ((takeR b w).map cs), enc (takeE b w)], [(5, 1, (takeR b w).length)]) else none

/-- The extern that looks for a byte. -/
theorem x_indexByte (b : ByteArray) (c : Int) : ExtR Try.prog n_internal_bytealg_IndexByteString [.val (.string b), .val (.int .u8 c)] (.val (.int .i64 (Lib.indexByte b.data.toList c.toNat.toUInt8))) := by
  intro M w vals hr
  obtain ⟨x, r, e, ⟨rfl, _⟩, y, r2, rfl, ⟨rfl, _⟩, e3⟩ := hr
  simp only [RepL] at e3
  subst e3
  have hv : vals = #[.string b, .int .u8 c] := by apply Array.ext'; simpa using e
  subst hv
  refine ⟨_, ?_, ⟨rfl, rfl⟩⟩
  rw [run_callFunc_indexByte (P := Try.prog) (f := n_internal_bytealg_IndexByteString) (fn := (Try.prog.funcs[n_internal_bytealg_IndexByteString]?).getD default) (by kernel_rfl) (by kernel_rfl) (by kernel_rfl) (by kernel_rfl) (by kernel_rfl), Lib.run_indexByteString]
  rfl
end Go.Av

namespace Go.Av
open Enc (enc dec)
open Cel (cs dc)
open Go.Proofs

/-- A letter's size. -/
def sizeL (c : Nat) : Int := if c = 98 then 1 else if c = 104 then 2 else if c = 119 then 4 else if c = 113 then 8 else 0

/-- The place of a byte, as the extern tells it. -/
@[simp] def sp_ixb : List V → Option (V × List Tip)
  | [.val (.string b), .val (.int .u8 c)] => some (.val (.int .i64 (Lib.indexByte b.data.toList c.toNat.toUInt8)), [])
  | _ => none
theorem sp_ixb_ok : EOk Try.prog n_internal_bytealg_IndexByteString sp_ixb := by
  intro args v tips h
  unfold sp_ixb at h
  split at h
  · cases h; exact .inr ⟨rfl, rfl, x_indexByte _ _⟩
  · cases h
def D2a : Orc := Orc.nil.add n_internal_bytealg_IndexByteString sp_ixb
theorem D2a_ok : OOk Try.prog D2a := OOk.nil.add sp_ixb_ok
theorem c_slite (b : ByteArray) (c : UInt8) : Pure Try.prog n_internal_stringslite_IndexByte [enc b, enc c] (enc (Lib.indexByte b.data.toList c)) [] := by
  refine Pure.ofC D2a_ok hm F_internal_stringslite_IndexByte_ok (by simp [F_internal_stringslite_IndexByte]) rfl ?_
  simp [F_internal_stringslite_IndexByte, D2a]
@[simp] def sp_slite (b : ByteArray) (c : UInt8) : Option (V × List Tip) := some (enc (Lib.indexByte b.data.toList c), [])
def D2b : Orc := Orc.nil.add n_internal_stringslite_IndexByte (sp2 sp_slite)
theorem D2b_ok : OOk Try.prog D2b := OOk.nil.add (sp2_ok fun b c r h => by cases h; exact c_slite b c)
theorem c_strIndexByte (b : ByteArray) (c : UInt8) : Pure Try.prog n_strings_IndexByte [enc b, enc c] (enc (Lib.indexByte b.data.toList c)) [] := by
  refine Pure.ofC D2b_ok hm F_strings_IndexByte_ok (by simp [F_strings_IndexByte]) rfl ?_
  simp [F_strings_IndexByte, D2b]
def D2c : Orc := Orc.nil.add n_strings_IndexByte (sp2 sp_slite)
theorem D2c_ok : OOk Try.prog D2c := OOk.nil.add (sp2_ok fun b c r h => by cases h; exact c_strIndexByte b c)
theorem c_IndexRune (b : ByteArray) (c : Nat) (hc : c < 128) : Pure Try.prog n_strings_IndexRune [enc b, enc (Rune.mk c)] (enc (Lib.indexByte b.data.toList (UInt8.ofNat c))) [] := by
  refine Pure.ofC D2c_ok hm F_strings_IndexRune_ok (by simp [F_strings_IndexRune]) rfl ?_
  have e : IntKind.u8.wrap (c : Int) = c := IntWalk.u8_in _ (by omega)
  have h0 : (0 : Int) ≤ c := by omega
  have h1 : (c : Int) < 128 := by omega
  have h2 : (c : Int) < 256 := by omega
  simp [F_strings_IndexRune, D2c, h1, e, h2]
/-- The place of a letter in a text. -/
def ixr (b : ByteArray) (c : Nat) : Int := Lib.indexByte b.data.toList (UInt8.ofNat c)
@[simp] def sp_ixr (b : ByteArray) (c : Rune) : Option (V × List Tip) := if 0 ≤ c.v ∧ c.v < 128 then some (enc (ixr b c.v.toNat), []) else none
def D2d : Orc := Orc.nil.add n_strings_IndexRune (sp2 sp_ixr)
theorem D2d_ok : OOk Try.prog D2d := OOk.nil.add (sp2_ok fun b c r h => by
  simp only [sp_ixr] at h
  split at h <;> cases h
  rename_i hc
  obtain ⟨n, hn⟩ : ∃ n : Nat, c = ⟨n⟩ := ⟨c.v.toNat, by cases c; simp at hc ⊢; omega⟩
  subst hn
  exact c_IndexRune b n (by simp at hc; omega))
theorem idx_bhwq (c : Nat) (hc : c < 128) : (if 0 ≤ Lib.indexByte [98, 104, 119, 113] (UInt8.ofNat c) then (2 : Int) ^ (Lib.indexByte [98, 104, 119, 113] (UInt8.ofNat c)).toNat else 0) = sizeL c := by
  have : ∀ c : _root_.Fin 128, (if 0 ≤ Lib.indexByte [98, 104, 119, 113] (UInt8.ofNat c.val) then (2 : Int) ^ (Lib.indexByte [98, 104, 119, 113] (UInt8.ofNat c.val)).toNat else 0) = sizeL c.val := by decide
  exact this ⟨c, hc⟩
theorem idx_le (c : UInt8) : -1 ≤ Lib.indexByte [98, 104, 119, 113] c ∧ Lib.indexByte [98, 104, 119, 113] c ≤ 3 := by
  simp only [Lib.indexByte]
  repeat' split
  all_goals simp_all
theorem c_le_size (c : Nat) (hc : c < 128) : Pure Try.prog n_le_size [enc (Rune.mk c)] (enc (sizeL c)) [] := by
  refine Pure.ofC D2d_ok hm F_le_size_ok (by simp [F_le_size]) rfl ?_
  have h1 : (c : Int) < 128 := by omega
  have h2 : (if 0 ≤ ixr ⟨#[98, 104, 119, 113]⟩ c then (2 : Int) ^ (ixr ⟨#[98, 104, 119, 113]⟩ c).toNat else 0) = sizeL c := idx_bhwq c hc
  have h3 : -1 ≤ ixr ⟨#[98, 104, 119, 113]⟩ c ∧ ixr ⟨#[98, 104, 119, 113]⟩ c ≤ 3 := idx_le _
  simp [F_le_size, D2d, h1]
  generalize ixr ⟨#[98, 104, 119, 113]⟩ c = x at h2 h3
  refine ⟨fun h => ⟨h, ?_⟩, fun h => ?_⟩
  · rw [if_pos h] at h2
    rw [← h2]
    have : x = 0 ∨ x = 1 ∨ x = 2 ∨ x = 3 := by omega
    rcases this with rfl | rfl | rfl | rfl <;> decide
  · rw [if_neg (by omega)] at h2
    exact h2
end Go.Av

namespace Go.Av
open Enc (enc dec)
open Cel (cs dc)
open Go.Proofs

/-- Numbers by a form. -/
def packS : List UInt8 → List Nat → Option (List UInt8)
  | [], [] => some []
  | c :: f, n :: l => if mayB n (sizeL c.toNat) = true then (packS f l).map (leB n (sizeL c.toNat).toNat ++ ·) else none
  | _, _ => none
def packB (f : List UInt8) (l : List Nat) : List UInt8 := (packS f l).getD []
def packE (f : List UInt8) (l : List Nat) : Int := if (packS f l).isSome = true then 0 else 10

@[simp] def sp_size (c : Rune) : Option (V × List Tip) := if 0 ≤ c.v ∧ c.v < 128 then some (enc (sizeL c.v.toNat), []) else none
def D3 : Orc := ((Orc.nil.add n_le_size (sp1 sp_size)).add n_le_Put (sp3 sp_Put)).add n_le_Take (sp2 sp_Take)
theorem D3_ok : OOk Try.prog D3 := by
  refine ((OOk.nil.add (sp1_ok fun c r h => ?_)).add (sp3_ok fun b v w r h => ?_)).add (sp2_ok fun b w r h => ?_)
  · simp only [sp_size] at h
    split at h <;> cases h
    rename_i hc
    obtain ⟨n, hn⟩ : ∃ n : Nat, c = ⟨n⟩ := ⟨c.v.toNat, by cases c; simp at hc ⊢; omega⟩
    subst hn
    exact c_le_size n (by simp at hc; omega)
  · simp only [sp_Put] at h
    split at h <;> cases h
    exact c_le_Put b v w (by assumption)
  · simp only [sp_Take] at h
    split at h <;> cases h
    exact c_le_Take b w (by assumption)
theorem sizeL_le (c : Nat) : 0 ≤ sizeL c ∧ sizeL c ≤ 8 := by
  unfold sizeL
  repeat' split
  all_goals omega
theorem dec_form (f : List UInt8) (i : Nat) (c : UInt8) (hf : ∀ c ∈ f, c.toNat < 128) (h : f[i]? = some c) : Utf8.decode ⟨f.toArray⟩ i = (c.toNat, 1) ∧ c.toNat < 128 := by
  obtain ⟨hlt, he⟩ := List.getElem?_eq_some_iff.1 h
  have hc := hf c (he ▸ List.getElem_mem hlt)
  refine ⟨?_, hc⟩
  have e : (⟨f.toArray⟩ : ByteArray)[i]'(by show i < f.toArray.size; simpa using hlt) = c := by
    show f.toArray[i] = c
    simpa using he
  rw [decode_ascii ⟨f.toArray⟩ i (by show i < f.toArray.size; simpa using hlt) (by rw [e]; exact hc), e]

def PackI (f : List UInt8) (l : List Nat) (k : Nat) (s : Nat → V) (m : Mem) : Prop :=
  ∃ i acc t tips, i + k = f.length ∧ i ≤ l.length ∧ packS f l = (packS (f.drop i) (l.drop i)).map (acc ++ ·) ∧ acc.length ≤ 8 * i ∧ s 1 = .lit 1 (l.map cs) ∧ s 10 = .ptr 0 0 ∧ s 6 = .val (.int .i64 i) ∧ s 4 = .row t 1 (acc.map cs) ∧
      m = ⟨[[.tuple [.val (.string ⟨f.toArray⟩), .val (.int .i64 i)]]], tips⟩ ∧ tips[t]? = some (5, 1, acc.length)
theorem c_le_Pack (f : List UInt8) (l : List Nat) (hf : ∀ c ∈ f, c.toNat < 128) (hl : f.length ≤ 2 ^ 30) (hn : l.length ≤ 2 ^ 30) :
    Pure Try.prog n_le_Pack [enc (⟨f.toArray⟩ : ByteArray), enc l] (.tuple [.row 0 1 ((packB f l).map cs), enc (packE f l)]) [(5, 1, (packB f l).length)] := by
  refine Pure.ofR D3_ok hm F_le_Pack_ok (by simp [F_le_Pack]) (by simp [V.res, V.res1]) ?_
  simp [F_le_Pack]
  refine wp_loop (PackI f l)
    f.length (IW.of ⟨0, [], 0, [(5, 1, 0)], by omega, by omega, by simp, by simp, by simp, by simp, by simp, by simp, by simp, by simp⟩) fun k s m ⟨i, acc, t, tips, hik, hil, hp, ha, h1, h10, h6, h4, hm, ht⟩ => ?_
  subst hm
  by_cases hlt : i < f.length
  · have hfi : f[i]? = some f[i] := List.getElem?_eq_getElem hlt
    obtain ⟨hd, hc⟩ := dec_form f i f[i] hf hfi
    have hfd : f.drop i = f[i] :: f.drop (i + 1) := List.drop_eq_getElem_cons hlt
    have hc' : (f[i].toNat : Int) < 128 := by omega
    have hsz : (⟨f.toArray⟩ : ByteArray).size = f.length := by show f.toArray.size = _; simp
    by_cases hln : i < l.length
    · have hli : l[i]? = some l[i] := List.getElem?_eq_getElem hln
      have hld : l.drop i = l[i] :: l.drop (i + 1) := List.drop_eq_getElem_cons hln
      have hne : ¬ ((i : Int) = l.length) := by omega
      have hw := sizeL_le f[i].toNat
      cases hmay : mayB l[i] (sizeL f[i].toNat) with
      | false =>
        have hnone : packS f l = none := by rw [hp, hfd, hld]; simp [packS, hmay]
        simp [F_le_Pack_L0, h1, h10, h6, h4, hd, hsz, hlt, D3, hc', hli, hne, packB, packE, hnone, errPut, hmay]
        omega
      | true =>
        have e1 : bytesPut acc l[i] (sizeL f[i].toNat) = acc ++ leB l[i] (sizeL f[i].toNat).toNat := by simp [bytesPut, hmay]
        have e2 : errPut l[i] (sizeL f[i].toNat) = 0 := by simp [errPut, hmay]
        simp [F_le_Pack_L0, h1, h10, h6, h4, hd, hsz, hlt, D3, hc', hli, hne, e1, e2, leB_length]
        refine ⟨by omega, k - 1, by omega, IW.of ⟨i + 1, acc ++ leB l[i] (sizeL f[i].toNat).toNat, tips.length, tips ++ [(5, 1, acc.length + (sizeL f[i].toNat).toNat)], by omega, by omega, ?_, by simp [leB_length]; omega, by simpa using h1, by simpa using h10, ?_, by simp, by simp, by simp [leB_length]⟩⟩
        · rw [hp, hfd, hld]
          simp [packS, hmay, Function.comp_def]
        · simp; rw [IntWalk.i64_in _ (by omega)]
    · have hnil : l.drop i = [] := List.drop_eq_nil_of_le (by omega)
      have he : ((i : Int) = l.length) := by omega
      have hnone : packS f l = none := by rw [hp, hfd, hnil]; simp [packS]
      simp [F_le_Pack_L0, h1, h10, h6, h4, hsz, D3, he, packB, packE, hnone]
      omega
  · have hfnil : f.drop i = [] := List.drop_eq_nil_of_le (by omega)
    have hsz : (⟨f.toArray⟩ : ByteArray).size = f.length := by show f.toArray.size = _; simp
    by_cases hln : i < l.length
    · have hld : l.drop i = l[i] :: l.drop (i + 1) := List.drop_eq_getElem_cons hln
      have hnone : packS f l = none := by rw [hp, hfnil, hld]; simp [packS]
      simp [F_le_Pack_L0, h1, h10, h6, h4, hsz, hlt, hln, packB, packE, hnone]
    · have hnil : l.drop i = [] := List.drop_eq_nil_of_le (by omega)
      have hsome : packS f l = some acc := by rw [hp, hfnil, hnil]; simp [packS]
      simp [F_le_Pack_L0, h1, h10, h6, h4, hsz, hlt, hln, packB, packE, hsome, ht]

/-- The numbers that bytes are, by a form. -/
def unpackS : List UInt8 → List UInt8 → Option (List Nat)
  | [], b => if b = [] then some [] else none
  | c :: f, b => if okT b (sizeL c.toNat) = true then (unpackS f (b.drop (sizeL c.toNat).toNat)).map (leN (b.take (sizeL c.toNat).toNat) :: ·) else none
def unpackN (f b : List UInt8) : List Nat := (unpackS f b).getD []
def unpackE (f b : List UInt8) : Int := if (unpackS f b).isSome = true then 0 else 10
def UnpackI (f b : List UInt8) (k : Nat) (s : Nat → V) (m : Mem) : Prop :=
  ∃ (i : Nat) (acc : List Nat) (rest : List UInt8) (t : Nat) (v : V) (tips : List Tip), i + k = f.length ∧ unpackS f b = (unpackS (f.drop i) rest).map (acc ++ ·) ∧ acc.length = i ∧ rest.length ≤ 2 ^ 40 ∧ s 1 = v ∧ dec v = some rest ∧ s 10 = .ptr 0 0 ∧ s 4 = .row t 1 (acc.map cs) ∧
      m = ⟨[[.tuple [.val (.string ⟨f.toArray⟩), .val (.int .i64 i)]]], tips⟩ ∧ tips[t]? = some (114, 1, acc.length)
theorem c_le_Unpack (f b : List UInt8) (hf : ∀ c ∈ f, c.toNat < 128) (hl : f.length ≤ 2 ^ 30) (hb : b.length ≤ 2 ^ 40) :
    Pure Try.prog n_le_Unpack [enc (⟨f.toArray⟩ : ByteArray), enc b] (.tuple [.row 0 1 ((unpackN f b).map cs), enc (unpackE f b)]) [(114, 1, (unpackN f b).length)] := by
  refine Pure.ofR D3_ok hm F_le_Unpack_ok (by simp [F_le_Unpack]) (by simp [V.res, V.res1]) ?_
  simp [F_le_Unpack]
  refine wp_loop (UnpackI f b)
    f.length (IW.of ⟨0, [], b, 0, _, [(114, 1, 0)], by omega, by simp, by simp, by omega, rfl, by simp, by simp, by simp, by simp, by simp⟩) fun k s m ⟨i, acc, rest, t, v, tips, hik, hp, ha, hr, h1, hv, h10, h4, hm, ht⟩ => ?_
  subst hm
  have hsz : (⟨f.toArray⟩ : ByteArray).size = f.length := by show f.toArray.size = _; simp
  by_cases hlt : i < f.length
  · have hfi : f[i]? = some f[i] := List.getElem?_eq_getElem hlt
    obtain ⟨hd, hc⟩ := dec_form f i f[i] hf hfi
    have hfd : f.drop i = f[i] :: f.drop (i + 1) := List.drop_eq_getElem_cons hlt
    have hc' : (f[i].toNat : Int) < 128 := by omega
    have hw := sizeL_le f[i].toNat
    cases hok : okT rest (sizeL f[i].toNat) with
    | false =>
      have hnone : unpackS f b = none := by rw [hp, hfd]; simp [unpackS, hok]
      simp [F_le_Unpack_L0, h1, hv, h10, h4, hd, hsz, hlt, D3, hc', takeE, takeR, takeV, hok, unpackN, unpackE, hnone]
      omega
    | true =>
      have htl : t < tips.length := lt_of_some ht
      simp [F_le_Unpack_L0, h1, hv, h10, h4, hd, hsz, hlt, D3, hc', takeE, takeR, takeV, hok, List.getElem?_append_left htl, ht]
      refine ⟨by omega, by omega, k - 1, by omega, IW.of (show UnpackI f b _ _ _ from ⟨i + 1, acc ++ [leN (rest.take (sizeL f[i].toNat).toNat)], rest.drop (sizeL f[i].toNat).toNat, t, _, _, by omega, ?_, by simp [ha], by simp; omega, rfl, by simp, by simpa using h10, by simp, rfl, ?_⟩)⟩
      · rw [hp, hfd]
        simp [unpackS, hok, Function.comp_def]
      · rw [List.getElem?_set_self (by simp; omega)]
        simp [ha]
  · have hfnil : f.drop i = [] := List.drop_eq_nil_of_le (by omega)
    by_cases hre : rest = []
    · have hsome : unpackS f b = some acc := by rw [hp, hfnil]; simp [unpackS, hre]
      subst hre
      have hcond : ∀ F : Int → Prop, lenW v F = F 0 := lenW_dec hv
      simp [F_le_Unpack_L0, h1, hv, h10, h4, hsz, hlt, unpackN, unpackE, hsome, ht, hcond]
    · have hnone : unpackS f b = none := by rw [hp, hfnil]; simp [unpackS, hre]
      have hcond : ∀ F : Int → Prop, lenW v F = F rest.length := lenW_dec hv
      have hpos : 0 < rest.length := List.length_pos_iff.2 hre
      simp [F_le_Unpack_L0, h1, hv, h10, h4, hsz, hlt, unpackN, unpackE, hnone, hcond, hpos]
end Go.Av

namespace Go.Av
open Enc (enc dec)
open Cel (cs dc)
open Go.Proofs

/-- A form's letters are letters of a byte each. -/
def formOk (f : ByteArray) : Bool := f.data.toList.all (fun c => decide (c.toNat < 128)) && decide (f.size ≤ 2 ^ 30)
theorem formOk_spec {f : ByteArray} (h : formOk f = true) : (∀ c ∈ f.data.toList, c.toNat < 128) ∧ f.data.toList.length ≤ 2 ^ 30 := by
  simp only [formOk, Bool.and_eq_true, List.all_eq_true, decide_eq_true_eq] at h
  exact ⟨h.1, by rw [Array.length_toList]; exact h.2⟩
@[simp] def sp_pack (f : ByteArray) (l : List Nat) : Option (V × List Tip) := if formOk f = true ∧ l.length ≤ 2 ^ 30 then some (.tuple [.row 0 1 ((packB f.data.toList l).map cs), enc (packE f.data.toList l)], [(5, 1, (packB f.data.toList l).length)]) else none
@[simp] def sp_unpack (f : ByteArray) (b : List UInt8) : Option (V × List Tip) := if formOk f = true ∧ b.length ≤ 2 ^ 40 then some (.tuple [.row 0 1 ((unpackN f.data.toList b).map cs), enc (unpackE f.data.toList b)], [(114, 1, (unpackN f.data.toList b).length)]) else none
theorem ba_eta (f : ByteArray) : (⟨f.data.toList.toArray⟩ : ByteArray) = f := by cases f; simp
theorem sp_pack_ok : EOk Try.prog n_le_Pack (sp2 sp_pack) := sp2_ok fun f l r h => by
  simp only [sp_pack] at h
  split at h <;> cases h
  rename_i h
  have := c_le_Pack f.data.toList l (formOk_spec h.1).1 (formOk_spec h.1).2 h.2
  rwa [ba_eta] at this
theorem sp_unpack_ok : EOk Try.prog n_le_Unpack (sp2 sp_unpack) := sp2_ok fun f b r h => by
  simp only [sp_unpack] at h
  split at h <;> cases h
  rename_i h
  have := c_le_Unpack f.data.toList b (formOk_spec h.1).1 (formOk_spec h.1).2 h.2
  rwa [ba_eta] at this
theorem tipset {tips xs : List Tip} {t : Nat} {b : Tip} (h : t < tips.length) : ((tips ++ xs).set t b)[t]? = some b := by rw [List.getElem?_set_self (by simp; omega)]
end Go.Av

namespace Go.Av
open Enc (enc dec)
open Cel (cs dc)
open Go.Proofs

theorem mayB_zero (w : Int) : mayB 0 w = decide (w = 1 ∨ w = 2 ∨ w = 4 ∨ w = 8) := by
  have : 0 < 256 ^ w.toNat := Nat.pos_of_ne_zero (by simp)
  simp only [mayB, this, and_true]
  rw [decide_eq_decide]
  omega
theorem c_r01_may (w : Int) : Pure Try.prog n_r01_may [enc w] (enc (mayB 0 w)) [] := by
  refine Pure.ofC OOk.nil hm F_r01_may_ok (by simp [F_r01_may]) rfl ?_
  simp [F_r01_may, mayB_zero]
  by_cases h1 : w = 1 <;> by_cases h2 : w = 2 <;> by_cases h4 : w = 4 <;> simp [h1, h2, h4]
theorem c_r01_size (c : UInt8) : Pure Try.prog n_r01_size [enc c] (enc (sizeL c.toNat)) [] := by
  refine Pure.ofC OOk.nil hm F_r01_size_ok (by simp [F_r01_size]) rfl ?_
  have key : ∀ n : Nat, ((c.toNat : Int) = n) = (c.toNat = n) := fun n => by simp only [Int.natCast_inj]
  have k1 := key 98
  have k2 := key 104
  have k3 := key 119
  have k4 := key 113
  simp only [Int.cast_ofNat_Int] at k1 k2 k3 k4
  simp [F_r01_size, sizeL, k1, k2, k3, k4]
  by_cases h1 : c.toNat = 98
  · simp [h1]
  · by_cases h2 : c.toNat = 104
    · simp [h2]
    · by_cases h3 : c.toNat = 119
      · simp [h3]
      · by_cases h4 : c.toNat = 113
        · simp [h4]
        · simp [h1, h2, h3, h4]
@[simp] def sp_rmay (w : Int) : Option (V × List Tip) := some (enc (mayB 0 w), [])
@[simp] def sp_rsize (c : UInt8) : Option (V × List Tip) := some (enc (sizeL c.toNat), [])
def D4 : Orc := (Orc.nil.add n_r01_may (sp1 sp_rmay)).add n_r01_size (sp1 sp_rsize)
theorem D4_ok : OOk Try.prog D4 := by
  refine (OOk.nil.add (sp1_ok fun c r h => ?_)).add (sp1_ok fun c r h => ?_)
  · cases h; exact c_r01_may c
  · cases h; exact c_r01_size c
theorem mayB_lt {v n : Nat} (h : mayB v n = true) (h8 : n < 8) : v < 256 ^ n := by simp [mayB] at h; omega

def RPutI (b : List UInt8) (v n : Nat) (k : Nat) (s : Nat → V) (m : Mem) : Prop :=
  ∃ (i : Nat) (t : Nat) (tips : List Tip), i + k = n ∧ s 2 = .val (.int .i64 n) ∧ s 10 = .val (.int .i64 i) ∧ s 1 = .val (.int .u64 v) ∧ s 9 = .row t 1 ((b ++ leB v i).map cs) ∧ m = ⟨[], tips⟩ ∧ tips[t]? = some (5, 1, b.length + i)
theorem c_r01_Put (b : List UInt8) (v : Nat) (w : Int) (hb : b.length ≤ 2 ^ 40) : Pure Try.prog n_r01_Put [enc b, enc v, enc w] (.tuple [.row 0 1 ((bytesPut b v w).map cs), enc (errPut v w)]) [(5, 1, (bytesPut b v w).length)] := by
  refine Pure.ofR D4_ok hm F_r01_Put_ok (by simp [F_r01_Put]) (by simp [V.res, V.res1]) ?_
  cases hw : mayB 0 w with
  | false =>
    have hmay : mayB v w = false := by
      rw [mayB_zero] at hw
      simp at hw
      simp [mayB]
      omega
    simp [F_r01_Put, D4, hw, bytesPut, errPut, hmay]
  | true =>
    obtain ⟨n, rfl, hn, hc⟩ := mayB_cases hw
    have e8 : IntKind.i64.wrap (8 * (n : Int)) = ((8 * n : Nat) : Int) := by rw [IntWalk.i64_in _ (by omega)]; omega
    have e8u : IntKind.u64.wrap ((8 * n : Nat) : Int) = ((8 * n : Nat) : Int) := IntWalk.u64_in _ (by omega)
    have emin : min (8 * n) IntKind.u64.bits = 8 * n := Nat.min_eq_left (by show 8 * n ≤ 64; omega)
    have hshr : (v : Int).fdiv (2 ^ (8 * n)) = ((v / 256 ^ n : Nat) : Int) := by rw [shr_eq, Nat.pow_mul]
    have hsl := shr_lt v n
    have loop : ∀ (s : Nat → V) (t : Nat) (tips : List Tip) (hmay : mayB v n = true) (Q : Exit → (Nat → V) → Mem → Prop) (h0 : RPutI b v n n s ⟨[], tips⟩)
        (hQ : ∀ s t tips, s 9 = .row t 1 ((b ++ leB v n).map cs) → tips[t]? = some (5, 1, b.length + n) → Q (.exit 0) s ⟨[], tips⟩), wp Try.prog noY D4 (.loop F_r01_Put_L0) s ⟨[], tips⟩ Q := by
      intro s t tips hmay Q h0 hQ
      refine wp_loop (RPutI b v n) n (IW.of h0) fun k s m ⟨i, t, tips, hik, h2, h10, h1, h9, hm, ht⟩ => ?_
      subst hm
      by_cases hlt : i < n
      · have e8 : IntKind.i64.wrap (8 * (i : Int)) = ((8 * i : Nat) : Int) := by rw [IntWalk.i64_in _ (by omega)]; omega
        have e8u : IntKind.u64.wrap ((8 * i : Nat) : Int) = ((8 * i : Nat) : Int) := IntWalk.u64_in _ (by omega)
        have emin : min (8 * i) IntKind.u64.bits = 8 * i := Nat.min_eq_left (by show 8 * i ≤ 64; omega)
        have hshr : (v : Int).fdiv (2 ^ (8 * i)) = ((v / 256 ^ i : Nat) : Int) := by rw [shr_eq, Nat.pow_mul]
        have htl : t < tips.length := lt_of_some ht
        simp [F_r01_Put_L0, h2, h10, h1, h9, hlt, e8, e8u, emin, hshr, ht, leB_length, wrap_u8_nat, -Int.natCast_mul, -Int.natCast_pow, -Int.natCast_ediv]
        refine ⟨by omega, k - 1, by omega, IW.of (show RPutI b v n _ _ _ from ⟨i + 1, t, _, by omega, by simpa using h2, ?_, by simpa using h1, ?_, rfl, ?_⟩)⟩
        · simp; rw [IntWalk.i64_in _ (by omega)]
        · simp [leB_succ]
        · simp [htl, Nat.add_assoc]
      · obtain rfl : i = n := by omega
        simp [F_r01_Put_L0, h2, h10]
        exact hQ _ t tips (by simpa using h9) ht
    cases hmay : mayB v n with
    | false =>
      have h8 : (n : Int) < 8 := by simp [mayB] at hmay; omega
      have hnz : ¬ (((v / 256 ^ n : Nat) : Int) = 0) := by
        rw [shr_lt]
        simp [mayB] at hmay
        omega
      simp [F_r01_Put, D4, hw, h8, e8, e8u, emin, hshr, hnz, bytesPut, errPut, hmay, -Int.natCast_mul, -Int.natCast_pow, -Int.natCast_ediv]
      exact fun h => absurd (hsl.2 h) hnz
    | true =>
      by_cases h8 : (n : Int) < 8
      · have hz : ((v / 256 ^ n : Nat) : Int) = 0 := hsl.2 (mayB_lt hmay (by omega))
        simp [F_r01_Put, D4, hw, h8, e8, e8u, emin, hshr, hz, bytesPut, errPut, hmay, leB_length, -Int.natCast_mul, -Int.natCast_pow, -Int.natCast_ediv]
        refine ⟨by omega, loop _ 1 _ hmay _ ⟨0, 1, _, by omega, by simp, by simp, by simp, by simp [leB_zero], rfl, by simp⟩ fun s t tips h9 ht => ?_⟩
        simp [h9, ht]
      · simp [F_r01_Put, D4, hw, h8, bytesPut, errPut, hmay, leB_length, -Int.natCast_mul, -Int.natCast_pow, -Int.natCast_ediv]
        refine ⟨by omega, loop _ 1 _ hmay _ ⟨0, 1, _, by omega, by simp, by simp, by simp, by simp [leB_zero], rfl, by simp⟩ fun s t tips h9 ht => ?_⟩
        simp [h9, ht]

def RTakeI (b : List UInt8) (n : Nat) (k : Nat) (s : Nat → V) (m : Mem) : Prop :=
  k ≤ n ∧ s 0 = .lit 1 (b.map cs) ∧ s 1 = .val (.int .i64 n) ∧ s 9 = .val (.int .i64 (k - 1 : Int)) ∧ s 8 = .val (.int .u64 (leN ((b.take n).drop k) : Nat)) ∧ m = ⟨[], [(5, 1, 0)]⟩
theorem c_r01_Take (b : List UInt8) (w : Int) (hb : b.length ≤ 2 ^ 40) : Pure Try.prog n_r01_Take [enc b, enc w] (.tuple [enc (takeV b w), .row 0 1 ((takeR b w).map cs), enc (takeE b w)]) [(5, 1, (takeR b w).length)] := by
  refine Pure.ofR D4_ok hm F_r01_Take_ok (by simp [F_r01_Take]) (by simp [V.res, V.res1]) ?_
  cases hw : mayB 0 w with
  | false =>
    have : okT b w = false := by simp [okT, hw]
    simp [F_r01_Take, D4, hw, takeV, takeR, takeE, this]
  | true =>
    obtain ⟨n, rfl, hn, hc⟩ := mayB_cases hw
    by_cases hle : n ≤ b.length
    · have ok : okT b n = true := by simp [okT, hw]; omega
      have e1 : takeV b n = leN (b.take n) := by simp [takeV, ok]
      have e2 : takeR b n = b.drop n := by simp [takeR, ok]
      have e3 : takeE b n = 0 := by simp [takeE, ok]
      have hw1 : IntKind.i64.wrap ((n : Int) - 1) = (n : Int) - 1 := IntWalk.i64_in _ (by omega)
      have hnl : ¬ (b.length < n) := by omega
      simp [F_r01_Take, D4, hw, hnl, hle, e1, e2, e3, hw1]
      refine wp_loop (RTakeI b n) n (IW.of ⟨Nat.le_refl _, by simp, by simp, by simp, by simp [leN], rfl⟩) fun k s m ⟨hk, h0, h1, h9, h8, hm⟩ => ?_
      subst hm
      cases k with
      | zero =>
        simp at h8
        simp [F_r01_Take_L0, h0, h1, h9, h8, hle]
        omega
      | succ k =>
        have hkb : k < b.length := by omega
        have hg : b[k]? = some b[k] := List.getElem?_eq_getElem hkb
        have hd : (b.take n).drop k = b[k] :: (b.take n).drop (k + 1) := by
          rw [List.drop_eq_getElem_cons (by simp; omega)]; simp
        have e4 : leN ((b.take n).drop k) = b[k].toNat + 256 * leN ((b.take n).drop (k + 1)) := by rw [hd]; rfl
        have hlt := leN_lt ((b.take n).drop k)
        have hll : ((b.take n).drop k).length ≤ 8 := by simp; omega
        have h64 : 256 ^ ((b.take n).drop k).length ≤ 2 ^ 64 := by
          have : 256 ^ ((b.take n).drop k).length ≤ 256 ^ 8 := Nat.pow_le_pow_right (by omega) hll
          simpa using this
        have hb64 : leN ((b.take n).drop k) < 2 ^ 64 := Nat.lt_of_lt_of_le hlt h64
        have hbl := b[k].toNat_lt
        have w1 : IntKind.u64.wrap (((leN ((b.take n).drop (k + 1)) : Nat) : Int) * 256) = ((256 * leN ((b.take n).drop (k + 1)) : Nat) : Int) := by rw [IntWalk.u64_in _ (by omega)]; omega
        have w2 : IntKind.u64.wrap (b[k].toNat : Int) = b[k].toNat := IntWalk.u64_in _ (by omega)
        have w3 : IntKind.u64.wrap (((256 * leN ((b.take n).drop (k + 1)) : Nat) : Int) + b[k].toNat) = ((leN ((b.take n).drop k) : Nat) : Int) := by rw [IntWalk.u64_in _ (by omega)]; omega
        have w4 : IntKind.i64.wrap ((k : Int) - 1) = (k : Int) - 1 := IntWalk.i64_in _ (by omega)
        have h9' : s 9 = .val (.int .i64 (k : Int)) := by rw [h9]; congr 2; omega
        simp [F_r01_Take_L0, h0, h1, h9', h8, hg, w1, w2, w3, w4, -Int.natCast_mul]
        exact ⟨k, by omega, IW.of ⟨by omega, by simpa using h0, by simpa using h1, by simp, by simp, rfl⟩⟩
    · have ok : okT b n = false := by simp [okT, hw]; omega
      have hnl : b.length < n := by omega
      simp [F_r01_Take, D4, hw, hnl, takeV, takeR, takeE, ok]

@[simp] def sp_Pack (f : ByteArray) (l : List Nat) : Option (V × List Tip) := if (∀ c ∈ f.data.toList, c.toNat < 128) ∧ f.size ≤ 2 ^ 30 ∧ l.length ≤ 2 ^ 30 then some (.tuple [.row 0 1 ((packB f.data.toList l).map cs), enc (packE f.data.toList l)], [(5, 1, (packB f.data.toList l).length)]) else none
end Go.Av

namespace Go.Av
open Enc (enc dec)
open Cel (cs dc)
open Go.Proofs

def D5 : Orc := ((Orc.nil.add n_r01_size (sp1 sp_rsize)).add n_r01_Put (sp3 sp_Put)).add n_r01_Take (sp2 sp_Take)
theorem D5_ok : OOk Try.prog D5 := by
  refine ((OOk.nil.add (sp1_ok fun c r h => ?_)).add (sp3_ok fun b v w r h => ?_)).add (sp2_ok fun b w r h => ?_)
  · cases h; exact c_r01_size c
  · simp only [sp_Put] at h
    split at h <;> cases h
    exact c_r01_Put b v w (by assumption)
  · simp only [sp_Take] at h
    split at h <;> cases h
    exact c_r01_Take b w (by assumption)
theorem ba_get (f : List UInt8) (i : Nat) : (⟨f.toArray⟩ : ByteArray)[i]? = f[i]? := by
  by_cases h : i < f.length
  · rw [List.getElem?_eq_getElem h]
    have h' : i < (⟨f.toArray⟩ : ByteArray).size := by show i < f.toArray.size; simpa using h
    rw [getElem?_pos (⟨f.toArray⟩ : ByteArray) i h']
    congr 1
  · rw [List.getElem?_eq_none (by omega)]
    have h' : ¬ i < (⟨f.toArray⟩ : ByteArray).size := by show ¬ i < f.toArray.size; simpa using h
    rw [getElem?_neg (⟨f.toArray⟩ : ByteArray) i h']
theorem ba_size (f : List UInt8) : (⟨f.toArray⟩ : ByteArray).size = f.length := by show f.toArray.size = _; simp
theorem ba_get1 (f : List UInt8) (i : Nat) (h : i < (⟨f.toArray⟩ : ByteArray).size) : (⟨f.toArray⟩ : ByteArray)[i]'h = f[i]'(by rw [← ba_size f]; exact h) := rfl
theorem packS_len : ∀ (f : List UInt8) (l : List Nat) (b : List UInt8), packS f l = some b → f.length = l.length
  | [], [], _, _ => rfl
  | [], _ :: _, _, h => by simp [packS] at h
  | _ :: _, [], _, h => by simp [packS] at h
  | c :: f, n :: l, b, h => by
    simp only [packS] at h
    split at h
    · simp only [Option.map_eq_some_iff] at h
      obtain ⟨b', h, _⟩ := h
      simp [packS_len f l b' h]
    · cases h
def RPackI (f : List UInt8) (l : List Nat) (k : Nat) (s : Nat → V) (m : Mem) : Prop :=
  ∃ (i : Nat) (acc : List UInt8) (t : Nat) (tips : List Tip), i + k = f.length ∧ packS f l = (packS (f.drop i) (l.drop i)).map (acc ++ ·) ∧ acc.length ≤ 8 * i ∧ s 0 = .val (.string ⟨f.toArray⟩) ∧ s 1 = .lit 1 (l.map cs) ∧ s 7 = .val (.int .i64 i) ∧ s 6 = .row t 1 (acc.map cs) ∧
    m = ⟨[], tips⟩ ∧ tips[t]? = some (5, 1, acc.length)
theorem c_r01_Pack (f : List UInt8) (l : List Nat) (hl : f.length ≤ 2 ^ 30) :
    Pure Try.prog n_r01_Pack [enc (⟨f.toArray⟩ : ByteArray), enc l] (.tuple [.row 0 1 ((packB f l).map cs), enc (packE f l)]) [(5, 1, (packB f l).length)] := by
  refine Pure.ofR D5_ok hm F_r01_Pack_ok (by simp [F_r01_Pack]) (by simp [V.res, V.res1]) ?_
  by_cases hlen : f.length = l.length
  · simp [F_r01_Pack, ba_size, hlen]
    refine wp_loop (RPackI f l) f.length (IW.of ⟨0, [], 1, _, by omega, by simp, by simp, by simp, by simp, by simp, by simp, rfl, by simp⟩) fun k s m ⟨i, acc, t, tips, hik, hp, ha, h0, h1, h7, h6, hm, ht⟩ => ?_
    subst hm
    by_cases hlt : i < f.length
    · have hfi : f[i]? = some f[i] := List.getElem?_eq_getElem hlt
      have hfd : f.drop i = f[i] :: f.drop (i + 1) := List.drop_eq_getElem_cons hlt
      have hln : i < l.length := by omega
      have hli : l[i]? = some l[i] := List.getElem?_eq_getElem hln
      have hld : l.drop i = l[i] :: l.drop (i + 1) := List.drop_eq_getElem_cons hln
      have hw := sizeL_le f[i].toNat
      cases hmay : mayB l[i] (sizeL f[i].toNat) with
      | false =>
        have hnone : packS f l = none := by rw [hp, hfd, hld]; simp [packS, hmay]
        simp [F_r01_Pack_L0, h0, h1, h7, h6, ba_size, ba_get1, hlt, D5, hli, hfi, packB, packE, hnone, errPut, bytesPut, hmay]
        omega
      | true =>
        simp [F_r01_Pack_L0, h0, h1, h7, h6, ba_size, ba_get1, hlt, D5, hli, hfi, errPut, bytesPut, hmay, leB_length]
        refine ⟨by omega, k - 1, by omega, IW.of (show RPackI f l _ _ _ from ⟨i + 1, acc ++ leB l[i] (sizeL f[i].toNat).toNat, tips.length, _, by omega, ?_, by simp [leB_length]; omega, by simpa using h0, by simpa using h1, ?_, by simp, rfl, by simp [leB_length]⟩)⟩
        · rw [hp, hfd, hld]
          simp [packS, hmay, Function.comp_def]
        · simp; rw [IntWalk.i64_in _ (by omega)]
    · have hfnil : f.drop i = [] := List.drop_eq_nil_of_le (by omega)
      have hnil : l.drop i = [] := List.drop_eq_nil_of_le (by omega)
      have hsome : packS f l = some acc := by rw [hp, hfnil, hnil]; simp [packS]
      simp [F_r01_Pack_L0, h0, h1, h7, h6, ba_size, hlt, packB, packE, hsome, ht]
  · have hnone : packS f l = none := by
      cases h : packS f l with
      | none => rfl
      | some b => exact absurd (packS_len f l b h) hlen
    have hne : ¬ ((f.length : Int) = l.length) := by omega
    simp [F_r01_Pack, ba_size, hne, packB, packE, hnone]

def RUnpackI (f b : List UInt8) (k : Nat) (s : Nat → V) (m : Mem) : Prop :=
  ∃ (i : Nat) (acc : List Nat) (rest : List UInt8) (t : Nat) (v : V) (tips : List Tip), i + k = f.length ∧ unpackS f b = (unpackS (f.drop i) rest).map (acc ++ ·) ∧ acc.length = i ∧ rest.length ≤ 2 ^ 40 ∧ s 0 = .val (.string ⟨f.toArray⟩) ∧ s 1 = v ∧ dec v = some rest ∧ s 7 = .val (.int .i64 i) ∧ s 6 = .row t 1 (acc.map cs) ∧
      m = ⟨[], tips⟩ ∧ tips[t]? = some (114, 1, acc.length)
theorem c_r01_Unpack (f b : List UInt8) (hl : f.length ≤ 2 ^ 30) (hb : b.length ≤ 2 ^ 40) :
    Pure Try.prog n_r01_Unpack [enc (⟨f.toArray⟩ : ByteArray), enc b] (.tuple [.row 0 1 ((unpackN f b).map cs), enc (unpackE f b)]) [(114, 1, (unpackN f b).length)] := by
  refine Pure.ofR D5_ok hm F_r01_Unpack_ok (by simp [F_r01_Unpack]) (by simp [V.res, V.res1]) ?_
  simp [F_r01_Unpack]
  refine wp_loop (RUnpackI f b) f.length (IW.of ⟨0, [], b, 1, _, _, by omega, by simp, by simp, by omega, by simp, rfl, by simp, by simp, by simp, rfl, by simp⟩) fun k s m ⟨i, acc, rest, t, v, tips, hik, hp, ha, hr, h0, h1, hv, h7, h6, hm, ht⟩ => ?_
  subst hm
  have htl : t < tips.length := lt_of_some ht
  by_cases hlt : i < f.length
  · have hfi : f[i]? = some f[i] := List.getElem?_eq_getElem hlt
    have hfd : f.drop i = f[i] :: f.drop (i + 1) := List.drop_eq_getElem_cons hlt
    have hw := sizeL_le f[i].toNat
    cases hok : okT rest (sizeL f[i].toNat) with
    | false =>
      have hnone : unpackS f b = none := by rw [hp, hfd]; simp [unpackS, hok]
      simp [F_r01_Unpack_L0, h0, h1, hv, h7, h6, hfi, ba_size, ba_get1, hlt, D5, takeE, takeR, takeV, hok, unpackN, unpackE, hnone]
      omega
    | true =>
      simp [F_r01_Unpack_L0, h0, h1, hv, h7, h6, hfi, ba_size, ba_get1, hlt, D5, takeE, takeR, takeV, hok, List.getElem?_append_left htl, ht]
      refine ⟨by omega, by omega, k - 1, by omega, IW.of (show RUnpackI f b _ _ _ from ⟨i + 1, acc ++ [leN (rest.take (sizeL f[i].toNat).toNat)], rest.drop (sizeL f[i].toNat).toNat, t, _, _, by omega, ?_, by simp [ha], by simp; omega, by simpa using h0, rfl, by simp, ?_, by simp, rfl, ?_⟩)⟩
      · rw [hp, hfd]
        simp [unpackS, hok, Function.comp_def]
      · simp; rw [IntWalk.i64_in _ (by omega)]
      · rw [List.getElem?_set_self (by simp; omega)]
        simp [ha]
  · have hfnil : f.drop i = [] := List.drop_eq_nil_of_le (by omega)
    have hcond : ∀ F : Int → Prop, lenW v F = F rest.length := lenW_dec hv
    by_cases hre : rest = []
    · have hsome : unpackS f b = some acc := by rw [hp, hfnil]; simp [unpackS, hre]
      subst hre
      simp [F_r01_Unpack_L0, h0, h1, h7, h6, ba_size, hlt, unpackN, unpackE, hsome, ht, hcond]
    · have hnone : unpackS f b = none := by rw [hp, hfnil]; simp [unpackS, hre]
      have hpos : 0 < rest.length := List.length_pos_iff.2 hre
      simp [F_r01_Unpack_L0, h0, h1, h7, ba_size, hlt, unpackN, unpackE, hnone, hcond, hpos]
end Go.Av

/- Sums, by numbers: no Go here. -/
namespace Go.Av.Pl

def poly : Nat := 2197175160
def stepN (n : Nat) : Nat := if n % 2 = 1 then n / 2 ^^^ poly else n / 2
def step4 (n : Nat) : Nat := stepN (stepN (stepN (stepN n)))
def tabL : List Nat := [0, 274646895, 549293790, 820201905, 1098587580, 1361435347, 1640403810, 1905808397, 2197175160, 2460548119, 2722870694, 2987750089, 3280807620, 3553878443, 3811616794, 4084100981]
theorem stepN_xor (a b : Nat) : stepN (a ^^^ b) = stepN a ^^^ stepN b := by
  have h1 : (a ^^^ b) / 2 = a / 2 ^^^ b / 2 := by
    have := Nat.shiftRight_xor_distrib (a := a) (b := b) (i := 1)
    simpa [Nat.shiftRight_eq_div_pow] using this
  have h2 : (a ^^^ b) % 2 = (a + b) % 2 := by
    have h : (a ^^^ b) % 2 ^ 1 = a % 2 ^ 1 ^^^ b % 2 ^ 1 := Nat.xor_mod_two_pow
    rw [Nat.pow_one] at h
    rw [h, Nat.add_mod]
    rcases Nat.mod_two_eq_zero_or_one a with ha | ha <;> rcases Nat.mod_two_eq_zero_or_one b with hb | hb <;> rw [ha, hb] <;> rfl
  unfold stepN
  rw [h1, h2]
  rcases Nat.mod_two_eq_zero_or_one a with ha | ha <;> rcases Nat.mod_two_eq_zero_or_one b with hb | hb
  · rw [if_neg (by omega), if_neg (by omega), if_neg (by omega)]
  · rw [if_pos (by omega), if_neg (by omega), if_pos (by omega), Nat.xor_assoc]
  · rw [if_pos (by omega), if_pos (by omega), if_neg (by omega), Nat.xor_assoc, Nat.xor_assoc, Nat.xor_comm poly]
  · rw [if_neg (by omega), if_pos (by omega), if_pos (by omega)]
    rw [Nat.xor_assoc, Nat.xor_comm poly, Nat.xor_assoc, Nat.xor_self, Nat.xor_zero]
theorem stepN_two (x : Nat) : stepN (2 * x) = x := by
  unfold stepN
  rw [if_neg (by omega)]
  omega
theorem split16 (n : Nat) : n = (16 * (n / 16)) ^^^ (n % 16) := by
  apply Nat.eq_of_testBit_eq
  intro i
  rw [Nat.testBit_xor, show 16 * (n / 16) = 2 ^ 4 * (n / 16) from rfl, show n % 16 = n % 2 ^ 4 from rfl, show n / 16 = n / 2 ^ 4 from rfl, Nat.testBit_mod_two_pow, Nat.testBit_two_pow_mul, Nat.testBit_div_two_pow]
  by_cases h : i < 4
  · have : ¬ (4 ≤ i) := by omega
    simp [h, this]
  · have : 4 ≤ i := by omega
    simp [h, this]
/-- The table's. -/
def tabN (n : Nat) : Nat := tabL.getD (n % 16) 0
theorem step4_tab (n : Nat) : step4 n = (n / 16) ^^^ tabN n := by
  have h16 : ∀ q, step4 (16 * q) = q := fun q => by
    unfold step4
    rw [show 16 * q = 2 * (2 * (2 * (2 * q))) by omega, stepN_two, stepN_two, stepN_two, stepN_two]
  have hx : ∀ a b, step4 (a ^^^ b) = step4 a ^^^ step4 b := fun a b => by unfold step4; rw [stepN_xor, stepN_xor, stepN_xor, stepN_xor]
  have ht : ∀ r : _root_.Fin 16, step4 r.val = tabL.getD r.val 0 := by decide
  conv => lhs; rw [split16 n]
  rw [hx, h16, ht ⟨n % 16, by omega⟩]
  rfl
theorem stepN_lt {n : Nat} (h : n < 2 ^ 32) : stepN n < 2 ^ 32 := by
  unfold stepN
  split
  · exact Nat.xor_lt_two_pow (by omega) (by decide)
  · omega
/-- A byte more. -/
def crcB (n : Nat) (b : UInt8) : Nat := step4 (step4 (n ^^^ b.toNat))
def crcF (n : Nat) (l : List UInt8) : Nat := l.foldl crcB n
def crcN (sum : Nat) (l : List UInt8) : Nat := crcF (sum ^^^ 4294967295) l ^^^ 4294967295
theorem step4_lt {n : Nat} (h : n < 2 ^ 32) : step4 n < 2 ^ 32 := stepN_lt (stepN_lt (stepN_lt (stepN_lt h)))
theorem crcB_lt {n : Nat} (h : n < 2 ^ 32) (b : UInt8) : crcB n b < 2 ^ 32 := by
  have := b.toNat_lt
  exact step4_lt (step4_lt (Nat.xor_lt_two_pow h (by omega)))
theorem crcF_lt : ∀ (l : List UInt8) {n : Nat}, n < 2 ^ 32 → crcF n l < 2 ^ 32
  | [], _, h => h
  | b :: l, _, h => crcF_lt l (crcB_lt h b)
theorem crcN_lt {sum : Nat} (h : sum < 2 ^ 32) (l : List UInt8) : crcN sum l < 2 ^ 32 :=
  Nat.xor_lt_two_pow (crcF_lt l (Nat.xor_lt_two_pow h (by decide))) (by decide)
theorem crcF_append (n : Nat) (a b : List UInt8) : crcF n (a ++ b) = crcF (crcF n a) b := List.foldl_append ..
end Go.Av.Pl

namespace Go.Av
open Enc (enc dec)
open Cel (cs dc)
open Go.Proofs Pl

theorem xor32 {a b : Nat} (ha : a < 2 ^ 32) (hb : b < 2 ^ 32) : bitXor .u32 (a : Int) (b : Int) = ((a ^^^ b : Nat) : Int) := by
  unfold bitXor
  have e : (BitVec.ofInt 32 (a : Int) ^^^ BitVec.ofInt 32 (b : Int)).toNat = a ^^^ b := by
    rw [BitVec.ofInt_natCast, BitVec.ofInt_natCast, BitVec.toNat_xor, BitVec.toNat_ofNat, BitVec.toNat_ofNat, Nat.mod_eq_of_lt ha, Nat.mod_eq_of_lt hb]
  show IntKind.u32.wrap (((BitVec.ofInt 32 (a : Int) ^^^ BitVec.ofInt 32 (b : Int)).toNat : Nat) : Int) = _
  have := Nat.xor_lt_two_pow ha hb
  rw [e, IntWalk.u32_in _ (by omega)]
theorem and15 {a : Nat} (ha : a < 2 ^ 32) : bitAnd .u32 (a : Int) 15 = ((a % 16 : Nat) : Int) := by
  unfold bitAnd
  have e : (BitVec.ofInt 32 (a : Int) &&& BitVec.ofInt 32 (15 : Int)).toNat = a % 16 := by
    rw [BitVec.ofInt_natCast, show BitVec.ofInt 32 (15 : Int) = BitVec.ofNat 32 15 from rfl, BitVec.toNat_and, BitVec.toNat_ofNat, BitVec.toNat_ofNat, Nat.mod_eq_of_lt ha]
    exact Nat.and_two_pow_sub_one_eq_mod a 4
  show IntKind.u32.wrap (((BitVec.ofInt 32 (a : Int) &&& BitVec.ofInt 32 (15 : Int)).toNat : Nat) : Int) = _
  rw [e, IntWalk.u32_in _ (by omega)]
def u32V (n : Nat) : V := .val (.int .u32 n)
theorem c_bytes_Equal (a b : List UInt8) : Pure Try.prog n_bytes_Equal [enc a, enc b] (enc (a == b)) [] := by
  refine Pure.ofC OOk.nil hm F_bytes_Equal_ok (by simp [F_bytes_Equal]) rfl ?_
  simp [F_bytes_Equal]
theorem c_halves : Pure Try.prog n_crc_halves [] (.agg (tabL.map u32V)) [] := by
  refine Pure.ofC OOk.nil hm F_crc_halves_ok (by simp [F_crc_halves]) rfl ?_
  simp [F_crc_halves, tabL, u32V]
@[simp] def sp_halves : Option (V × List Tip) := some (.agg (tabL.map u32V), [])
def D6 : Orc := Orc.nil.add n_crc_halves (sp0 sp_halves)
theorem D6_ok : OOk Try.prog D6 := OOk.nil.add (sp0_ok fun r h => by cases h; exact c_halves)
def MoreI (sum : Nat) (l : List UInt8) (k : Nat) (s : Nat → V) (m : Mem) : Prop :=
  ∃ i : Nat, i + k = l.length ∧ s 0 = u32V (crcF sum (l.take i)) ∧ s 5 = .ptr 0 0 ∧ s 11 = .lit 1 (l.map cs) ∧ s 12 = .val (.int .i64 l.length) ∧ s 13 = .val (.int .i64 i) ∧ m = ⟨[tabL.map u32V], []⟩
theorem tab_get (n : Nat) : (tabL.map u32V)[n % 16]? = some (u32V (tabN n)) := by
  have : n % 16 < tabL.length := by show n % 16 < 16; omega
  rw [List.getElem?_map, List.getElem?_eq_getElem this]
  simp [tabN, List.getD_eq_getElem?_getD, List.getElem?_eq_getElem this]
theorem tab_lt (n : Nat) : tabN n < 2 ^ 32 := by
  have ht : ∀ r : _root_.Fin 16, tabL.getD r.val 0 < 2 ^ 32 := by decide
  exact ht ⟨n % 16, by omega⟩
theorem c_crc_More (sum : Nat) (l : List UInt8) (hs : sum < 2 ^ 32) (hl : l.length ≤ 2 ^ 40) : Pure Try.prog n_crc_More [u32V sum, enc l] (u32V (crcN sum l)) [] := by
  refine Pure.ofC D6_ok hm F_crc_More_ok (by simp [F_crc_More]) rfl ?_
  have hx := xor32 hs (show 4294967295 < 2 ^ 32 by decide)
  have hx' : bitXor .u32 (sum : Int) 4294967295 = ((sum ^^^ 4294967295 : Nat) : Int) := hx
  have hlt := Nat.xor_lt_two_pow hs (show 4294967295 < 2 ^ 32 by decide)
  have htl : (tabL.map u32V).length = 16 := rfl
  simp [F_crc_More, u32V, hx', D6]
  refine ⟨by rfl, ?_⟩
  refine wp_loop (MoreI (sum ^^^ 4294967295) l) l.length (IW.of ⟨0, Nat.zero_add _, by simp [u32V, crcF], by simp, by simp, by simp, by simp, by simp⟩) fun k s m ⟨i, hik, h0, h5, h11, h12, h13, hm⟩ => ?_
  subst hm
  have hc := crcF_lt (l.take i) hlt
  by_cases hi : i < l.length
  · have hg : l[i]? = some l[i] := List.getElem?_eq_getElem hi
    have hb := l[i].toNat_lt
    have hobj : isObj (tabL.map u32V) = false := rfl
    have w1 : IntKind.u32.wrap (l[i].toNat : Int) = l[i].toNat := IntWalk.u32_in _ (by omega)
    have x1 := xor32 hc (show l[i].toNat < 2 ^ 32 by omega)
    have hn1 := Nat.xor_lt_two_pow hc (show l[i].toNat < 2 ^ 32 by omega)
    have hd : ∀ n : Nat, (n : Int).fdiv (2 ^ min 4 IntKind.u32.bits) = ((n / 16 : Nat) : Int) := fun n => by
      rw [show min 4 IntKind.u32.bits = 4 from rfl, shr_eq]
    have hm16 : ∀ n : Nat, ((n % 16 : Nat) : Int) < 16 := fun n => by omega
    have a1 := and15 hn1
    have x2 := xor32 (show (crcF (sum ^^^ 4294967295) (l.take i) ^^^ l[i].toNat) / 16 < 2 ^ 32 by omega) (tab_lt (crcF (sum ^^^ 4294967295) (l.take i) ^^^ l[i].toNat))
    rw [← step4_tab] at x2
    have hn2 := step4_lt hn1
    have a2 := and15 hn2
    have x3 := xor32 (show step4 (crcF (sum ^^^ 4294967295) (l.take i) ^^^ l[i].toNat) / 16 < 2 ^ 32 by omega) (tab_lt (step4 (crcF (sum ^^^ 4294967295) (l.take i) ^^^ l[i].toNat)))
    rw [← step4_tab] at x3
    simp only [u32V] at h0
    have tg := tab_get
    simp only [u32V] at tg hobj
    simp [F_crc_More_L0, h0, h5, h11, h12, h13, hg, hi, hobj, w1, x1, hd, a1, x2, a2, x3, hm16, u32V, tg, -Int.natCast_emod, -Int.natCast_ediv, -List.getElem?_map]
    refine ⟨k - 1, by omega, IW.of (show MoreI (sum ^^^ 4294967295) l _ _ _ from ⟨i + 1, by omega, ?_, by simpa using h5, by simpa using h11, by simpa using h12, ?_, rfl⟩)⟩
    · have e1 : l.take (i + 1) = l.take i ++ [l[i]] := by rw [List.take_add_one, hg]; rfl
      have e2 : crcF (sum ^^^ 4294967295) (l.take (i + 1)) = crcB (crcF (sum ^^^ 4294967295) (l.take i)) l[i] := by rw [e1, crcF_append]; rfl
      rw [e2]
      simp [u32V, crcB]
    · simp; rw [IntWalk.i64_in _ (by omega)]
  · have hil : i = l.length := by omega
    have ht : l.take i = l := by rw [hil, List.take_length]
    rw [ht] at h0 hc
    have hx2 : bitXor .u32 ((crcF (sum ^^^ 4294967295) l : Nat) : Int) 4294967295 = ((crcN sum l : Nat) : Int) := xor32 hc (show 4294967295 < 2 ^ 32 by decide)
    simp only [u32V] at h0
    simp [F_crc_More_L0, h0, h12, h13, hi, hx2]

@[simp] def sp_More (s : UInt32) (l : List UInt8) : Option (V × List Tip) := if l.length ≤ 2 ^ 40 then some (u32V (crcN s.toNat l), []) else none
def D7 : Orc := Orc.nil.add n_crc_More (sp2 sp_More)
theorem D7_ok : OOk Try.prog D7 := OOk.nil.add (sp2_ok fun s l r h => by
  simp only [sp_More] at h
  split at h <;> cases h
  exact c_crc_More s.toNat l s.toNat_lt (by assumption))
theorem c_crc_Sum (l : List UInt8) (hl : l.length ≤ 2 ^ 40) : Pure Try.prog n_crc_Sum [enc l] (u32V (crcN 0 l)) [] := by
  refine Pure.ofC D7_ok hm F_crc_Sum_ok (by simp [F_crc_Sum]) rfl ?_
  simp [F_crc_Sum, D7, u32V]
  omega
@[simp] def sp_Sum (l : List UInt8) : Option (V × List Tip) := if l.length ≤ 2 ^ 40 then some (u32V (crcN 0 l), []) else none
/-- A text with its sum behind. -/
def sealS (l : List UInt8) : List UInt8 := l ++ leB (crcN 0 l) 4
theorem put4 (l b : List UInt8) : bytesPut b (crcN 0 l) 4 = b ++ leB (crcN 0 l) 4 ∧ errPut (crcN 0 l) 4 = 0 := by
  have h := crcN_lt (sum := 0) (by decide) l
  have : mayB (crcN 0 l) 4 = true := by simp [mayB]; exact h
  simp [bytesPut, errPut, this]
def D8 : Orc := (Orc.nil.add n_crc_Sum (sp1 sp_Sum)).add n_le_Put (sp3 sp_Put)
theorem D8_ok : OOk Try.prog D8 := by
  refine (OOk.nil.add (sp1_ok fun l r h => ?_)).add (sp3_ok fun b v w r h => ?_)
  · simp only [sp_Sum] at h
    split at h <;> cases h
    exact c_crc_Sum l (by assumption)
  · simp only [sp_Put] at h
    split at h <;> cases h
    exact c_le_Put b v w (by assumption)
theorem u64_32 {n : Nat} (h : n < 2 ^ 32) : IntKind.u64.wrap (n : Int) = n := IntWalk.u64_in _ (by omega)
theorem c_crc_Seal (l : List UInt8) (hl : l.length ≤ 2 ^ 40) : Pure Try.prog n_crc_Seal [enc l] (.row 0 1 ((sealS l).map cs)) [(5, 1, (sealS l).length)] := by
  refine Pure.ofR D8_ok hm F_crc_Seal_ok (by simp [F_crc_Seal]) (by simp [V.res, V.res1]) ?_
  have h := u64_32 (crcN_lt (sum := 0) (by decide) l)
  have h4 := put4 l l
  simp [F_crc_Seal, D8, u32V, h, h4.1, h4.2, sealS]
  omega
@[simp] def sp_Seal (l : List UInt8) : Option (V × List Tip) := if l.length ≤ 2 ^ 40 then some (.row 0 1 ((sealS l).map cs), [(5, 1, (sealS l).length)]) else none
@[simp] def sp_Equal (a b : List UInt8) : Option (V × List Tip) := some (enc (a == b), [])
def D9 : Orc := (Orc.nil.add n_crc_Seal (sp1 sp_Seal)).add n_bytes_Equal (sp2 sp_Equal)
theorem D9_ok : OOk Try.prog D9 := by
  refine (OOk.nil.add (sp1_ok fun l r h => ?_)).add (sp2_ok fun a b r h => ?_)
  · simp only [sp_Seal] at h
    split at h <;> cases h
    exact c_crc_Seal l (by assumption)
  · cases h; exact c_bytes_Equal a b
/-- The text of one. -/
def openOk (b : List UInt8) : Bool := decide (4 ≤ b.length) && (sealS (b.take (b.length - 4)) == b)
def openT (b : List UInt8) : List UInt8 := if openOk b = true then b.take (b.length - 4) else []
def openE (b : List UInt8) : Int := if openOk b = true then 0 else 20
theorem c_crc_Open (b : List UInt8) (hb : b.length ≤ 2 ^ 40) : Pure Try.prog n_crc_Open [enc b] (.tuple [.row 0 1 ((openT b).map cs), enc (openE b)]) [(5, 1, (openT b).length)] := by
  refine Pure.ofR D9_ok hm F_crc_Open_ok (by simp [F_crc_Open]) (by simp [V.res, V.res1]) ?_
  have hw : IntKind.i64.wrap ((b.length : Int) - 4) = (b.length : Int) - 4 := IntWalk.i64_in _ (by omega)
  by_cases h4 : 4 ≤ b.length
  · have hn : (4 : Int) ≤ b.length := by omega
    have h0 : (0 : Int) ≤ (b.length : Int) - 4 := by omega
    have hs : ((b.length : Int) - 4).toNat = b.length - 4 := by omega
    have hle : (b.length : Int) - 4 ≤ b.length := by omega
    have hb2 : b.length ≤ 1099511627780 := by omega
    have hb3 : b.length ≤ 140737488355332 := by omega
    cases he : (sealS (b.take (b.length - 4)) == b) with
    | true =>
      have he' : sealS (b.take (b.length - 4)) = b := by simpa using he
      simp [F_crc_Open, D9, hw, hn, hs, hle, he', hb2, hb3, openT, openE, openOk, h4]
    | false =>
      have he' : ¬ sealS (b.take (b.length - 4)) = b := by simpa using he
      simp [F_crc_Open, D9, hw, hn, hs, hle, he', hb2, openT, openE, openOk, h4]
  · have hn : ¬ ((4 : Int) ≤ b.length) := by omega
    simp [F_crc_Open, D9, hw, hn, openT, openE, openOk, h4]

-- The reference of chapter 2.
theorem c_r02_step (n : Nat) (h : n < 2 ^ 32) : Pure Try.prog n_r02_step [u32V n] (u32V (stepN n)) [] := by
  refine Pure.ofC OOk.nil hm F_r02_step_ok (by simp [F_r02_step]) rfl ?_
  have hq : IntKind.u32.wrap ((n : Int) / 2) = ((n / 2 : Nat) : Int) := by rw [IntWalk.u32_in _ (by omega)]; omega
  have hr : (n : Int).tmod 2 = ((n % 2 : Nat) : Int) := by rw [Int.tmod_eq_emod_of_nonneg (by omega)]; omega
  have hx : bitXor .u32 ((n / 2 : Nat) : Int) 2197175160 = ((n / 2 ^^^ poly : Nat) : Int) := xor32 (show n / 2 < 2 ^ 32 by omega) (show poly < 2 ^ 32 by decide)
  by_cases h1 : n % 2 = 1
  · simp [F_r02_step, u32V, hq, hr, hx, h1, stepN, -Int.natCast_emod, -Int.natCast_ediv]
  · have h1' : ¬ (((n % 2 : Nat) : Int) = 1) := by omega
    simp [F_r02_step, u32V, hq, hr, h1', h1, stepN, -Int.natCast_emod, -Int.natCast_ediv]
@[simp] def sp_step (n : UInt32) : Option (V × List Tip) := some (u32V (stepN n.toNat), [])
def D10 : Orc := Orc.nil.add n_r02_step (sp1 sp_step)
theorem D10_ok : OOk Try.prog D10 := OOk.nil.add (sp1_ok fun n r h => by cases h; exact c_r02_step n.toNat n.toNat_lt)
def stepK : Nat → Nat → Nat
  | 0, n => n
  | k + 1, n => stepK k (stepN n)
theorem stepK_lt : ∀ (k : Nat) {n : Nat}, n < 2 ^ 32 → stepK k n < 2 ^ 32
  | 0, _, h => h
  | k + 1, _, h => stepK_lt k (stepN_lt h)
theorem stepK_succ : ∀ (k n : Nat), stepK (k + 1) n = stepN (stepK k n)
  | 0, _ => rfl
  | k + 1, n => by rw [stepK, stepK_succ k]; rfl
def RMoreI (sum : Nat) (l : List UInt8) (k : Nat) (s : Nat → V) (m : Mem) : Prop :=
  ∃ i : Nat, i + k = l.length ∧ s 5 = u32V (crcF sum (l.take i)) ∧ s 1 = .lit 1 (l.map cs) ∧ s 6 = .val (.int .i64 i) ∧ m = ⟨[], []⟩
def RMoreJ (x : Nat) (l : List UInt8) (i : Nat) (k : Nat) (s : Nat → V) (m : Mem) : Prop :=
  ∃ j : Nat, j + k = 8 ∧ s 5 = u32V (stepK j x) ∧ s 1 = .lit 1 (l.map cs) ∧ s 6 = .val (.int .i64 i) ∧ s 7 = .val (.int .i64 j) ∧ m = ⟨[], []⟩
theorem c_r02_More (sum : Nat) (l : List UInt8) (hs : sum < 2 ^ 32) (hl : l.length ≤ 2 ^ 40) : Pure Try.prog n_r02_More [u32V sum, enc l] (u32V (crcN sum l)) [] := by
  refine Pure.ofC D10_ok hm F_r02_More_ok (by simp [F_r02_More]) rfl ?_
  have hx' : bitXor .u32 (sum : Int) 4294967295 = ((sum ^^^ 4294967295 : Nat) : Int) := xor32 hs (show 4294967295 < 2 ^ 32 by decide)
  have hlt := Nat.xor_lt_two_pow hs (show 4294967295 < 2 ^ 32 by decide)
  simp [F_r02_More, u32V, hx']
  refine wp_loop (RMoreI (sum ^^^ 4294967295) l) l.length (IW.of ⟨0, by omega, by simp [u32V, crcF], by simp, by simp, rfl⟩) fun k s m ⟨i, hik, h5, h1, h6, hm⟩ => ?_
  subst hm
  have hc := crcF_lt (l.take i) hlt
  simp only [u32V] at h5
  by_cases hi : i < l.length
  · have hg : l[i]? = some l[i] := List.getElem?_eq_getElem hi
    have hb := l[i].toNat_lt
    have w1 : IntKind.u32.wrap (l[i].toNat : Int) = l[i].toNat := IntWalk.u32_in _ (by omega)
    have x1 := xor32 hc (show l[i].toNat < 2 ^ 32 by omega)
    have hn1 := Nat.xor_lt_two_pow hc (show l[i].toNat < 2 ^ 32 by omega)
    simp [F_r02_More_L1, h5, h1, h6, hg, hi, w1, x1]
    refine wp_loop (RMoreJ (crcF (sum ^^^ 4294967295) (l.take i) ^^^ l[i].toNat) l i) 8 (IW.of ⟨0, by omega, by simp [u32V, stepK], by simpa using h1, by simpa using h6, by simp, rfl⟩) fun k2 s m ⟨j, hjk, h5, h1, h6, h7, hm⟩ => ?_
    subst hm
    have hcj := stepK_lt j hn1
    simp only [u32V] at h5
    by_cases hj : j < 8
    · have hj' : (j : Int) < 8 := by omega
      have hcj' : ((stepK j (crcF (sum ^^^ 4294967295) (l.take i) ^^^ l[i].toNat) : Nat) : Int) < 4294967296 := by omega
      have hmod : stepK j (crcF (sum ^^^ 4294967295) (l.take i) ^^^ l[i].toNat) % 4294967296 = stepK j (crcF (sum ^^^ 4294967295) (l.take i) ^^^ l[i].toNat) := Nat.mod_eq_of_lt hcj
      simp [F_r02_More_L0, D10, h5, h1, h6, h7, hj', hcj', hmod]
      refine ⟨k2 - 1, by omega, IW.of (show RMoreJ _ l i _ _ _ from ⟨j + 1, by omega, by simp [u32V, stepK_succ], by simpa using h1, by simpa using h6, ?_, rfl⟩)⟩
      simp; rw [IntWalk.i64_in _ (by omega)]
    · have hj' : ¬ ((j : Int) < 8) := by omega
      obtain rfl : j = 8 := by omega
      simp [F_r02_More_L0, h5, h1, h6, h7]
      refine ⟨k - 1, by omega, IW.of (show RMoreI (sum ^^^ 4294967295) l _ _ _ from ⟨i + 1, by omega, ?_, by simpa using h1, ?_, rfl⟩)⟩
      · have e1 : l.take (i + 1) = l.take i ++ [l[i]] := by rw [List.take_add_one, hg]; rfl
        have e2 : crcF (sum ^^^ 4294967295) (l.take (i + 1)) = crcB (crcF (sum ^^^ 4294967295) (l.take i)) l[i] := by rw [e1, crcF_append]; rfl
        rw [e2]
        simp [h5, u32V, crcB, step4, stepK]
      · simp; rw [IntWalk.i64_in _ (by omega)]
  · have hil : i = l.length := by omega
    have ht : l.take i = l := by rw [hil, List.take_length]
    rw [ht] at h5 hc
    have hx2 : bitXor .u32 ((crcF (sum ^^^ 4294967295) l : Nat) : Int) 4294967295 = ((crcN sum l : Nat) : Int) := xor32 hc (show 4294967295 < 2 ^ 32 by decide)
    simp [F_r02_More_L1, h5, h1, h6, hi, hx2]
def D11 : Orc := (Orc.nil.add n_r02_More (sp2 sp_More)).add n_r01_Put (sp3 sp_Put)
theorem D11_ok : OOk Try.prog D11 := by
  refine (OOk.nil.add (sp2_ok fun s l r h => ?_)).add (sp3_ok fun b v w r h => ?_)
  · simp only [sp_More] at h
    split at h <;> cases h
    exact c_r02_More s.toNat l s.toNat_lt (by assumption)
  · simp only [sp_Put] at h
    split at h <;> cases h
    exact c_r01_Put b v w (by assumption)
theorem c_r02_Seal (l : List UInt8) (hl : l.length ≤ 2 ^ 40) : Pure Try.prog n_r02_Seal [enc l] (.row 0 1 ((sealS l).map cs)) [(5, 1, (sealS l).length)] := by
  refine Pure.ofR D11_ok hm F_r02_Seal_ok (by simp [F_r02_Seal]) (by simp [V.res, V.res1]) ?_
  have h := u64_32 (crcN_lt (sum := 0) (by decide) l)
  have h4 := put4 l l
  simp [F_r02_Seal, D11, u32V, h, h4.1, h4.2, sealS]
  omega
end Go.Av

namespace Go.Av.Pl
def recOk (r : Rec) : Bool := decide (1 ≤ r.kind ∧ r.kind ≤ 5 ∧ 0 ≤ r.seq ∧ r.seq ≤ 4611686018427387903 ∧ r.body.length ≤ 4096)
def recE (r : Rec) : Int := if recOk r = true then 0 else 50
def recH (r : Rec) : List UInt8 := leB 1196184151 4 ++ (leB r.kind.toNat 2 ++ (leB r.body.length 2 ++ leB r.seq.toNat 8))
def recB (r : Rec) : List UInt8 := if recOk r = true then sealS (recH r ++ r.body) else []
def recSz (n : Int) : Int := if n < 0 ∨ 4096 < n then 0 else n + 20
/-- The first zone of a state that has room for so many bytes. -/
def dFirst (d : Dv) (q n : Int) : Int := zIdx (fun z => decide (z.st = q) && decide (n ≤ zRoom z d.size)) d.zones
def placeE (d : Dv) (n : Int) : Int := if dOk d = false ∨ n < 1 ∨ d.size < n then 1 else if 0 ≤ dFirst d 1 n then 0 else if dFirst d 0 n < 0 then 60 else 0
def placeN (d : Dv) (n : Int) : Int := if dOk d = false ∨ n < 1 ∨ d.size < n then 0 else if 0 ≤ dFirst d 1 n then dFirst d 1 n else if dFirst d 0 n < 0 then 0 else dFirst d 0 n
def placeL (d : Dv) (n : Int) : List Rec := if dOk d = false ∨ n < 1 ∨ d.size < n then [] else if 0 ≤ dFirst d 1 n then [] else if dFirst d 0 n < 0 then [] else if 3 ≤ stN 1 d.zones then [⟨3, dFirst d 1 0, []⟩] else []
end Go.Av.Pl
namespace Go.Av
open Enc (enc dec)
open Cel (cs dc)
open Go.Proofs Pl

theorem c_rSize (n : Int) : Pure Try.prog n_record_Size [enc n] (enc (recSz n)) [] := by
  refine Pure.ofC OOk.nil hm F_record_Size_ok (by simp [F_record_Size]) rfl ?_
  by_cases h1 : n < 0
  · simp [F_record_Size, recSz, h1]
  · by_cases h2 : 4096 < n
    · simp [F_record_Size, recSz, h1, h2]
    · have w1 := IntWalk.i64_in (16 + n) (by omega)
      have w2 := IntWalk.i64_in (16 + n + 4) (by omega)
      simp [F_record_Size, recSz, h1, h2, w1, w2]
      omega
theorem c_rCheck (r : Rec) : Pure Try.prog n_record_Check [enc r] (enc (recE r)) [] := by
  refine Pure.ofC OOk.nil hm F_record_Check_ok (by simp [F_record_Check]) rfl ?_
  obtain ⟨k, s, b⟩ := r
  by_cases h1 : k < 1
  · have : ¬ 1 ≤ k := by omega
    simp [F_record_Check, recE, recOk, h1, this]
  by_cases h2 : 5 < k
  · have : ¬ k ≤ 5 := by omega
    simp [F_record_Check, recE, recOk, h1, h2, this]
  by_cases h3 : s < 0
  · have : ¬ 0 ≤ s := by omega
    simp [F_record_Check, recE, recOk, h1, h2, h3, this]
  by_cases h4 : 4611686018427387903 < s
  · have : ¬ s ≤ 4611686018427387903 := by omega
    simp [F_record_Check, recE, recOk, h1, h2, h3, h4, this]
  by_cases h5 : 4096 < (b.length : Int)
  · have : ¬ b.length ≤ 4096 := by omega
    simp [F_record_Check, recE, recOk, h1, h2, h3, h4, h5, this]
  have e1 : 1 ≤ k := by omega
  have e2 : k ≤ 5 := by omega
  have e3 : 0 ≤ s := by omega
  have e4 : s ≤ 4611686018427387903 := by omega
  have e5 : b.length ≤ 4096 := by omega
  simp [F_record_Check, recE, recOk, h1, h2, h3, h4, h5, e1, e2, e3, e4, e5]
@[simp] def sp_rCheck (r : Rec) : Option (V × List Tip) := some (enc (recE r), [])
theorem sp_rCheck_ok : EOk Try.prog n_record_Check (sp1 sp_rCheck) := sp1_ok fun a r h => by cases h; exact c_rCheck a
theorem sp_zSeal_ok : EOk Try.prog n_crc_Seal (sp1 sp_Seal) := sp1_ok fun l r h => by
  simp only [sp_Seal] at h
  split at h <;> cases h
  exact c_crc_Seal l (by assumption)
def Dl1 : Orc := ((Orc.nil.add n_record_Check (sp1 sp_rCheck)).add n_le_Pack (sp2 sp_pack)).add n_crc_Seal (sp1 sp_Seal)
theorem Dl1_ok : OOk Try.prog Dl1 := ((OOk.nil.add sp_rCheck_ok).add sp_pack_ok).add sp_zSeal_ok
theorem f_whhq : formOk ⟨#[119, 104, 104, 113]⟩ = true := by decide
theorem recH_length (r : Rec) : (recH r).length = 16 := by simp [recH, leB_length]
theorem recOk_iff {r : Rec} : recOk r = true ↔ (1 ≤ r.kind ∧ r.kind ≤ 5 ∧ 0 ≤ r.seq ∧ r.seq ≤ 4611686018427387903 ∧ r.body.length ≤ 4096) := by simp [recOk]
theorem pack_rec {r : Rec} (h : recOk r = true) : packS [119, 104, 104, 113] [1196184151, r.kind.toNat, r.body.length, r.seq.toNat] = some (recH r) := by
  have h := recOk_iff.1 h
  have m1 : mayB 1196184151 4 = true := by decide
  have m2 : mayB r.kind.toNat 2 = true := by simp [mayB]; omega
  have m3 : mayB r.body.length 2 = true := by simp [mayB]; omega
  have m4 : mayB r.seq.toNat 8 = true := by simp [mayB]
  simp [packS, sizeL, m1, m2, m3, m4, recH]
theorem sealS_length (l : List UInt8) : (sealS l).length = l.length + 4 := by simp [sealS, leB_length]
theorem recB_length {r : Rec} (h : recOk r = true) : (recB r).length = r.body.length + 20 := by
  rw [recB, if_pos h, sealS_length, List.length_append, recH_length]; omega
theorem c_rWrite (r : Rec) : Pure Try.prog n_record_Write [enc r] (.tuple [enc (recB r), enc (recE r)]) [] := by
  refine Pure.ofC Dl1_ok hm F_record_Write_ok (by simp [F_record_Write]) (by simp [V.res, V.res1]) ?_
  by_cases h : recOk r = true
  · have h2 := recOk_iff.1 h
    have hp := pack_rec h
    have w1 := IntWalk.u64_in r.kind (by omega)
    have w2 := IntWalk.u64_in (r.body.length : Int) (by omega)
    have w3 := IntWalk.u64_in r.seq (by omega)
    have k1 : 0 ≤ r.kind := by omega
    have k2 := h2.2.2.1
    have hl := recH_length r
    have hb := h2.2.2.2.2
    obtain ⟨k, s, b⟩ := r
    simp at w1 w2 w3 k1 k2 hl hb hp
    have g1 : (recH ⟨k, s, b⟩).length + b.length ≤ 2 ^ 40 := by omega
    simp [F_record_Write, Dl1, recE, recB, h, w1, w2, w3, k1, k2, f_whhq, packB, packE, hp, hl, decX_cs, decX_append, clean_cs]
    omega
  · have h' : recOk r = false := by simpa using h
    obtain ⟨k, s, b⟩ := r
    simp [F_record_Write, Dl1, recE, recB, h', decX_cs]
@[simp] def sp_dCheck (d : Dv) : Option (V × List Tip) := if d.zones.length ≤ 2 ^ 40 then some (enc (dOk d), []) else none
theorem sp_dCheck_ok : EOk Try.prog n_dev_Check (sp1 sp_dCheck) := sp1_ok fun d r h => by
  simp only [sp_dCheck] at h
  split at h <;> cases h
  exact c_dCheck d (by assumption)
@[simp] def sp_dOpen (d : Dv) : Option (V × List Tip) := if d.zones.length ≤ 2 ^ 40 then some (enc (stN 1 d.zones : Int), []) else none
theorem sp_dOpen_ok : EOk Try.prog n_dev_Open (sp1 sp_dOpen) := sp1_ok fun d r h => by
  simp only [sp_dOpen] at h
  split at h <;> cases h
  exact c_dOpen d (by assumption)
@[simp] def sp_lFirst (d : Dv) (a b : Int) : Option (V × List Tip) := if d.zones.length ≤ 2 ^ 40 then some (enc (dFirst d a b), []) else none
theorem sp_lFirst_ok : EOk Try.prog n_log_first (sp3 sp_lFirst) := sp3_ok fun d a b r h => by
  simp only [sp_lFirst] at h
  split at h <;> cases h
  exact c_logFirst d a b (by assumption)
def Dl2 : Orc := ((Orc.nil.add n_dev_Check (sp1 sp_dCheck)).add n_dev_Open (sp1 sp_dOpen)).add n_log_first (sp3 sp_lFirst)
theorem Dl2_ok : OOk Try.prog Dl2 := ((OOk.nil.add sp_dCheck_ok).add sp_dOpen_ok).add sp_lFirst_ok
theorem c_lPlace (d : Dv) (n : Int) (hl : d.zones.length ≤ 2 ^ 40) : Pure Try.prog n_log_Place [enc d, enc n] (.tuple [enc (placeN d n), .row 0 3 ((placeL d n).map cs), enc (placeE d n)]) [(89, 3, (placeL d n).length)] := by
  refine Pure.ofR Dl2_ok hm F_log_Place_ok (by simp [F_log_Place]) (by simp [V.res, V.res1]) ?_
  by_cases h1 : dOk d = true
  · by_cases h2 : n < 1
    · simp [F_log_Place, Dl2, decX_map, hl, h1, h2, placeN, placeL, placeE]
    by_cases h3 : d.size < n
    · simp [F_log_Place, Dl2, decX_map, hl, h1, h2, h3, placeN, placeL, placeE]
    by_cases h4 : 0 ≤ dFirst d 1 n
    · simp [F_log_Place, Dl2, decX_map, hl, h1, h2, h3, h4, placeN, placeL, placeE]
    by_cases h5 : dFirst d 0 n < 0
    · simp [F_log_Place, Dl2, decX_map, hl, h1, h2, h3, h4, h5, placeN, placeL, placeE]
    by_cases h6 : 3 ≤ (stN 1 d.zones : Int)
    · have h6' : 3 ≤ stN 1 d.zones := by omega
      simp [F_log_Place, Dl2, decX_map, hl, h1, h2, h3, h4, h5, h6, h6', placeN, placeL, placeE]
    · have h6' : ¬ 3 ≤ stN 1 d.zones := by omega
      simp [F_log_Place, Dl2, decX_map, hl, h1, h2, h3, h4, h5, h6, h6', placeN, placeL, placeE]
  · have h1' : dOk d = false := by simpa using h1
    simp [F_log_Place, Dl2, decX_map, hl, h1', placeN, placeL, placeE]
end Go.Av

namespace Go.Av.Pl
structure Cx where
  re : Nat
  im : Nat
deriving DecidableEq
/-- What a command makes of its zone, if it is done. -/
def dDoZ (d : Dv) (c : Rec) : Option Zo := (d.zones[c.seq.toNat]?).bind fun z => if 0 ≤ c.seq ∧ 1 ≤ c.kind ∧ c.kind ≤ 4 ∧ (dCmd c.kind d z c.body).2 = 0 then some (dCmd c.kind d z c.body).1 else none
def dDoR (d : Dv) (c : Rec) : Option Dv := if dOk d = true ∧ d.down = false ∧ ¬ d.left = 0 ∧ (-(2 ^ 62) ≤ d.left ∧ d.left ≤ 2 ^ 62) ∧ (0 ≤ d.done ∧ d.done ≤ 2 ^ 62) ∧ c.body.length ≤ 2 ^ 30 then (dDoZ d c).map fun z => dDid d (d.zones.set c.seq.toNat z) else none
/-- The commands that append a record. -/
def cmdL (d : Dv) (r : Rec) : List Rec := placeL d (recB r).length ++ [⟨1, placeN d (recB r).length, recB r⟩]
def oneD (d : Dv) (r : Rec) : Option Dv := (cmdL d r).foldlM dDoR d
def oneC (d : Dv) (r : Rec) : Cx := ⟨FloatKind.f64.nearest (placeN d (recB r).length), FloatKind.f64.nearest ((d.zones.getD (placeN d (recB r).length).toNat ⟨0, 0, [], 0⟩).data.length : Int)⟩
def one1 (d : Dv) (r : Rec) : Option (Dv × Cx × Int) :=
  if d.zones.length ≤ 2 ^ 40 then (if recOk r = false then some (d, ⟨0, 0⟩, 50) else if placeE d (recB r).length ≠ 0 then some (d, ⟨0, 0⟩, placeE d (recB r).length) else (oneD d r).map fun d' => (d', oneC d r, 0)) else none
end Go.Av.Pl
namespace Go.Av
open Enc (enc dec)
open Cel (cs dc)
open Go.Proofs Pl

instance : Enc Cx where
  enc x := .val (.complex .f64 x.re x.im)
  dec v := match v with
    | .val (.complex .f64 a b) => some ⟨a, b⟩
    | _ => none
  cl x := rfl
  ok v x h M w us hr := by
    split at h
    · cases h; exact hr
    · cases h
  de x := rfl
instance : Cel Cx := ⟨1, fun a => [enc a], dc1, fun _ => rfl, dc1_ok, fun a => by simp [Enc.cl], fun a => by simp [dc1, Enc.de]⟩
@[simp] theorem dv_eta (d : Dv) : (⟨d.size, d.zones, d.left, d.down, d.done⟩ : Dv) = d := rfl
@[simp] theorem rec_eta (d : Rec) : (⟨d.kind, d.seq, d.body⟩ : Rec) = d := rfl
@[simp] theorem zo_eta (d : Zo) : (⟨d.st, d.rs, d.data, d.la⟩ : Zo) = d := rfl
@[simp] theorem enc_cx (n : Cx) : (enc n : V) = .val (.complex .f64 n.re n.im) := rfl
@[simp] theorem dec_cx (a b : Nat) : (dec (.val (.complex .f64 a b)) : Option Cx) = some ⟨a, b⟩ := rfl
@[simp] theorem cs_cx (n : Cx) : cs n = [.val (.complex .f64 n.re n.im)] := rfl
@[simp] theorem dc_cx (l : List V) : (dc l : Option Cx) = dc1 l := rfl
@[simp] theorem sz_cx : Cel.sz Cx = 1 := rfl
@[simp] def sp_dDo (d : Dv) (c : Rec) : Option (V × List Tip) := (dDoR d c).map fun d' => (.tuple [enc d', .val (.int .i64 0)], [])
theorem sp_dDo_ok : EOk Try.prog n_dev_Do (sp2 sp_dDo) := sp2_ok fun d c r h => by
  simp only [sp_dDo, Option.map_eq_some_iff] at h
  obtain ⟨d', hd, rfl⟩ := h
  unfold dDoR at hd
  split at hd
  · rename_i hc
    obtain ⟨k1, k2, k3, k4, k5, k6⟩ := hc
    simp only [Option.map_eq_some_iff] at hd
    obtain ⟨z, hz, rfl⟩ := hd
    unfold dDoZ at hz
    simp only [Option.bind_eq_some_iff] at hz
    obtain ⟨z0, hz0, hz⟩ := hz
    split at hz
    · rename_i hq
      cases hz
      obtain ⟨q1, q2, q3, q4⟩ := hq
      obtain ⟨k, n, b⟩ := c
      simp only at q1 q2 q3 q4 hz0 k6 ⊢
      obtain ⟨hi, he⟩ := List.getElem?_eq_some_iff.1 hz0
      have en : ((n.toNat : Nat) : Int) = n := Int.toNat_of_nonneg q1
      have hcm : CmdOk k d n.toNat b hi (dCmd k d z0 b).1 := ⟨k6, by rw [he]; exact Prod.ext rfl q4, k1, k2, k3, k4, k5⟩
      have hk : k = 1 ∨ k = 2 ∨ k = 3 ∨ k = 4 := by omega
      have key := fun fid h1 h2 h3 h4 => c_dDo k fid h1 h2 h3 h4 d n.toNat b hi _ hcm
      rw [en] at key
      rcases hk with rfl | rfl | rfl | rfl
      · exact key n_dev_command_append (by decide) (by simp [doesK]) sp_capp_ok (by decide)
      · exact key n_dev_command_reset (by decide) (by simp [doesK]) sp_cres_ok (by decide)
      · exact key n_dev_command_finish (by decide) (by simp [doesK]) sp_cfin_ok (by decide)
      · exact key n_dev_command_close (by decide) (by simp [doesK]) sp_cclo_ok (by decide)
    · cases hz
  · cases hd
@[simp] def sp_rWrite (r : Rec) : Option (V × List Tip) := some (.tuple [enc (recB r), enc (recE r)], [])
theorem sp_rWrite_ok : EOk Try.prog n_record_Write (sp1 sp_rWrite) := sp1_ok fun a r h => by cases h; exact c_rWrite a
@[simp] def sp_lPlace (d : Dv) (n : Int) : Option (V × List Tip) := if d.zones.length ≤ 2 ^ 40 then some (.tuple [enc (placeN d n), .row 0 3 ((placeL d n).map cs), enc (placeE d n)], [(89, 3, (placeL d n).length)]) else none
theorem sp_lPlace_ok : EOk Try.prog n_log_Place (sp2 sp_lPlace) := sp2_ok fun a n r h => by
  simp only [sp_lPlace] at h
  split at h <;> cases h
  exact c_lPlace a n (by assumption)
def Dm1 : Orc := ((Orc.nil.add n_dev_Do (sp2 sp_dDo)).add n_record_Write (sp1 sp_rWrite)).add n_log_Place (sp2 sp_lPlace)
theorem Dm1_ok : OOk Try.prog Dm1 := ((OOk.nil.add sp_dDo_ok).add sp_rWrite_ok).add sp_lPlace_ok
theorem run_step {d d' : Dv} {l : List Rec} (h : l.foldlM dDoR d = some d') (i : Nat) (hi : i < l.length) : ∃ a b, (l.take i).foldlM dDoR d = some a ∧ dDoR a l[i] = some b ∧ (l.take (i + 1)).foldlM dDoR d = some b := by
  have e1 : l = l.take i ++ (l[i] :: l.drop (i + 1)) := by simp
  rw [e1, List.foldlM_append] at h
  simp only [Option.bind_eq_bind, Option.bind_eq_some_iff, List.foldlM_cons] at h
  obtain ⟨a, ha, b, hb, _⟩ := h
  refine ⟨a, b, ha, hb, ?_⟩
  rw [List.take_add_one, List.getElem?_eq_getElem hi, List.foldlM_append, ha]
  simp [hb]
def OneI (d : Dv) (l : List Rec) (c : Cx) (k : Nat) (s : Nat → V) (m : Mem) : Prop :=
  ∃ (i : Nat) (di : Dv) (t : Nat) (b1 : List V) (r : List (List V)), i + k = l.length ∧ (l.take i).foldlM dDoR d = some di ∧ s 51 = .row t 3 (l.map cs) ∧ s 52 = .val (.int .i64 l.length) ∧ s 53 = .val (.int .i64 i) ∧ s 2 = .ptr 0 0 ∧ s 4 = .ptr 2 0 ∧ s 8 = .val (.int .i64 0) ∧ s 11 = enc c ∧
    m.boxes = cs di :: b1 :: zeroDv :: r
theorem placeL_len (d : Dv) (n : Int) : (placeL d n).length ≤ 1 := by
  unfold placeL
  repeat' split
  all_goals simp
theorem zIdx_lt {pr : Zo → Bool} {l : List Zo} (h : 0 ≤ zIdx pr l) : ∃ (i : Nat) (hi : i < l.length), zIdx pr l = i ∧ pr l[i] = true := by
  unfold zIdx at h ⊢
  split at h
  · rename_i i e
    obtain ⟨hi, hp, _⟩ := List.findIdx?_eq_some_iff_getElem.1 e
    exact ⟨i, hi, rfl, hp⟩
  · omega
theorem place_lt {d : Dv} {n : Int} (h : placeE d n = 0) : ∃ (i : Nat), i < d.zones.length ∧ placeN d n = i := by
  unfold placeE at h
  unfold placeN
  split at h
  · cases h
  · rename_i h1
    rw [if_neg h1]
    split at h
    · rename_i h2
      rw [if_pos h2]
      obtain ⟨i, hi, e, _⟩ := zIdx_lt h2
      exact ⟨i, hi, e⟩
    · rename_i h2
      rw [if_neg h2]
      split at h
      · cases h
      · rename_i h3
        rw [if_neg h3]
        obtain ⟨i, hi, e, _⟩ := zIdx_lt (show 0 ≤ dFirst d 0 n by omega)
        exact ⟨i, hi, e⟩
theorem c_lOne (d : Dv) (r : Rec) (R : Dv × Cx × Int) (h : one1 d r = some R) : Pure Try.prog n_log_one [enc d, enc r] (.tuple [enc R.1, enc R.2.1, enc R.2.2]) [] := by
  refine Pure.ofC Dm1_ok hm F_log_one_ok (by simp [F_log_one]) (by simp [V.res, V.res1]) ?_
  unfold one1 at h
  split at h
  case isFalse => cases h
  rename_i hl
  split at h
  · rename_i h1
    cases h
    have e1 : recE r = 50 := by simp [recE, h1]
    simp [F_log_one, Dm1, e1, decX_cs]
  rename_i h1
  have h1 : recOk r = true := by simpa using h1
  have e1 : recE r = 0 := by simp [recE, h1]
  split at h
  · rename_i h2
    cases h
    simp [F_log_one, Dm1, e1, decX_cs, decX_map, hl, h2]
  rename_i h2
  have h2 : placeE d (recB r).length = 0 := by simpa using h2
  simp only [Option.map_eq_some_iff] at h
  obtain ⟨d', hd, rfl⟩ := h
  obtain ⟨i, hi, hn⟩ := place_lt h2
  have hg : d.zones[i]? = some d.zones[i] := List.getElem?_eq_getElem hi
  have hll := placeL_len d (recB r).length
  have hc : oneC d r = ⟨FloatKind.f64.nearest (i : Int), FloatKind.f64.nearest (d.zones[i].data.length : Int)⟩ := by simp [oneC, hn, List.getD_eq_getElem?_getD, hg]
  have hm : (cmdL d r).map cs = (placeL d (recB r).length).map cs ++ [[V.val (.int .i64 1), .val (.int .i64 i), .lit 1 ((recB r).map cs)]] := by simp [cmdL, hn]
  have hlen : (cmdL d r).length = (placeL d (recB r).length).length + 1 := by simp [cmdL]
  simp [F_log_one, Dm1, e1, decX_cs, decX_map, hl, h2, hn, hg]
  refine ⟨by omega, wp_loop (OneI d (cmdL d r) (oneC d r)) (cmdL d r).length (IW.of ⟨0, d, 0, cs r, [], by omega, rfl, by rw [hm]; simp, by rw [hlen]; simp, by simp, by simp, by simp, by simp, by rw [hc]; simp, by simp [zeroDv]⟩) fun k s m ⟨j, di, t, b1, rr, hjk, hdi, s51, s52, s53, s2, s4, s8, s11, hb⟩ => ?_⟩
  obtain ⟨bx, tips⟩ := m
  simp only at hb
  subst hb
  by_cases hj : j < (cmdL d r).length
  · have hjg : (cmdL d r)[j]? = some (cmdL d r)[j] := List.getElem?_eq_getElem hj
    have w1 := IntWalk.i64_in ((j : Int) + 1) (by omega)
    obtain ⟨a, b, ha, hb, hab⟩ := run_step hd j hj
    rw [hdi] at ha
    cases ha
    simp [F_log_one_L0, Dm1, zeroDv, s51, s52, s53, s2, s4, s8, hj, hjg, w1, decX_cs, decX_map, hb]
    refine ⟨k - 1, by omega, IW.of ⟨j + 1, b, t, b1, _, by omega, hab, by simpa using s51, by simpa using s52, by simp, by simpa using s2, by simpa using s4, by simp, by simpa using s11, by rfl⟩⟩
  · have e : (cmdL d r).take j = cmdL d r := List.take_of_length_le (by omega)
    rw [e] at hdi
    have : di = d' := Option.some.inj (hdi.symm.trans hd)
    subst this
    simp [F_log_one_L0, zeroDv, s51, s52, s53, s2, s4, s8, s11, hj, clean_cs]
end Go.Av

namespace Go.Av
open Enc (enc dec)
open Cel (cs dc)
open Go.RowKit

section
variable {B : Nat} {I0 : Nat → Nat → Prop} {w0 w : World} {M : Mp} {m : Mem}
/-- Of a box less is said. -/
theorem Good.boxWk (h2 : Good B I0 w0 M m w) {b : Nat} {cs cs' : List V} (hb : m.boxes[b]? = some cs) (hno : isObj cs = false) (hle : cs'.length = cs.length) (hrep : ∀ us, RepL M w cs us → RepL M w cs' us) :
    Good B I0 w0 M { m with boxes := m.boxes.set b cs' } w := by
  have hblt := lt_of_some hb
  exact {
    below := h2.below
    sizeB := h2.sizeB
    i0 := h2.i0
    i1 := h2.i1
    ilt := h2.ilt
    lβ := by have := h2.lβ; simpa using this
    nd := h2.nd
    iβ := fun b1 o1 hI j hb1 => by
      have h5 := h2.iβ b1 o1 hI j hb1
      have h5' : m.boxes[j]? = some deadC := h5
      by_cases hij : b = j
      · subst hij
        rw [hb] at h5'
        cases h5'
        cases hno
      · exact (List.getElem?_set_ne hij).trans h5'
    box := fun i g ds k1 k2 => by
      by_cases hij : b = i
      · subst hij
        simp only [List.getElem?_set_self hblt] at k2
        obtain rfl := Option.some.inj k2
        obtain ⟨hB, ob, hh, hr⟩ := h2.box b g cs k1 hb
        have hκ := hr.κ hno
        obtain ⟨vs, T, rfl, hle2, hl, ho⟩ := hr.cells hno
        exact ⟨hB, _, hh, .inl ⟨hκ, vs, T, rfl, by rw [hle]; exact hle2, by rw [hle]; exact hrep _ hl, by rw [hle]; exact ho⟩⟩
      · simp only [List.getElem?_set_ne hij] at k2
        exact h2.box i g ds k1 k2
    κlt := h2.κlt
    lγ := h2.lγ
    row := h2.row
    gen := h2.gen
    sep := h2.sep }
end
/-- In a state as well. -/
theorem Wkn.box {s : Nat → V} {m : Mem} {b : Nat} {cs cs' : List V} (hb : m.boxes[b]? = some cs) (hno : isObj cs = false) (hle : cs'.length = cs.length) (hrep : ∀ (M : Mp) (w : World) us, RepL M w cs us → RepL M w cs' us) :
    Wkn s m s { m with boxes := m.boxes.set b cs' } := by
  intro B I0 w0 M0 wst n a w ⟨M, h1, h2, h3, h4⟩
  exact ⟨M, h1, h2.boxWk hb hno hle (hrep M w), h3, h4⟩
/-- One cell: it is one of some. -/
theorem alts_cell {v : V} {l : List V} (hv : v ∈ l) (hc : cleanL l = true) (M : Mp) (w : World) (us : List Value) (h : RepL M w [v] us) : RepL M w [.alts l] us := by
  obtain ⟨x, r, rfl, h1, h2⟩ := h
  exact ⟨x, r, rfl, ⟨hc, repA_iff.2 ⟨v, hv, h1⟩⟩, h2⟩
theorem Loc.post {P : Program} {f : FuncId} {args : List V} {m m' : Mem} {r : V} (h : Loc P f args m r m') {b : Nat} {cs cs' : List V} (hb : m'.boxes[b]? = some cs) (hno : isObj cs = false) (hle : cs'.length = cs.length) (hrep : ∀ (M : Mp) (w : World) us, RepL M w cs us → RepL M w cs' us) :
    Loc P f args m r { m' with boxes := m'.boxes.set b cs' } :=
  ⟨h.1, fun B I0 w0 M w vals hg hr => (h.2 B I0 w0 M w vals hg hr).mono fun e w' ⟨x, M', he, hE, hg', hx⟩ => ⟨x, M', he, hE, hg'.boxWk hb hno hle (hrep M' w'), hx⟩⟩
section
variable {P : Program} {D : Orc} {own : Nat → Bool} {f : FuncId} {F : F} {args : List V}
theorem Pure.ofAv (hm : P.follows .mixedOrders = true) (hF : compF P own f = some F) (hn : args.length ≤ F.n) {l : List V} (hc : cleanL l = true)
    (h : vwp P noY F.c (argS args) ⟨[], []⟩ (Fin F.rs fun v _ => ∃ r ∈ l, keepN [] v r)) : Pure P f args (.alts l) [] := by
  have hcl : callable P f = true := by
    unfold compF at hF
    split at hF
    · assumption
    · cases hF
  refine ⟨hcl, clean_res (r := .alts l) hc, fun I w vals hI hr => ?_⟩
  refine (calls_sound hm hF hn (Good.start hI) hr YOk.no h).2.mono fun e w' ⟨x, M', v, m', he, hE, hg, hx, r, hrl, hk⟩ => ?_
  exact ⟨x, M'.sel [], he, hg.sel (sel := []) (by simp) rfl, hc, repA_iff.2 ⟨r, hrl, keepN_rep hk hx⟩⟩
theorem Pure.ofA (hD : OOk P D) {al : FuncId → Bool} (hm : P.follows .mixedOrders = true) (hF : compF P own f = some F) (hn : args.length ≤ F.n) {l : List V} (hc : cleanL l = true)
    (h : wpA al P noY D F.c (argS args) ⟨[], []⟩ (Fin F.rs fun v _ => ∃ r ∈ l, keepN [] v r)) : Pure P f args (.alts l) [] :=
  Pure.ofAv hm hF hn hc (wpA_sound hD _ h)
/-- An answer of one kind, of answers that are one of some. -/
theorem Pure.ofA1 (hD : OOk P D) {al : FuncId → Bool} (hm : P.follows .mixedOrders = true) (hF : compF P own f = some F) (hn : args.length ≤ F.n) {r : V} (hres : r.res = true)
    (h : wpA al P noY D F.c (argS args) ⟨[], []⟩ (Fin F.rs fun v _ => keepN [] v r)) : Pure P f args r [] :=
  Pure.ofN hm hF hn hres (vwp_mono _ _ _ (fun e s m hq => by
    cases e with
    | normal => obtain ⟨v, h1, h2⟩ := hq; exact ⟨v, h1, OutP.clean h2⟩
    | ret => obtain ⟨v, h1, h2⟩ := hq; exact ⟨v, h1, OutP.clean h2⟩
    | _ => exact hq) (wpA_sound hD _ h))
/-- Less is said of an answer. -/
theorem Pure.wkR {r r' : V} (h : Pure P f args r []) (hc : r'.isClean = true) (hr : ∀ (M : Mp) (w : World) (x : Value), Rep M w r x → Rep M w r' x) : Pure P f args r' [] :=
  ⟨h.1, clean_res hc, fun I w vals hI hrl => (h.2.2 I w vals hI hrl).mono fun e w' ⟨x, M', he, hg, hx⟩ => ⟨x, M', he, hg, hr M' w' x hx⟩⟩
/-- The first region, and less said behind it. -/
theorem vwp_opsW {Y : YRel} (hD : OOk P D) {L : List O} {b : C} {s : Nat → V} {m : Mem} {Q : Exit → (Nat → V) → Mem → Prop} (h : wp P Y D (.ops L) s m fun _ s m => IW (fun s m => vwp P Y b s m Q) s m) : vwp P Y (.seq (.ops L) b) s m Q :=
  opsWpS_of (fun _ _ h => h) L s m (runO_sound hD L s m h)
end
/-- A pair of which one part is one of some. -/
theorem alts_tuple2 {a : V} {l : List V} (ha : a.isClean = true) (M : Mp) (w : World) (x : Value) (h : Rep M w (.tuple [a, .alts l]) x) : Rep M w (.alts (l.map fun u => .tuple [a, u])) x := by
  obtain ⟨vs, rfl, y, r, e1, h1, z, r2, e2, ⟨hc, h2⟩, h3⟩ := h
  obtain ⟨u, hu, h2⟩ := repA_iff.1 h2
  refine ⟨?_, repA_iff.2 ⟨_, List.mem_map.2 ⟨u, hu, rfl⟩, vs, rfl, y, r, e1, h1, z, r2, e2, h2, h3⟩⟩
  have key : ∀ l : List V, cleanL l = true → cleanL (l.map fun u => V.tuple [a, u]) = true := by
    intro l
    induction l with
    | nil => intro _; rfl
    | cons v l ih =>
      intro hc
      simp only [cleanL, Bool.and_eq_true] at hc
      simp only [List.map_cons, cleanL, V.isClean, ha, hc.1, ih hc.2, Bool.and_self]
  exact key l hc
end Go.Av

namespace Go.Av.Pl
/-- A device that counts a command. -/
def dNext (d : Dv) : Dv := ⟨d.size, d.zones, if 0 < d.left then IntKind.i64.wrap (d.left - 1) else d.left, d.down, IntKind.i64.wrap (d.done + 1)⟩
/-- A device behind a command, and its error. -/
def doA (d : Dv) (c : Rec) : Dv × Int :=
  if d.down = true ∨ d.left = 0 then ({ d with down := true }, 40) else match d.zones[c.seq.toNat]? with
    | some z => if (dCmd c.kind d z c.body).2 = 0 then ({ dNext d with zones := d.zones.set c.seq.toNat (dCmd c.kind d z c.body).1 }, 0) else (dNext d, (dCmd c.kind d z c.body).2)
    | none => (dNext d, 1)
end Go.Av.Pl
namespace Go.Av
open Enc (enc dec)
open Cel (cs dc)
open Go.Proofs Pl

def eA (e : Int) : List V := [.val (.int .i64 0), .val (.int .i64 e)]
theorem c_dDoneE (k : Int) (fid : FuncId) (hk5 : ¬ k = 5) (hk : mpAt doesK k = some (.func fid [])) (he : EOkL Try.prog fid (sp_cmd k)) (hf : ¬ 160 = fid) (m : Mem) (p zb : Nat) (d : Dv) (h : DB m p zb d) (hs : DSm d) (i : Nat) (b : List UInt8) (hi : i < d.zones.length) (hb : b.length ≤ 2 ^ 30) (z' : Zo) (e : Int) (he0 : ¬ e = 0) (hc : dCmd k d d.zones[i] b = (z', e)) :
    Loc Try.prog n_dev_done [.ptr p 0, enc (⟨k, i, b⟩ : Rec)] m (.val (.int .i64 e)) m := by
  refine Loc.ofC ((OOk.nil.addL sp_does_ok).addL he) hm F_dev_done_ok (by simp [F_dev_done]) (.inl rfl) m.boxes.length m.tips.length (Nat.le_refl _) (Nat.le_refl _) fun hu => ?_
  have hzl := lt_of_some h.hz
  have f1 : ∀ (b : List (List V)), (m.boxes ++ b)[p]? = m.boxes[p]? := fun b => List.getElem?_append_left (lt_of_some h.hp)
  have f2 : ∀ (b : List (List V)), (m.boxes ++ b)[zb]? = m.boxes[zb]? := fun b => List.getElem?_append_left (lt_of_some h.hz)
  have g0 := zC_drop d.zones i 0 hi
  have g2 : i * 4 + 4 ≤ (zC d.zones).length := by rw [zC_length]; omega
  have hp := h.hp
  have hz := h.hz
  have hiI : (i : Int) < d.zones.length := by omega
  have hzd := hs.z _ (List.getElem_mem hi)
  have hB : ∀ (bs : List (List V)) (t : List Tip) (m1 : Mem), (⟨m.boxes ++ bs, t⟩ : Mem).le m1 → sp_cmd k [.agg [.val (.int .i64 k), .val (.int .i64 i), .lit 1 (b.map cs)], .ptr p 0, .agg [.val (.int .i64 d.zones[i].st), .val (.int .i64 d.zones[i].rs), .lit 1 (d.zones[i].data.map cs), .val (.int .i64 d.zones[i].la)]] m1 = some (.tuple [enc z', .val (.int .i64 e)], m1) := fun bs t m1 hle => by
    rw [sp_cmd_at (dvAt_le hle (h.app bs t).at) hs.n hzd hb, hc]
    rfl
  have hB0 := fun bs t => hB bs t ⟨m.boxes ++ bs, t⟩ (Mem.le_refl _)
  simp at g0 hB hB0
  clear hzl
  simp [F_dev_done, f1, f2, hp, hz, box_new, box_new2, box_set, sp_does, hf, hk, hk5, hi, hiI, zC_obj, g0, g2, hB0, hu, he0]
  exact ⟨⟨fun h => by omega, fun m1 hle => hB _ _ m1 hle⟩, fun h => by omega⟩
/-- The memory of dev.Do's closure. -/
def doM (b0 : List V) (c : Rec) (x : V) (d1 : Dv) : Mem := ⟨[b0, cs c, zeroDv, [x], dvB d1 6, zeroDv, zC d1.zones], []⟩
theorem doM_rd (b0 : List V) (c : Rec) (x : V) (d1 : Dv) : rdD (doM b0 c x d1) (.agg [.val (.int .i64 d1.size), .ref (.sli 0 4 d1.zones.length) 6, .val (.int .i64 d1.left), .val (.bool d1.down), .val (.int .i64 d1.done)]) = some d1 := by
  have hDB : DB (doM b0 c x d1) 4 6 d1 := ⟨rfl, rfl⟩
  have := hDB.at
  unfold dvAt at this
  rwa [hDB.hp] at this
theorem c_do1D (b0 : List V) (d : Dv) (c : Rec) (L : List V) (hs : DSm d) (hok : dOk d = true) (hdn : d.down = true ∨ d.left = 0) :
    Loc Try.prog n_dev_Do_1 [.ptr 4 0, .ptr 3 0, .ptr 1 0] (doM b0 c (.alts L) d) (.tuple []) (doM b0 c (.val (.int .i64 40)) { d with down := true }) := by
  refine Loc.ofX (OOk.nil.addL sp_checkL_ok) hm F_dev_Do_1_ok (by simp [F_dev_Do_1]) ?_
  have g1 := doM_rd b0 c (.alts L) d
  have hsn := hs.n
  simp only [doM, dvB] at g1 ⊢
  by_cases hd : d.down = true
  · simp only [hd] at g1 ⊢
    simp at g1
    simp [F_dev_Do_1, g1, hsn, sp_rd, hok]
  · have hd' : d.down = false := by simpa using hd
    have hl : d.left = 0 := hdn.resolve_left hd
    simp only [hd', hl] at g1 ⊢
    simp at g1
    simp [F_dev_Do_1, g1, hsn, sp_rd, hok]
theorem c_do1N (b0 : List V) (d : Dv) (c : Rec) (L : List V) (zs' : List Zo) (e : Int) (hs : DSm d) (hok : dOk d = true) (hd : d.down = false) (hl : ¬ d.left = 0) (hln : zs'.length = d.zones.length)
    (hD : Loc Try.prog n_dev_done [.ptr 4 0, enc c] (doM b0 c (.alts L) (dNext d)) (.val (.int .i64 e)) (doM b0 c (.alts L) { dNext d with zones := zs' })) :
    Loc Try.prog n_dev_Do_1 [.ptr 4 0, .ptr 3 0, .ptr 1 0] (doM b0 c (.alts L) d) (.tuple []) (doM b0 c (.val (.int .i64 e)) { dNext d with zones := zs' }) := by
  obtain ⟨sp, hsp, e1⟩ := oneL hD
  refine Loc.ofX ((OOk.nil.addL sp_checkL_ok).addL hsp) hm F_dev_Do_1_ok (by simp [F_dev_Do_1]) ?_
  have g1 := doM_rd b0 c (.alts L) d
  have hsn := hs.n
  simp only [doM, dvB, dNext, hd, hln] at g1 e1 ⊢
  by_cases hlp : 0 < d.left
  · simp [hlp] at e1 g1
    simp [F_dev_Do_1, g1, hsn, sp_rd, hok, hl, hlp, e1]
  · simp [hlp] at e1 g1
    simp [F_dev_Do_1, g1, hsn, sp_rd, hok, hl, hlp, e1]
theorem c_doE (d d' : Dv) (c : Rec) (e : Int) (hok : dOk d = true) (hln : d'.zones.length = d.zones.length)
    (h : Loc Try.prog n_dev_Do_1 [.ptr 4 0, .ptr 3 0, .ptr 1 0] (doM (cs d) c (.alts (eA e)) d) (.tuple []) (doM (cs d) c (.val (.int .i64 e)) d')) :
    Pure Try.prog n_dev_Do [enc d, enc c] (.alts ((eA e).map fun u => .tuple [enc d', u])) [] := by
  obtain ⟨hs, hne⟩ := dOk_sm hok
  have h1 := h.post (b := 3) (cs' := [.alts (eA e)]) rfl rfl rfl (alts_cell (by simp [eA]) rfl)
  obtain ⟨sp1, k1, e1⟩ := oneL h1
  obtain ⟨sp, hsp, e2⟩ := oneL (c_own n_dev_Do_1 [.ptr 3 0, .ptr 1 0] sp1 k1 (by decide) (by decide) ⟨[cs d, cs c, zeroDv, [.alts (eA e)]], []⟩ d d' hs hne hln e1)
  refine Pure.wkR (r := .tuple [enc d', .alts (eA e)]) ?_ (by simp [eA, clean_cs]) (alts_tuple2 (Enc.cl d'))
  refine Pure.ofN hm F_dev_Do_ok (by simp [F_dev_Do]) (by simp [V.res, V.res1, eA, clean_cs]) ?_
  refine vwp_opsW (OOk.nil.addL hsp) (wp_mono (Q := fun _ s m => s 2 = .ptr 0 0 ∧ s 3 = .ptr 1 0 ∧ s 4 = .ptr 2 0 ∧ s 5 = .ptr 3 0 ∧ m = ⟨[cs d, cs c, zeroDv, [.val (.int .i64 0)]], []⟩) _ (fun _ s m ⟨s2, s3, s4, s5, hm⟩ => ?_) ?_)
  · subst hm
    refine ⟨s, _, Wkn.box (b := 3) (cs' := [.alts (eA e)]) rfl rfl rfl (alts_cell (by simp [eA]) rfl), wp_sound (OOk.nil.addL hsp) _ ?_⟩
    simp [zeroDv, eA] at e2
    simp [F_dev_Do, zeroDv, s2, s3, s4, s5, e2, eA]
    exact OutP.clean (by simp [clean_cs])

  · simp [F_dev_Do, zeroDv]
end Go.Av

namespace Go.Av.Pl
def appR : Dv → List Rec → Option (Dv × List Cx × Int)
  | d, [] => some (d, [], 0)
  | d, r :: l => (one1 d r).bind fun R => if R.2.2 ≠ 0 then some (R.1, [], R.2.2) else (appR R.1 l).map fun Q => (Q.1, R.2.1 :: Q.2.1, Q.2.2)
end Go.Av.Pl
namespace Go.Av
open Enc (enc dec)
open Cel (cs dc)
open Go.Proofs Pl

@[simp] def sp_dLimit (d : Dv) (n : Int) : Option (V × List Tip) := if d.zones.length ≤ 2 ^ 40 ∧ d.zones.all (fun z => decide (z.data.length ≤ 2 ^ 30)) = true ∧ d.zones ≠ [] then some (enc { d with left := n }, []) else none
theorem sp_dLimit_ok : EOk Try.prog n_dev_Limit (sp2 sp_dLimit) := sp2_ok fun d n r h => by
  simp only [sp_dLimit] at h
  split at h <;> cases h
  rename_i hc
  exact c_dLimit d n ⟨hc.1, fun z hz => by simpa using List.all_eq_true.1 hc.2.1 z hz⟩ hc.2.2
@[simp] def sp_lOne (d : Dv) (r : Rec) : Option (V × List Tip) := (one1 d r).map fun R => (.tuple [enc R.1, enc R.2.1, enc R.2.2], [])
theorem sp_lOne_ok : EOk Try.prog n_log_one (sp2 sp_lOne) := sp2_ok fun d c r h => by
  simp only [sp_lOne, Option.map_eq_some_iff] at h
  obtain ⟨R, hR, rfl⟩ := h
  exact c_lOne d c R hR
def Do1 : Orc := (Orc.nil.add n_dev_Limit (sp2 sp_dLimit)).add n_log_one (sp2 sp_lOne)
theorem Do1_ok : OOk Try.prog Do1 := (OOk.nil.add sp_dLimit_ok).add sp_lOne_ok
theorem appR_len : ∀ {l : List Rec} {d : Dv} {R : Dv × List Cx × Int}, appR d l = some R → R.2.1.length ≤ l.length
  | [], d, R, h => by cases h; simp
  | r :: l, d, R, h => by
    simp only [appR, Option.bind_eq_some_iff] at h
    obtain ⟨Q, hQ, h⟩ := h
    split at h
    · cases h; simp
    · simp only [Option.map_eq_some_iff] at h
      obtain ⟨Q2, hQ2, rfl⟩ := h
      have := appR_len hQ2
      simp only [List.length_cons]
      omega
def AppI (d : Dv) (l : List Rec) (k : Nat) (s : Nat → V) (m : Mem) : Prop :=
  ∃ (i : Nat) (di : Dv) (p : List Cx) (t : Nat) (b0 : List V) (r : List (List V)) (tips : List Tip), i + k = l.length ∧ appR d l = (appR di (l.drop i)).map (fun Q => (Q.1, p ++ Q.2.1, Q.2.2)) ∧ p.length ≤ i ∧ s 14 = .lit 3 (l.map cs) ∧ s 15 = .val (.int .i64 l.length) ∧ s 16 = .val (.int .i64 i) ∧ s 4 = .ptr 1 0 ∧
    s 5 = .row t 1 (p.map cs) ∧ m = ⟨b0 :: cs di :: r, tips⟩ ∧ tips[t]? = some (91, 1, p.length)
theorem c_lAppend (d : Dv) (l : List Rec) (hs : DSm d) (hne : d.zones ≠ []) (hl : l.length ≤ 2 ^ 30) (R : Dv × List Cx × Int) (h : appR d l = some R) : Pure Try.prog n_log_Append [enc d, enc l] (.tuple [enc R.1, enc R.2.1, enc R.2.2]) [] := by
  refine Pure.ofC Do1_ok hm F_log_Append_ok (by simp [F_log_Append]) (by simp [V.res, V.res1]) ?_
  have hz : d.zones.all (fun z => decide (z.data.length ≤ 2 ^ 30)) = true := List.all_eq_true.2 fun z hz => by simpa using hs.z z hz
  have hsn := hs.n
  simp only [Nat.reducePow] at hz hsn hl
  simp [F_log_Append, Do1, decX_map, hsn, hne]
  simp at hz
  refine ⟨hz, wp_loop (AppI d l) l.length (IW.of ⟨0, d, [], 0, cs d, [], [(91, 1, 0)], by omega, by simp, by simp, by simp, by simp, by simp, by simp, by simp, by simp, by simp⟩) fun k s m ⟨i, di, p, t, b0, r, tips, hik, hap, hpl, s14, s15, s16, s4, s5, hm, ht⟩ => ?_⟩
  subst hm
  rw [h] at hap
  by_cases hi : i < l.length
  · have hg : l[i]? = some l[i] := List.getElem?_eq_getElem hi
    have w1 := IntWalk.i64_in ((i : Int) + 1) (by omega)
    rw [List.drop_eq_getElem_cons hi] at hap
    cases h1 : one1 di l[i] with
    | none => simp [appR, h1] at hap
    | some Q =>
      simp only [appR, h1, Option.bind_some] at hap
      by_cases he : Q.2.2 = 0
      · simp only [he, ne_eq, not_true_eq_false, if_false] at hap
        simp [F_log_Append_L0, Do1, s14, s15, s16, s4, s5, hi, hg, w1, decX_cs, decX_map, h1, he, ht]
        refine ⟨by omega, k - 1, by omega, IW.of ⟨i + 1, Q.1, p ++ [Q.2.1], t, b0, _, _, by omega, ?_, by simp; omega, by simpa using s14, by simpa using s15, by simp, by simpa using s4, by simp, by rfl, by rw [List.getElem?_set_self (lt_of_some ht)]; simp⟩⟩
        rw [h, hap, Option.map_map]
        congr 1
        funext Q2
        simp
      · simp only [he, ne_eq, not_false_eq_true, if_true, Option.map_some, Option.some.injEq] at hap
        subst hap
        simp [F_log_Append_L0, Do1, s14, s15, s16, s4, s5, hi, hg, w1, decX_cs, decX_map, h1, he, clean_cs]
  · rw [List.drop_eq_nil_of_le (by omega)] at hap
    simp only [appR, Option.map_some, List.append_nil, Option.some.injEq] at hap
    subst hap
    simp [F_log_Append_L0, s14, s15, s16, s4, s5, hi, clean_cs]
end Go.Av

namespace Go.Av.Pl
def zAdd (z : Zo) (s : Int) (b : List UInt8) : Zo := { z with data := z.data ++ b, st := zFill (z.data ++ b).length s 1 }
def zEnd (z : Zo) : Zo := { z with st := 3 }
/-- A device that does commands. -/
structure DG (d : Dv) (k : Nat) : Prop where
  ok : dOk d = true
  dn : d.down = false
  lf : d.left = -1
  dd : 0 ≤ d.done ∧ d.done ≤ k
  op : stN 1 d.zones ≤ 3

theorem cnt_set (p : Zo → Bool) : ∀ (l : List Zo) (i : Nat) (hi : i < l.length) (z : Zo), (l.set i z).countP p + (p l[i]).toNat = l.countP p + (p z).toNat
  | a :: l, 0, hi, z => by
    simp only [List.set_cons_zero, List.countP_cons, List.getElem_cons_zero]
    cases p a <;> cases p z <;> simp <;> omega
  | a :: l, i + 1, hi, z => by
    have := cnt_set p l i (by simpa using hi) z
    simp only [List.set_cons_succ, List.countP_cons, List.getElem_cons_succ]
    omega
theorem sum_set (f : Zo → Nat) : ∀ (l : List Zo) (i : Nat) (hi : i < l.length) (z : Zo), ((l.set i z).map f).sum + f l[i] = (l.map f).sum + f z
  | a :: l, 0, hi, z => by
    simp only [List.set_cons_zero, List.map_cons, List.sum_cons, List.getElem_cons_zero]
    omega
  | a :: l, i + 1, hi, z => by
    have := sum_set f l i (by simpa using hi) z
    simp only [List.set_cons_succ, List.map_cons, List.sum_cons, List.getElem_cons_succ]
    omega
theorem stN_set (q : Int) (l : List Zo) (i : Nat) (hi : i < l.length) (z : Zo) : stN q (l.set i z) + (if l[i].st = q then 1 else 0) = stN q l + (if z.st = q then 1 else 0) := by
  have := cnt_set (fun z => decide (z.st = q)) l i hi z
  unfold stN
  by_cases h1 : l[i].st = q <;> by_cases h2 : z.st = q <;> simp [h1, h2] at this ⊢ <;> omega
theorem dOk_iff {d : Dv} : dOk d = true ↔ (∀ z ∈ d.zones, zOk z d.size = true) ∧ 0 < d.zones.length ∧ d.zones.length ≤ 64 ∧ 0 < d.size ∧ d.size ≤ 1048576 := by
  simp only [dOk, Bool.and_eq_true, Bool.not_eq_true', decide_eq_true_eq, List.any_eq_false]
  constructor
  · rintro ⟨h1, h2⟩
    exact ⟨fun z hz => by simpa using h1 z hz, h2⟩
  · rintro ⟨h1, h2⟩
    exact ⟨fun z hz => by simpa using h1 z hz, h2⟩
theorem zOk_iff {z : Zo} {n : Int} : zOk z n = true ↔ (1 ≤ n ∧ n ≤ 1048576 ∧ (z.data.length : Int) ≤ n ∧ 0 ≤ z.la ∧ z.la ≤ z.data.length ∧ 0 ≤ z.rs ∧ z.rs ≤ 1073741824) ∧
    ((z.st = 0 ∧ z.data.length = 0) ∨ ((z.st = 1 ∨ z.st = 2) ∧ 0 < z.data.length ∧ (z.data.length : Int) < n) ∨ z.st = 3) := by
  simp only [zOk, Bool.and_eq_true, decide_eq_true_eq]
  refine and_congr_right fun _ => ?_
  by_cases h0 : z.st = 0
  · simp [h0]
  · by_cases h1 : z.st = 1
    · simp [h1, zTakes]
    · by_cases h2 : z.st = 2
      · simp [h2, zTakes]
      · simp [h0, h1, h2, zTakes]
theorem zRoom_pos {z : Zo} {n k : Int} (hk : 0 < k) (h : k ≤ zRoom z n) : zOk z n = true ∧ zTakes z = true ∧ k + z.data.length ≤ n := by
  unfold zRoom at h
  split at h
  · rename_i hc
    exact ⟨hc.1, hc.2, by omega⟩
  · omega
theorem zAdd_ok {z : Zo} {n : Int} {b : List UInt8} (hb : b ≠ []) (h : (b.length : Int) ≤ zRoom z n) : zOk (zAdd z n b) n = true ∧ ((zAdd z n b).st = 1 ∨ (zAdd z n b).st = 3 ∧ ((zAdd z n b).data.length : Int) = n) := by
  have hb0 : 0 < b.length := List.length_pos_iff.2 hb
  obtain ⟨h1, h2, h3⟩ := zRoom_pos (by omega) h
  have h4 := zOk_iff.1 h1
  have hne : ¬ (z.data ++ b).length = 0 := by rw [List.length_append]; omega
  by_cases hf : ((z.data ++ b).length : Int) = n
  · have e : zAdd z n b = { z with data := z.data ++ b, st := 3 } := by simp only [zAdd, zFill]; rw [if_neg hne, if_pos hf]
    rw [e]
    refine ⟨zOk_iff.2 ⟨⟨h4.1.1, h4.1.2.1, ?_, h4.1.2.2.2.1, ?_, h4.1.2.2.2.2.2.1, h4.1.2.2.2.2.2.2⟩, .inr (.inr rfl)⟩, .inr ⟨rfl, hf⟩⟩
    · simp; omega
    · have := h4.1.2.2.2.2.1
      simp
      omega
  · have e : zAdd z n b = { z with data := z.data ++ b, st := 1 } := by simp only [zAdd, zFill]; rw [if_neg hne, if_neg hf]
    rw [e]
    have hl : ((z.data ++ b).length : Int) = z.data.length + b.length := by simp
    refine ⟨zOk_iff.2 ⟨⟨h4.1.1, h4.1.2.1, ?_, h4.1.2.2.2.1, ?_, h4.1.2.2.2.2.2.1, h4.1.2.2.2.2.2.2⟩, .inr (.inl ⟨.inl rfl, ?_, ?_⟩)⟩, .inl rfl⟩
    · simp; omega
    · have := h4.1.2.2.2.2.1
      simp
      omega
    · simp; omega
    · simp only
      omega
theorem zApp_ok {z : Zo} {n : Int} {b : List UInt8} (hb : b ≠ []) (h : (b.length : Int) ≤ zRoom z n) : zApp z n b = (zAdd z n b, 0) := by
  have hb0 : 0 < b.length := List.length_pos_iff.2 hb
  obtain ⟨h1, h2, h3⟩ := zRoom_pos (by omega) h
  unfold zApp
  rw [if_neg (by simp [h1, hb]), if_pos h]
  rfl
theorem dOk_set {d : Dv} (h : dOk d = true) {i : Nat} {z : Zo} (hz : zOk z d.size = true) (l : Int) (w : Bool) (k : Int) : dOk ⟨d.size, d.zones.set i z, l, w, k⟩ = true := by
  have h := dOk_iff.1 h
  refine dOk_iff.2 ⟨fun y hy => ?_, by simpa using h.2⟩
  rcases List.mem_or_eq_of_mem_set hy with hy | rfl
  · exact h.1 y hy
  · exact hz
/-- An append that is done. -/
theorem do_app {d : Dv} {k : Nat} (hg : DG d k) (hk : k ≤ 2 ^ 62) {i : Nat} (hi : i < d.zones.length) {b : List UInt8} (hb : b ≠ []) (hbl : b.length ≤ 2 ^ 30) (hr : (b.length : Int) ≤ zRoom d.zones[i] d.size) (ho : d.zones[i].st = 1 ∨ stN 1 d.zones < 3) :
    dDoR d ⟨1, i, b⟩ = some (dDid d (d.zones.set i (zAdd d.zones[i] d.size b))) ∧ DG (dDid d (d.zones.set i (zAdd d.zones[i] d.size b))) (k + 1) := by
  have hc : dCmd 1 d d.zones[i] b = (zAdd d.zones[i] d.size b, 0) := by
    simp only [dCmd, if_true]
    rw [if_neg (by rintro ⟨h1, h2⟩; rcases ho with h | h <;> first | exact h1 h | omega), zApp_ok hb hr]
  refine ⟨?_, ?_⟩
  · have hz : dDoZ d ⟨1, i, b⟩ = some (zAdd d.zones[i] d.size b) := by
      simp only [dDoZ, Int.toNat_natCast, List.getElem?_eq_getElem hi, Option.bind_some, hc]
      rw [if_pos ⟨by omega, by omega, by omega, trivial⟩]
    unfold dDoR
    rw [if_pos ⟨hg.ok, hg.dn, by rw [hg.lf]; omega, by rw [hg.lf]; omega, by have := hg.dd; omega, hbl⟩, hz]
    rfl
  · obtain ⟨h1, h2⟩ := zAdd_ok hb hr
    refine ⟨dOk_set hg.ok h1 _ _ _, hg.dn, ?_, ?_, ?_⟩
    · simp only [dDid, dLeft, hg.lf]
      rfl
    · have := hg.dd
      simp only [dDid]
      omega
    · have h3 := stN_set 1 d.zones i hi (zAdd d.zones[i] d.size b)
      have h4 := hg.op
      show stN 1 (d.zones.set i (zAdd d.zones[i] d.size b)) ≤ 3
      have h5 : (if (zAdd d.zones[i] d.size b).st = 1 then 1 else 0) ≤ 1 := by split <;> omega
      rcases ho with h | h
      · rw [if_pos h] at h3
        omega
      · omega
/-- A finish that is done. -/
theorem do_fin {d : Dv} {k : Nat} (hg : DG d k) (hk : k ≤ 2 ^ 62) {j : Nat} (hj : j < d.zones.length) (ho : d.zones[j].st = 1) :
    dDoR d ⟨3, j, []⟩ = some (dDid d (d.zones.set j (zEnd d.zones[j]))) ∧ DG (dDid d (d.zones.set j (zEnd d.zones[j]))) (k + 1) ∧ stN 1 (d.zones.set j (zEnd d.zones[j])) + 1 = stN 1 d.zones := by
  have hc : dCmd 3 d d.zones[j] [] = (zEnd d.zones[j], 0) := by
    have : zFin d.zones[j] = (zEnd d.zones[j], 0) := by
      unfold zFin
      rw [if_pos ⟨by simp [zTakes, ho], by rw [ho]; decide⟩]
      rfl
    simp [dCmd, this]
  have h3 := stN_set 1 d.zones j hj (zEnd d.zones[j])
  rw [if_pos ho, if_neg (by simp [zEnd])] at h3
  refine ⟨?_, ?_, by omega⟩
  · have hz : dDoZ d ⟨3, j, []⟩ = some (zEnd d.zones[j]) := by
      simp only [dDoZ, Int.toNat_natCast, List.getElem?_eq_getElem hj, Option.bind_some, hc]
      rw [if_pos ⟨by omega, by omega, by omega, trivial⟩]
    unfold dDoR
    rw [if_pos ⟨hg.ok, hg.dn, by rw [hg.lf]; omega, by rw [hg.lf]; omega, by have := hg.dd; omega, by simp⟩, hz]
    rfl
  · have h1 := zOk_iff.1 ((dOk_iff.1 hg.ok).1 _ (List.getElem_mem hj))
    refine ⟨dOk_set (z := zEnd d.zones[j]) hg.ok (zOk_iff.2 ⟨h1.1, .inr (.inr rfl)⟩) _ _ _, hg.dn, ?_, ?_, ?_⟩
    · simp only [dDid, dLeft, hg.lf]
      rfl
    · have := hg.dd
      simp only [dDid]
      omega
    · have h4 := hg.op
      show stN 1 (d.zones.set j (zEnd d.zones[j])) ≤ 3
      omega
end Go.Av.Pl

namespace Go.Av.Pl
/-- What commands may come to: their device, and an error. -/
def oneRun : Dv → List Rec → List (Dv × Int)
  | d, [] => [(d, 0)]
  | d, c :: l => (if (doA d c).2 = 0 then [] else [doA d c]) ++ oneRun (doA d c).1 l
def oneA (d : Dv) (r : Rec) : List (Dv × Cx × Int) :=
  if recOk r = false then [(d, ⟨0, 0⟩, 50)] else if placeE d (recB r).length ≠ 0 then [(d, ⟨0, 0⟩, placeE d (recB r).length)] else (oneRun d (cmdL d r)).map fun R => (R.1, oneC d r, R.2)
/-- A command that may be asked of a device here. -/
def cmdOk (d : Dv) (c : Rec) : Prop := (c.kind = 1 ∨ c.kind = 3) ∧ 0 ≤ c.seq ∧ c.seq < d.zones.length ∧ c.body.length ≤ 2 ^ 30
instance (d : Dv) (c : Rec) : Decidable (cmdOk d c) := by unfold cmdOk; infer_instance
theorem zApp_keeps {z : Zo} {n : Int} {b : List UInt8} (hz : zOk z n = true) : ((zApp z n b).2 = 0 → zOk (zApp z n b).1 n = true ∧ z.data <+: (zApp z n b).1.data) := by
  intro h
  unfold zApp at h ⊢
  split
  · rename_i hc; rw [if_pos hc] at h; cases h
  · rename_i hc
    rw [if_neg hc] at h
    split
    · rename_i hr
      have hb : b ≠ [] := fun e => hc (.inr e)
      exact ⟨(zAdd_ok hb hr).1, List.prefix_append _ _⟩
    · rename_i hr; rw [if_neg hr] at h; cases h
theorem zFin_keeps {z : Zo} {n : Int} (hz : zOk z n = true) : ((zFin z).2 = 0 → zOk (zFin z).1 n = true ∧ z.data <+: (zFin z).1.data) := by
  intro h
  unfold zFin at h ⊢
  split
  · have h1 := zOk_iff.1 hz
    exact ⟨zOk_iff.2 ⟨h1.1, .inr (.inr rfl)⟩, List.prefix_refl _⟩
  · rename_i hc; rw [if_neg hc] at h; cases h
/-- A device keeps what was there. -/
structure Keeps (d d' : Dv) : Prop where
  ok : dOk d' = true
  len : d'.zones.length = d.zones.length
  pre : ∀ (i : Nat) (z z' : Zo), d.zones[i]? = some z → d'.zones[i]? = some z' → z.data <+: z'.data
theorem Keeps.refl {d : Dv} (h : dOk d = true) : Keeps d d := ⟨h, rfl, fun i z z' h1 h2 => by rw [h1] at h2; cases h2; exact List.prefix_refl _⟩
theorem Keeps.trans {a b c : Dv} (h : Keeps a b) (k : Keeps b c) : Keeps a c := ⟨k.ok, k.len.trans h.len, fun i z z' h1 h2 => by
  have hi := (List.getElem?_eq_some_iff.1 h1).1
  have hb : b.zones[i]? = some (b.zones[i]'(by rw [h.len]; exact hi)) := List.getElem?_eq_getElem _
  exact (h.pre i _ _ h1 hb).trans (k.pre i _ _ hb h2)⟩
theorem dOk_same {d d' : Dv} (h : dOk d = true) (h1 : d'.size = d.size) (h2 : d'.zones = d.zones) : dOk d' = true := by
  have := dOk_iff.1 h
  refine dOk_iff.2 ?_
  rw [h1, h2]
  exact this
theorem doA_keeps {d : Dv} {c : Rec} (hok : dOk d = true) (hc : cmdOk d c) : Keeps d (doA d c).1 := by
  unfold doA
  split
  · exact ⟨dOk_same hok rfl rfl, rfl, (Keeps.refl hok).pre⟩
  obtain ⟨hk, h0, h1, _⟩ := hc
  have hi : c.seq.toNat < d.zones.length := by omega
  have hn : Keeps d (dNext d) := ⟨dOk_same hok rfl rfl, rfl, (Keeps.refl hok).pre⟩
  rw [List.getElem?_eq_getElem hi]
  simp only
  split
  · rename_i he
    have hz := (dOk_iff.1 hok).1 _ (List.getElem_mem hi)
    have hz' : zOk (dCmd c.kind d d.zones[c.seq.toNat] c.body).1 d.size = true ∧ d.zones[c.seq.toNat].data <+: (dCmd c.kind d d.zones[c.seq.toNat] c.body).1.data := by
      rcases hk with hk | hk
      · rw [hk] at he ⊢
        unfold dCmd at he ⊢
        simp only [if_true] at he ⊢
        split
        · rename_i hq; rw [if_pos hq] at he; cases he
        · rename_i hq; rw [if_neg hq] at he; exact zApp_keeps hz he
      · rw [hk] at he ⊢
        unfold dCmd at he ⊢
        simp at he ⊢
        exact zFin_keeps hz he
    refine ⟨dOk_set hok hz'.1 _ _ _, by simp, fun i z z' g1 g2 => ?_⟩
    simp only at g2
    by_cases hij : c.seq.toNat = i
    · subst hij
      rw [List.getElem?_set_self hi] at g2
      rw [List.getElem?_eq_getElem hi] at g1
      cases g1; cases g2
      exact hz'.2
    · rw [List.getElem?_set_ne hij] at g2
      rw [g1] at g2
      cases g2
      exact List.prefix_refl _
  · exact hn
theorem cmdOk_of {d d' : Dv} {c : Rec} (h : cmdOk d c) (hl : d'.zones.length = d.zones.length) : cmdOk d' c := by
  unfold cmdOk at h ⊢
  rw [hl]
  exact h
theorem cmdL_ok {d : Dv} {r : Rec} (hr : recOk r = true) (hp : placeE d (recB r).length = 0) : dOk d = true ∧ ∀ c ∈ cmdL d r, cmdOk d c := by
  have hbl := recB_length hr
  have hbody := (recOk_iff.1 hr).2.2.2.2
  have hn1 : ¬ (dOk d = false ∨ ((recB r).length : Int) < 1 ∨ d.size < (recB r).length) := by
    intro h
    unfold placeE at hp
    rw [if_pos h] at hp
    cases hp
  have hok : dOk d = true := by
    have : ¬ dOk d = false := fun h => hn1 (.inl h)
    simpa using this
  refine ⟨hok, fun c hc => ?_⟩
  obtain ⟨i, hi, e⟩ := place_lt hp
  simp only [cmdL, List.mem_append, List.mem_singleton] at hc
  rcases hc with hc | rfl
  · unfold placeL at hc
    rw [if_neg hn1] at hc
    split at hc
    · cases hc
    · split at hc
      · cases hc
      · split at hc
        · rename_i h3
          simp only [List.mem_singleton] at hc
          subst hc
          have hex : 0 ≤ dFirst d 1 0 := by
            refine Classical.byContradiction fun hx => ?_
            unfold dFirst zIdx at hx
            split at hx
            · omega
            · rename_i e0
              have hall : ∀ z ∈ d.zones, (decide (z.st = 1) && decide (0 ≤ zRoom z d.size)) = false := fun z hz => by simpa using List.findIdx?_eq_none_iff.1 e0 z hz
              have : stN 1 d.zones = 0 := by
                unfold stN
                rw [List.countP_eq_zero]
                intro z hz hs
                have hs' : z.st = 1 := by simpa using hs
                have := hall z hz
                simp only [hs', decide_true, Bool.true_and, decide_eq_false_iff_not] at this
                apply this
                unfold zRoom
                split
                · have := zOk_iff.1 ((dOk_iff.1 hok).1 z hz)
                  omega
                · omega
              omega
          obtain ⟨j, hj, ej, _⟩ := zIdx_lt hex
          have ej' : dFirst d 1 0 = j := ej
          exact ⟨.inr rfl, by simp only; omega, by simp only; omega, by simp⟩
        · cases hc
  · exact ⟨.inl rfl, by simp only; omega, by simp only; omega, by simp only; omega⟩
theorem oneRun_keeps : ∀ (l : List Rec) {d : Dv}, dOk d = true → (∀ c ∈ l, cmdOk d c) → ∀ R ∈ oneRun d l, Keeps d R.1
  | [], d, hok, _, R, hR => by
    simp only [oneRun, List.mem_singleton] at hR
    subst hR
    exact Keeps.refl hok
  | c :: l, d, hok, hc, R, hR => by
    have h1 := doA_keeps hok (hc c (by simp))
    simp only [oneRun, List.mem_append] at hR
    rcases hR with hR | hR
    · split at hR
      · cases hR
      · simp only [List.mem_singleton] at hR
        subst hR
        exact h1
    · exact h1.trans (oneRun_keeps l h1.ok (fun c' hc' => cmdOk_of (hc c' (by simp [hc'])) h1.len) R hR)
theorem oneA_keeps {d : Dv} {r : Rec} (hok : dOk d = true) : ∀ R ∈ oneA d r, Keeps d R.1 := by
  intro R hR
  unfold oneA at hR
  split at hR
  · simp only [List.mem_singleton] at hR
    subst hR
    exact Keeps.refl hok
  · rename_i hr
    split at hR
    · simp only [List.mem_singleton] at hR
      subst hR
      exact Keeps.refl hok
    · rename_i hp
      obtain ⟨Q, hQ, rfl⟩ := List.mem_map.1 hR
      obtain ⟨_, h2⟩ := cmdL_ok (by simpa using hr) (by simpa using hp)
      exact oneRun_keeps _ hok h2 Q hQ
end Go.Av.Pl
namespace Go.Av
open Enc (enc dec)
open Cel (cs dc)
open Go.Proofs Pl

@[simp] def sp_dDoA (d : Dv) (c : Rec) : Option (V × List Tip) := if dOk d = true ∧ cmdOk d c then some (.alts ((eA (doA d c).2).map fun u => .tuple [enc (doA d c).1, u]), []) else none
theorem doM_set (b0 : List V) (c : Rec) (x : V) (d1 : Dv) (zs : List Zo) (h : zs.length = d1.zones.length) : (⟨(doM b0 c x d1).boxes.set 6 (zC zs), (doM b0 c x d1).tips⟩ : Mem) = doM b0 c x { d1 with zones := zs } := by
  simp [doM, dvB, h]
theorem sp_dDoA_ok : EOk Try.prog n_dev_Do (sp2 sp_dDoA) := sp2_ok fun d c R h => by
  simp only [sp_dDoA] at h
  split at h
  case isFalse => cases h
  rename_i hc
  cases h
  obtain ⟨hok, hk, h0, h1, hb⟩ := hc
  obtain ⟨hs, hne⟩ := dOk_sm hok
  unfold doA
  split
  · rename_i hd
    exact c_doE d { d with down := true } c 40 hok rfl (c_do1D (cs d) d c _ hs hok hd)
  rename_i hd
  have hd1 : d.down = false := by
    cases hx : d.down with
    | false => rfl
    | true => exact absurd (.inl hx) hd
  have hl : ¬ d.left = 0 := fun e => hd (.inr e)
  have hi : c.seq.toNat < d.zones.length := by omega
  rw [List.getElem?_eq_getElem hi]
  obtain ⟨k, n, b⟩ := c
  simp only at hk h0 h1 hb hi ⊢
  have en : ((n.toNat : Nat) : Int) = n := Int.toNat_of_nonneg h0
  have hDB : ∀ L, DB (doM (cs d) ⟨k, n, b⟩ (.alts L) (dNext d)) 4 6 (dNext d) := fun L => ⟨rfl, rfl⟩
  have hs2 : DSm (dNext d) := ⟨hs.n, hs.z⟩
  have hdc : ∀ z, dCmd k (dNext d) z b = dCmd k d z b := fun z => rfl
  have key : ∀ fid, ¬ k = 5 → mpAt doesK k = some (.func fid []) → EOkL Try.prog fid (sp_cmd k) → ¬ 160 = fid →
      ∀ L e, (dCmd k d d.zones[n.toNat] b).2 = e → Loc Try.prog n_dev_done [.ptr 4 0, enc (⟨k, n, b⟩ : Rec)] (doM (cs d) ⟨k, n, b⟩ (.alts L) (dNext d)) (.val (.int .i64 e)) (doM (cs d) ⟨k, n, b⟩ (.alts L) { dNext d with zones := if e = 0 then d.zones.set n.toNat (dCmd k d d.zones[n.toNat] b).1 else d.zones }) := by
    intro fid g1 g2 g3 g4 L e he
    by_cases he0 : e = 0
    · subst he0
      rw [if_pos rfl]
      have := c_dDone1 k fid g1 g2 g3 g4 (doM (cs d) ⟨k, n, b⟩ (.alts L) (dNext d)) 4 6 (dNext d) (hDB L) (by decide) hs2 n.toNat b hi hb (dCmd k d d.zones[n.toNat] b).1 (Prod.ext rfl he)
      rw [en, doM_set _ _ _ _ _ (by simp)] at this
      exact this
    · rw [if_neg he0]
      have := c_dDoneE k fid g1 g2 g3 g4 (doM (cs d) ⟨k, n, b⟩ (.alts L) (dNext d)) 4 6 (dNext d) (hDB L) hs2 n.toNat b hi hb (dCmd k d d.zones[n.toNat] b).1 e he0 (Prod.ext rfl he)
      rw [en] at this
      exact this
  have key2 : ∀ L e, (dCmd k d d.zones[n.toNat] b).2 = e → Loc Try.prog n_dev_done [.ptr 4 0, enc (⟨k, n, b⟩ : Rec)] (doM (cs d) ⟨k, n, b⟩ (.alts L) (dNext d)) (.val (.int .i64 e)) (doM (cs d) ⟨k, n, b⟩ (.alts L) { dNext d with zones := if e = 0 then d.zones.set n.toNat (dCmd k d d.zones[n.toNat] b).1 else d.zones }) := by
    rcases hk with rfl | rfl
    · exact key n_dev_command_append (by decide) (by simp [doesK]) sp_capp_ok (by decide)
    · exact key n_dev_command_finish (by decide) (by simp [doesK]) sp_cfin_ok (by decide)
  split
  · rename_i he
    have h3 := key2 (eA 0) 0 he
    rw [if_pos rfl] at h3
    exact c_doE d _ ⟨k, n, b⟩ 0 hok (by simp) (c_do1N (cs d) d ⟨k, n, b⟩ (eA 0) _ 0 hs hok hd1 hl (by simp) h3)
  · rename_i he
    have h3 := key2 (eA (dCmd k d d.zones[n.toNat] b).2) _ rfl
    rw [if_neg he] at h3
    exact c_doE d _ ⟨k, n, b⟩ _ hok (by rfl) (c_do1N (cs d) d ⟨k, n, b⟩ _ _ _ hs hok hd1 hl rfl h3)
end Go.Av

namespace Go.Av.Pl
def appA : Dv → List Rec → List (Dv × List Cx × Int)
  | d, [] => [(d, [], 0)]
  | d, r :: l => (oneA d r).flatMap fun R => if R.2.2 ≠ 0 then [(R.1, [], R.2.2)] else (appA R.1 l).map fun Q => (Q.1, R.2.1 :: Q.2.1, Q.2.2)
theorem appA_keeps : ∀ (l : List Rec) {d : Dv}, dOk d = true → ∀ Q ∈ appA d l, Keeps d Q.1 ∧ Q.2.1.length ≤ l.length ∧ (Q.2.2 = 0 → Q.2.1.length = l.length)
  | [], d, hok, Q, hQ => by
    simp only [appA, List.mem_singleton] at hQ
    subst hQ
    exact ⟨Keeps.refl hok, Nat.le_refl _, fun _ => rfl⟩
  | r :: l, d, hok, Q, hQ => by
    simp only [appA, List.mem_flatMap] at hQ
    obtain ⟨R, hR, hQ⟩ := hQ
    have h1 := oneA_keeps hok R hR
    split at hQ
    · rename_i he
      simp only [List.mem_singleton] at hQ
      subst hQ
      exact ⟨h1, Nat.zero_le _, fun e => absurd e he⟩
    · obtain ⟨Q', hQ', rfl⟩ := List.mem_map.1 hQ
      obtain ⟨k1, k2, k3⟩ := appA_keeps l h1.ok Q' hQ'
      refine ⟨h1.trans k1, by simp; omega, fun e => ?_⟩
      have := k3 e
      simp [this]
end Go.Av.Pl
namespace Go.Av
open Enc (enc dec)
open Cel (cs dc)
open Go.Proofs Pl

def tupO (R : Dv × Cx × Int) : V := .tuple [enc R.1, enc R.2.1, enc R.2.2]
def OneQ (d : Dv) (r : Rec) (v : V) : Prop := ∃ R ∈ oneA d r, keepN [] v (tupO R)
def Dlb1 : Orc := ((Orc.nil.add n_dev_Do (sp2 sp_dDoA)).add n_record_Write (sp1 sp_rWrite)).add n_log_Place (sp2 sp_lPlace)
theorem Dlb1_ok : OOk Try.prog Dlb1 := ((OOk.nil.add sp_dDoA_ok).add sp_rWrite_ok).add sp_lPlace_ok
def OneJ (d : Dv) (l : List Rec) (c : Cx) (k : Nat) (s : Nat → V) (m : Mem) : Prop :=
  ∃ (i : Nat) (di : Dv) (t : Nat) (b1 : List V) (r : List (List V)), i + k = l.length ∧ dOk di = true ∧ di.zones.length = d.zones.length ∧ (∀ R ∈ oneRun di (l.drop i), R ∈ oneRun d l) ∧ s 51 = .row t 3 (l.map cs) ∧ s 52 = .val (.int .i64 l.length) ∧ s 53 = .val (.int .i64 i) ∧ s 2 = .ptr 0 0 ∧ s 4 = .ptr 2 0 ∧ s 8 = .val (.int .i64 0) ∧ s 11 = enc c ∧
    m.boxes = cs di :: b1 :: zeroDv :: r
theorem tupO_clean {α : Type} (f : α → Dv × Cx × Int) : ∀ l : List α, cleanL (l.map fun x => tupO (f x)) = true
  | [] => rfl
  | x :: l => by
    rw [List.map_cons, cleanL, tupO_clean f l]
    simp [tupO, clean_cs]
theorem c_lOneA (d : Dv) (r : Rec) (hl : d.zones.length ≤ 2 ^ 40) : Pure Try.prog n_log_one [enc d, enc r] (.alts ((oneA d r).map tupO)) [] := by
  refine Pure.ofA (al := fun f => f == 50) Dlb1_ok hm F_log_one_ok (by simp [F_log_one]) (tupO_clean id _) (wpA_mono (Q := Fin F_log_one.rs fun v _ => OneQ d r v) _ (fun e s m hq => by
    have key : ∀ v, OneQ d r v → ∃ u ∈ (oneA d r).map tupO, keepN [] v u := fun v ⟨R, hR, hk⟩ => ⟨_, List.mem_map.2 ⟨R, hR, rfl⟩, hk⟩
    cases e with
    | normal => obtain ⟨v, h1, h2⟩ := hq; exact ⟨v, h1, key v h2⟩
    | ret => obtain ⟨v, h1, h2⟩ := hq; exact ⟨v, h1, key v h2⟩
    | _ => exact hq) ?_)
  by_cases h1 : recOk r = true
  case neg =>
    have h1 : recOk r = false := by simpa using h1
    have e1 : recE r = 50 := by simp [recE, h1]
    simp [F_log_one, Dlb1, e1, decX_cs]
    exact ⟨(d, ⟨0, 0⟩, 50), by simp [oneA, h1], by simp [tupO, clean_cs]⟩
  have e1 : recE r = 0 := by simp [recE, h1]
  by_cases h2 : placeE d (recB r).length = 0
  case neg =>
    simp [F_log_one, Dlb1, e1, decX_cs, decX_map, hl, h2]
    exact ⟨(d, ⟨0, 0⟩, placeE d (recB r).length), by simp [oneA, h1, h2], by simp [tupO, clean_cs]⟩
  obtain ⟨i, hi, hn⟩ := place_lt h2
  have hg : d.zones[i]? = some d.zones[i] := List.getElem?_eq_getElem hi
  have hll := placeL_len d (recB r).length
  have hc : oneC d r = ⟨FloatKind.f64.nearest (i : Int), FloatKind.f64.nearest (d.zones[i].data.length : Int)⟩ := by simp [oneC, hn, List.getD_eq_getElem?_getD, hg]
  have hm : (cmdL d r).map cs = (placeL d (recB r).length).map cs ++ [[V.val (.int .i64 1), .val (.int .i64 i), .lit 1 ((recB r).map cs)]] := by simp [cmdL, hn]
  have hlen : (cmdL d r).length = (placeL d (recB r).length).length + 1 := by simp [cmdL]
  obtain ⟨hok, hcm⟩ := cmdL_ok h1 h2
  have hmem : ∀ R ∈ oneRun d (cmdL d r), (R.1, oneC d r, R.2) ∈ oneA d r := fun R hR => by
    unfold oneA
    rw [if_neg (by simp [h1]), if_neg (by simp [h2])]
    exact List.mem_map.2 ⟨R, hR, rfl⟩
  simp [F_log_one, Dlb1, e1, decX_cs, decX_map, hl, h2, hn, hg]
  refine ⟨by omega, wpA_loop (OneJ d (cmdL d r) (oneC d r)) (cmdL d r).length (IW.of ⟨0, d, 0, cs r, [], by omega, hok, rfl, by simp, by rw [hm]; simp, by rw [hlen]; simp, by simp, by simp, by simp, by simp, by rw [hc]; simp, by simp [zeroDv]⟩) fun k s m ⟨j, di, t, b1, rr, hjk, hdi, hdl, hru, s51, s52, s53, s2, s4, s8, s11, hb⟩ => ?_⟩
  obtain ⟨bx, tips⟩ := m
  simp only at hb
  subst hb
  by_cases hj : j < (cmdL d r).length
  · have hjg : (cmdL d r)[j]? = some (cmdL d r)[j] := List.getElem?_eq_getElem hj
    have w1 := IntWalk.i64_in ((j : Int) + 1) (by omega)
    have hcj := cmdOk_of (hcm _ (List.getElem_mem hj)) hdl
    have hkp := doA_keeps hdi hcj
    rw [List.drop_eq_getElem_cons hj] at hru
    simp only [oneRun, List.mem_append] at hru
    by_cases he : (doA di (cmdL d r)[j]).2 = 0
    · simp [F_log_one_L0, Dlb1, zeroDv, s51, s52, s53, s2, s4, s8, hj, hjg, w1, decX_cs, decX_map, hdi, hcj, he, eA]
      exact ⟨k - 1, by omega, IW.of ⟨j + 1, _, t, b1, _, by omega, hkp.ok, by rw [hkp.len, hdl], fun R hR => hru R (.inr hR), by simpa using s51, by simpa using s52, by simp, by simpa using s2, by simpa using s4, by simp, by simpa using s11, by rfl⟩⟩
    · simp [F_log_one_L0, Dlb1, zeroDv, s51, s52, s53, s2, s4, s8, s11, hj, hjg, w1, decX_cs, decX_map, hdi, hcj, he, eA, clean_cs]
      refine ⟨⟨k - 1, by omega, IW.of ⟨j + 1, _, t, b1, _, by omega, hkp.ok, by rw [hkp.len, hdl], fun R hR => hru R (.inr hR), by simpa using s51, by simpa using s52, by simp, by simpa using s2, by simpa using s4, by simp, by simpa using s11, by rfl⟩⟩, ⟨_, hmem _ (hru (doA di (cmdL d r)[j]) (.inl (by rw [if_neg he]; simp))), by simp [tupO, clean_cs]⟩⟩
  · rw [List.drop_of_length_le (by omega)] at hru
    have h3 := hmem _ (hru (di, 0) (by simp [oneRun]))
    simp [F_log_one_L0, zeroDv, s51, s52, s53, s2, s4, s8, s11, hj, clean_cs]
    exact ⟨_, h3, by simp [tupO, clean_cs]⟩
@[simp] def sp_lOneA (d : Dv) (r : Rec) : Option (V × List Tip) := if dOk d = true then some (.alts ((oneA d r).map tupO), []) else none
theorem sp_lOneA_ok : EOk Try.prog n_log_one (sp2 sp_lOneA) := sp2_ok fun d r R h => by
  simp only [sp_lOneA] at h
  split at h
  · rename_i hc
    cases h
    exact c_lOneA d r (dOk_sm hc).1.n
  · cases h
def tupA (Q : Dv × List Cx × Int) : V := .tuple [enc Q.1, enc Q.2.1, enc Q.2.2]
def AppQ (d : Dv) (l : List Rec) (v : V) : Prop := ∃ Q ∈ appA d l, keepN [] v (tupA Q)
theorem tupA_clean : ∀ l : List (Dv × List Cx × Int), cleanL (l.map tupA) = true
  | [] => rfl
  | x :: l => by
    rw [List.map_cons, cleanL, tupA_clean l]
    simp [tupA, clean_cs]
def Dlc1 : Orc := (Orc.nil.add n_dev_Limit (sp2 sp_dLimit)).add n_log_one (sp2 sp_lOneA)
theorem Dlc1_ok : OOk Try.prog Dlc1 := (OOk.nil.add sp_dLimit_ok).add sp_lOneA_ok
def AppJ (d : Dv) (l : List Rec) (k : Nat) (s : Nat → V) (m : Mem) : Prop :=
  ∃ (i : Nat) (di : Dv) (p : List Cx) (t : Nat) (b0 : List V) (r : List (List V)) (tips : List Tip), i + k = l.length ∧ dOk di = true ∧ (∀ Q ∈ appA di (l.drop i), (Q.1, p ++ Q.2.1, Q.2.2) ∈ appA d l) ∧ p.length ≤ i ∧ s 14 = .lit 3 (l.map cs) ∧ s 15 = .val (.int .i64 l.length) ∧ s 16 = .val (.int .i64 i) ∧ s 4 = .ptr 1 0 ∧
    s 5 = .row t 1 (p.map cs) ∧ m = ⟨b0 :: cs di :: r, tips⟩ ∧ tips[t]? = some (91, 1, p.length)
theorem c_lAppendA (d : Dv) (l : List Rec) (hok : dOk d = true) (hl : l.length ≤ 2 ^ 30) : Pure Try.prog n_log_Append [enc d, enc l] (.alts ((appA d l).map tupA)) [] := by
  refine Pure.ofA (al := fun f => f == 62) Dlc1_ok hm F_log_Append_ok (by simp [F_log_Append]) (tupA_clean _) (wpA_mono (Q := Fin F_log_Append.rs fun v _ => AppQ d l v) _ (fun e s m hq => by
    have key : ∀ v, AppQ d l v → ∃ u ∈ (appA d l).map tupA, keepN [] v u := fun v ⟨R, hR, hk⟩ => ⟨_, List.mem_map.2 ⟨R, hR, rfl⟩, hk⟩
    cases e with
    | normal => obtain ⟨v, h1, h2⟩ := hq; exact ⟨v, h1, key v h2⟩
    | ret => obtain ⟨v, h1, h2⟩ := hq; exact ⟨v, h1, key v h2⟩
    | _ => exact hq) ?_)
  obtain ⟨hs, hne⟩ := dOk_sm hok
  have hz : d.zones.all (fun z => decide (z.data.length ≤ 2 ^ 30)) = true := List.all_eq_true.2 fun z hz => by simpa using hs.z z hz
  have hsn := hs.n
  simp only [Nat.reducePow] at hz hsn hl
  simp [F_log_Append, Dlc1, decX_map, hsn, hne]
  simp at hz
  refine ⟨hz, wpA_loop (AppJ d l) l.length (IW.of ⟨0, d, [], 0, cs d, [], [(91, 1, 0)], by omega, hok, by simp, by simp, by simp, by simp, by simp, by simp, by simp, by simp, by simp⟩) fun k s m ⟨i, di, p, t, b0, r, tips, hik, hdi, hap, hpl, s14, s15, s16, s4, s5, hm, ht⟩ => ?_⟩
  subst hm
  by_cases hi : i < l.length
  · have hg : l[i]? = some l[i] := List.getElem?_eq_getElem hi
    have w1 := IntWalk.i64_in ((i : Int) + 1) (by omega)
    rw [List.drop_eq_getElem_cons hi] at hap
    simp only [appA, List.mem_flatMap] at hap
    simp [F_log_Append_L0, Dlc1, s14, s15, s16, s4, s5, hi, hg, w1, decX_cs, decX_map, hdi, tupO, ht]
    rintro _ x x1 x2 hx rfl
    have hk := oneA_keeps hdi _ hx
    by_cases he : x2 = 0
    · subst he
      simp [s14, s15, s16, s4, s5, hi, w1, ht]
      refine ⟨by omega, k - 1, by omega, IW.of ⟨i + 1, x, p ++ [x1], t, b0, _, _, by omega, hk.ok, fun Q hQ => ?_, by simp; omega, by simpa using s14, by simpa using s15, by simp, by simpa using s4, by simp, by rfl, by rw [List.getElem?_set_self (lt_of_some ht)]; simp⟩⟩
      have := hap (Q.1, x1 :: Q.2.1, Q.2.2) ⟨(x, x1, 0), hx, by rw [if_neg (by simp)]; exact List.mem_map.2 ⟨Q, hQ, rfl⟩⟩
      simpa using this
    · simp [s14, s15, s16, s4, s5, hi, w1, ht, he, clean_cs]
      have := hap (x, [], x2) ⟨(x, x1, x2), hx, by rw [if_pos he]; simp⟩
      exact ⟨_, this, by simp [tupA, clean_cs]⟩
  · rw [List.drop_of_length_le (by omega)] at hap
    have h3 := hap (di, [], 0) (by simp [appA])
    simp [F_log_Append_L0, s14, s15, s16, s4, s5, hi, clean_cs]
    exact ⟨_, h3, by simp [tupA, clean_cs]⟩
end Go.Av

namespace Go.Av
open Go.Proofs

@[simp] abbrev n_w06_awake : FuncId := 42
def F_w06_awake : F := ⟨(.seq (.ops [⟨(some 0), none, (.mov (.c (.bool false)))⟩]) (.seq (.ops [⟨(some 20), none, (.call 18 [(.c (.int .i64 2)), (.c (.int .i64 100))])⟩, ⟨(some 19), none, (.mov (.t 20))⟩, ⟨(some 21), none, (.ext (.t 19) 0)⟩, ⟨(some 22), none, (.ext (.t 19) 1)⟩, ⟨(some 1), none, (.alc [(.val (.int .i64 0)), (.lit 4 []), (.val (.int .i64 0)), (.val (.bool false)), (.val (.int .i64 0))])⟩, ⟨none, none, (.st (.t 1) 5 (.t 21))⟩, ⟨(some 2), none, (.mov (.t 22))⟩]) (.seq (.ops [⟨(some 23), none, (.mks (.c (.int .i64 40)) (.c (.int .i64 40)) 5 1 1 [(.val (.int .u8 0))] true)⟩, ⟨(some 24), none, (.bld [(.val (.int .i64 0)), (.val (.int .i64 0)), (.lit 1 [])] [(0, (1, (.c (.int .i64 1)))), (1, (1, (.c (.int .i64 5)))), (2, (1, (.t 23)))])⟩, ⟨(some 3), none, (.alc [(.val (.int .i64 0)), (.val (.int .i64 0)), (.lit 1 [])])⟩, ⟨none, none, (.st (.t 3) 3 (.t 24))⟩]) (.seq (.ops [⟨(some 25), none, (.ld (.t 3) (some 3))⟩, ⟨(some 4), none, (.alc [(.val (.int .i64 0)), (.val (.int .i64 0)), (.lit 1 [])])⟩, ⟨none, none, (.st (.t 4) 3 (.t 25))⟩]) (.seq (.ops [⟨(some 26), none, (.fad (.t 4) 1)⟩, ⟨none, none, (.st (.t 26) 1 (.c (.int .i64 6)))⟩]) (.seq (.ops [⟨(some 28), none, (.ld (.t 1) (some 5))⟩, ⟨(some 29), none, (.ld (.t 3) (some 3))⟩, ⟨(some 30), none, (.ld (.t 4) (some 3))⟩, ⟨(some 31), none, (.mkl 36 3 [(.t 29), (.t 30)] true)⟩, ⟨(some 32), none, (.call 19 [(.t 28), (.t 31)])⟩, ⟨(some 27), none, (.mov (.t 32))⟩, ⟨(some 33), none, (.ext (.t 27) 0)⟩, ⟨(some 34), none, (.ext (.t 27) 1)⟩, ⟨(some 35), none, (.ext (.t 27) 2)⟩, ⟨(some 5), none, (.alc [(.val (.int .i64 0)), (.lit 4 []), (.val (.int .i64 0)), (.val (.bool false)), (.val (.int .i64 0))])⟩, ⟨none, none, (.st (.t 5) 5 (.t 33))⟩, ⟨(some 6), none, (.mov (.t 34))⟩, ⟨(some 7), none, (.mov (.t 35))⟩]) (.seq (.ops [⟨(some 37), none, (.ld (.t 5) (some 5))⟩, ⟨(some 38), none, (.ld (.t 3) (some 3))⟩, ⟨(some 39), none, (.mkl 36 3 [(.t 38)] true)⟩, ⟨(some 40), none, (.call 19 [(.t 37), (.t 39)])⟩, ⟨(some 36), none, (.mov (.t 40))⟩, ⟨(some 41), none, (.ext (.t 36) 0)⟩, ⟨(some 42), none, (.ext (.t 36) 1)⟩, ⟨(some 43), none, (.ext (.t 36) 2)⟩, ⟨(some 8), none, (.alc [(.val (.int .i64 0)), (.lit 4 []), (.val (.int .i64 0)), (.val (.bool false)), (.val (.int .i64 0))])⟩, ⟨none, none, (.st (.t 8) 5 (.t 41))⟩, ⟨(some 9), none, (.mov (.t 42))⟩, ⟨(some 10), none, (.mov (.t 43))⟩]) (.seq (.ops [⟨(some 45), none, (.ld (.t 5) (some 5))⟩, ⟨(some 46), none, (.call 51 [(.t 45)])⟩, ⟨(some 44), none, (.mov (.t 46))⟩, ⟨(some 47), none, (.ext (.t 44) 0)⟩, ⟨(some 48), none, (.ext (.t 44) 1)⟩, ⟨(some 11), none, (.mov (.t 47))⟩, ⟨(some 12), none, (.mov (.t 48))⟩]) (.seq (.ops [⟨(some 50), none, (.ld (.t 5) (some 5))⟩, ⟨(some 51), none, (.call 100 [(.t 50), (.c (.int .i64 40))])⟩, ⟨(some 49), none, (.mov (.t 51))⟩, ⟨(some 52), none, (.ext (.t 49) 0)⟩, ⟨(some 53), none, (.ext (.t 49) 1)⟩, ⟨(some 54), none, (.ext (.t 49) 2)⟩, ⟨(some 13), none, (.mov (.t 52))⟩, ⟨(some 14), none, (.mov (.t 53))⟩, ⟨(some 15), none, (.mov (.t 54))⟩]) (.seq (.ops [⟨(some 56), none, (.ld (.t 5) (some 5))⟩, ⟨(some 57), none, (.call 100 [(.t 56), (.c (.int .i64 101))])⟩, ⟨(some 55), none, (.mov (.t 57))⟩, ⟨(some 58), none, (.ext (.t 55) 0)⟩, ⟨(some 59), none, (.ext (.t 55) 1)⟩, ⟨(some 60), none, (.ext (.t 55) 2)⟩, ⟨(some 16), none, (.mov (.t 58))⟩, ⟨(some 17), none, (.mov (.t 59))⟩, ⟨(some 18), none, (.mov (.t 60))⟩]) (.seq (.seq (.ops [⟨(some 61), none, (.mov (.t 11))⟩, ⟨(some 62), none, (.len (.t 61))⟩, ⟨(some 63), none, (.bin .neq (.t 62) (.c (.int .i64 2)))⟩, ⟨(some 64), none, (.mov (.t 63))⟩, ⟨(some 65), (some (64, false)), (.mov (.t 6))⟩, ⟨(some 66), (some (64, false)), (.len (.t 65))⟩, ⟨(some 67), (some (64, false)), (.bin .neq (.t 66) (.c (.int .i64 2)))⟩, ⟨(some 68), none, (.pick (.t 64) (.c (.bool true)) (.t 67))⟩]) (.cond (.t 68) (.seq (.ops [⟨(some 0), none, (.mov (.c (.bool false)))⟩]) .ret) .skip)) (.seq (.ops [⟨(some 69), none, (.mov (.t 7))⟩, ⟨(some 70), none, (.bin .eql (.t 69) (.c (.int .i64 0)))⟩, ⟨(some 71), none, (.mov (.t 70))⟩, ⟨(some 72), (some (71, true)), (.mov (.t 6))⟩, ⟨(some 73), (some (71, true)), (.ixs (.t 72) (.c (.int .i64 0)) 1)⟩, ⟨(some 74), (some (71, true)), (.lde (.t 73) none)⟩, ⟨(some 75), (some (71, true)), (.bin .eql (.t 74) (.c (.complex .f64 0 0)))⟩, ⟨(some 76), none, (.pick (.t 71) (.t 75) (.c (.bool false)))⟩, ⟨(some 77), none, (.mov (.t 76))⟩, ⟨(some 78), (some (77, true)), (.mov (.t 6))⟩, ⟨(some 79), (some (77, true)), (.ixs (.t 78) (.c (.int .i64 1)) 1)⟩, ⟨(some 80), (some (77, true)), (.lde (.t 79) none)⟩, ⟨(some 81), (some (77, true)), (.bin .eql (.t 80) (.c (.complex .f64 4607182418800017408 0)))⟩, ⟨(some 82), none, (.pick (.t 77) (.t 81) (.c (.bool false)))⟩, ⟨(some 83), none, (.mov (.t 82))⟩, ⟨(some 84), (some (83, true)), (.mov (.t 10))⟩, ⟨(some 85), (some (83, true)), (.bin .eql (.t 84) (.c (.int .i64 60)))⟩, ⟨(some 86), none, (.pick (.t 83) (.t 85) (.c (.bool false)))⟩, ⟨(some 87), none, (.mov (.t 86))⟩, ⟨(some 88), (some (87, true)), (.mov (.t 12))⟩, ⟨(some 89), (some (87, true)), (.bin .eql (.t 88) (.c (.int .i64 0)))⟩, ⟨(some 90), none, (.pick (.t 87) (.t 89) (.c (.bool false)))⟩, ⟨(some 91), none, (.mov (.t 90))⟩, ⟨(some 92), (some (91, true)), (.mov (.t 11))⟩, ⟨(some 93), (some (91, true)), (.ixs (.t 92) (.c (.int .i64 1)) 5)⟩, ⟨(some 94), (some (91, true)), (.fad (.t 93) 0)⟩, ⟨(some 95), (some (91, true)), (.fad (.t 94) 1)⟩, ⟨(some 96), (some (91, true)), (.lde (.t 95) none)⟩, ⟨(some 97), (some (91, true)), (.bin .eql (.t 96) (.c (.int .i64 6)))⟩, ⟨(some 98), none, (.pick (.t 91) (.t 97) (.c (.bool false)))⟩, ⟨(some 99), none, (.mov (.t 98))⟩, ⟨(some 100), (some (99, true)), (.mov (.t 13))⟩, ⟨(some 101), (some (99, true)), (.bin .eql (.t 100) (.c (.int .i64 0)))⟩, ⟨(some 102), none, (.pick (.t 99) (.t 101) (.c (.bool false)))⟩, ⟨(some 103), none, (.mov (.t 102))⟩, ⟨(some 104), (some (103, true)), (.mov (.t 14))⟩, ⟨(some 105), (some (103, true)), (.len (.t 104))⟩, ⟨(some 106), (some (103, true)), (.bin .eql (.t 105) (.c (.int .i64 0)))⟩, ⟨(some 107), none, (.pick (.t 103) (.t 106) (.c (.bool false)))⟩, ⟨(some 108), none, (.mov (.t 107))⟩, ⟨(some 109), (some (108, true)), (.mov (.t 15))⟩, ⟨(some 110), (some (108, true)), (.bin .eql (.t 109) (.c (.int .i64 0)))⟩, ⟨(some 111), none, (.pick (.t 108) (.t 110) (.c (.bool false)))⟩, ⟨(some 112), none, (.mov (.t 111))⟩, ⟨(some 113), (some (112, true)), (.mov (.t 18))⟩, ⟨(some 114), (some (112, true)), (.bin .eql (.t 113) (.c (.int .i64 1)))⟩, ⟨(some 115), none, (.pick (.t 112) (.t 114) (.c (.bool false)))⟩, ⟨(some 116), none, (.mov (.t 115))⟩, ⟨(some 117), (some (116, true)), (.mov (.t 11))⟩, ⟨(some 118), (some (116, true)), (.call 43 [(.t 117), (.c (.int .i64 5))])⟩, ⟨(some 119), (some (116, true)), (.len (.t 118))⟩, ⟨(some 120), (some (116, true)), (.bin .eql (.t 119) (.c (.int .i64 2)))⟩, ⟨(some 121), none, (.pick (.t 116) (.t 120) (.c (.bool false)))⟩, ⟨(some 122), none, (.mov (.t 121))⟩, ⟨(some 123), (some (122, true)), (.mov (.t 11))⟩, ⟨(some 124), (some (122, true)), (.call 43 [(.t 123), (.c (.int .i64 4))])⟩, ⟨(some 125), (some (122, true)), (.len (.t 124))⟩, ⟨(some 126), (some (122, true)), (.bin .eql (.t 125) (.c (.int .i64 0)))⟩, ⟨(some 127), none, (.pick (.t 122) (.t 126) (.c (.bool false)))⟩, ⟨(some 128), none, (.mov (.t 127))⟩, ⟨(some 129), (some (128, true)), (.ld (.t 5) (some 5))⟩, ⟨(some 130), (some (128, true)), (.call 20 [(.t 129)])⟩, ⟨(some 131), (some (128, true)), (.bin .eql (.t 130) (.c (.int .i64 0)))⟩, ⟨(some 132), none, (.pick (.t 128) (.t 131) (.c (.bool false)))⟩, ⟨(some 133), none, (.mov (.t 132))⟩, ⟨(some 134), (some (133, true)), (.ld (.t 1) (some 5))⟩, ⟨(some 135), (some (133, true)), (.call 20 [(.t 134)])⟩, ⟨(some 136), (some (133, true)), (.bin .eql (.t 135) (.c (.int .i64 2)))⟩, ⟨(some 137), none, (.pick (.t 133) (.t 136) (.c (.bool false)))⟩, ⟨(some 138), none, (.mov (.t 137))⟩, ⟨(some 139), none, (.pick (.t 138) (.c (.bool true)) (.c (.bool false)))⟩, ⟨(some 0), none, (.mov (.t 139))⟩]) .ret)))))))))))), 140, [(.tmp 0)]⟩
theorem F_w06_awake_ok : compF Try.prog (fun _ => true) 42 = some F_w06_awake := by kernel_rfl
@[simp] abbrev n_w06_LogRuns : FuncId := 11
def F_w06_LogRuns_L0 : C := (.seq (.seq (.ops [⟨(some 16), none, (.mov (.t 6))⟩, ⟨(some 17), none, (.mov (.t 0))⟩, ⟨(some 18), none, (.len (.t 17))⟩, ⟨(some 19), none, (.bin .lss (.t 16) (.t 18))⟩]) (.cond (.t 19) .skip (.exit 0))) (.seq (.block 1 (.seq (.ops [⟨(some 22), none, (.mov (.t 0))⟩, ⟨(some 23), none, (.mov (.t 6))⟩, ⟨(some 24), none, (.ixs (.t 22) (.t 23) 5)⟩, ⟨(some 25), none, (.fad (.t 24) 0)⟩, ⟨(some 26), none, (.fad (.t 25) 2)⟩, ⟨(some 27), none, (.lde (.t 26) none)⟩, ⟨(some 28), none, (.len (.t 27))⟩, ⟨(some 29), none, (.bin .gtr (.t 28) (.c (.int .i64 300)))⟩]) (.cond (.t 29) (.seq (.ops [⟨(some 30), none, (.mov (.t 5))⟩, ⟨(some 4), none, (.mov (.t 30))⟩]) .ret) .skip))) (.ops [⟨(some 20), none, (.mov (.t 6))⟩, ⟨(some 21), none, (.bin .add (.t 20) (.c (.int .i64 1)))⟩, ⟨(some 6), none, (.mov (.t 21))⟩])))
def F_w06_LogRuns : F := ⟨(.seq (.ops [⟨(some 4), none, (.mov (.c (.bool false)))⟩]) (.seq (.ops [⟨(some 7), none, (.call 42 [])⟩, ⟨(some 5), none, (.mov (.t 7))⟩]) (.seq (.seq (.ops [⟨(some 8), none, (.mov (.t 0))⟩, ⟨(some 9), none, (.len (.t 8))⟩, ⟨(some 10), none, (.bin .gtr (.t 9) (.c (.int .i64 100)))⟩, ⟨(some 11), none, (.mov (.t 10))⟩, ⟨(some 12), (some (11, false)), (.mov (.t 1))⟩, ⟨(some 13), (some (11, false)), (.bin .gtr (.t 12) (.c (.int .i64 4611686018427387904)))⟩, ⟨(some 14), none, (.pick (.t 11) (.c (.bool true)) (.t 13))⟩]) (.cond (.t 14) (.seq (.ops [⟨(some 15), none, (.mov (.t 5))⟩, ⟨(some 4), none, (.mov (.t 15))⟩]) .ret) .skip)) (.seq (.seq (.ops [⟨(some 6), none, (.mov (.c (.int .i64 0)))⟩]) (.block 0 (.loop F_w06_LogRuns_L0))) (.seq (.ops [⟨(some 31), none, (.mov (.t 5))⟩, ⟨(some 32), none, (.mov (.t 31))⟩, ⟨(some 33), (some (32, true)), (.mov (.t 0))⟩, ⟨(some 34), (some (32, true)), (.mov (.t 1))⟩, ⟨(some 35), (some (32, true)), (.call 43 [(.t 33), (.t 34)])⟩, ⟨(some 36), (some (32, true)), (.mov (.t 0))⟩, ⟨(some 37), (some (32, true)), (.mov (.t 1))⟩, ⟨(some 38), (some (32, true)), (.call 44 [(.t 36), (.t 37)])⟩, ⟨(some 39), (some (32, true)), (.call 30 [(.t 35), (.t 38)])⟩, ⟨(some 40), none, (.pick (.t 32) (.t 39) (.c (.bool false)))⟩, ⟨(some 4), none, (.mov (.t 40))⟩]) .ret))))), 41, [(.tmp 4)]⟩
theorem F_w06_LogRuns_ok : compF Try.prog (fun _ => true) 11 = some F_w06_LogRuns := by kernel_rfl
@[simp] abbrev n_w06_LogFull : FuncId := 13
def F_w06_LogFull_L0 : C := (.seq (.seq (.ops [⟨(some 36), none, (.mov (.t 11))⟩, ⟨(some 37), none, (.bin .lss (.t 36) (.c (.int .i64 500)))⟩]) (.cond (.t 37) .skip (.exit 0))) (.block 1 (.seq (.ops [⟨(some 39), none, (.ld (.t 9) (some 5))⟩, ⟨(some 40), none, (.ld (.t 8) (some 3))⟩, ⟨(some 41), none, (.mkl 36 3 [(.t 40)] true)⟩, ⟨(some 42), none, (.call 19 [(.t 39), (.t 41)])⟩, ⟨(some 38), none, (.mov (.t 42))⟩, ⟨(some 43), none, (.ext (.t 38) 0)⟩, ⟨(some 44), none, (.ext (.t 38) 1)⟩, ⟨(some 45), none, (.ext (.t 38) 2)⟩, ⟨(some 12), none, (.alc [(.val (.int .i64 0)), (.lit 4 []), (.val (.int .i64 0)), (.val (.bool false)), (.val (.int .i64 0))])⟩, ⟨none, none, (.st (.t 12) 5 (.t 43))⟩, ⟨(some 13), none, (.mov (.t 44))⟩, ⟨(some 14), none, (.mov (.t 45))⟩]) (.seq (.seq (.ops [⟨(some 46), none, (.mov (.t 14))⟩, ⟨(some 47), none, (.bin .neq (.t 46) (.c (.int .i64 0)))⟩]) (.cond (.t 47) (.seq (.seq (.ops [⟨(some 48), none, (.mov (.t 14))⟩, ⟨(some 49), none, (.bin .neq (.t 48) (.c (.int .i64 60)))⟩]) (.cond (.t 49) (.seq (.ops [⟨(some 4), none, (.mov (.c (.bool false)))⟩]) .ret) .skip)) (.exit 0)) .skip)) (.seq (.ops [⟨(some 50), none, (.ld (.t 12) (some 5))⟩, ⟨none, none, (.st (.t 9) 5 (.t 50))⟩]) (.ops [⟨(some 51), none, (.mov (.t 11))⟩, ⟨(some 52), none, (.bin .add (.t 51) (.c (.int .i64 1)))⟩, ⟨(some 11), none, (.mov (.t 52))⟩]))))))
def F_w06_LogFull : F := ⟨(.seq (.ops [⟨(some 4), none, (.mov (.c (.bool false)))⟩]) (.seq (.ops [⟨(some 20), none, (.call 42 [])⟩, ⟨(some 5), none, (.mov (.t 20))⟩]) (.seq (.ops [⟨(some 21), none, (.mov (.t 0))⟩, ⟨(some 22), none, (.conv .i64 (.t 21))⟩, ⟨(some 23), none, (.bin .rem (.t 22) (.c (.int .i64 81)))⟩, ⟨(some 6), none, (.mov (.t 23))⟩]) (.seq (.ops [⟨(some 24), none, (.mov (.t 1))⟩, ⟨(some 25), none, (.conv .i64 (.t 24))⟩, ⟨(some 26), none, (.bin .rem (.t 25) (.c (.int .i64 10)))⟩, ⟨(some 27), none, (.bin .add (.c (.int .i64 1)) (.t 26))⟩, ⟨(some 7), none, (.mov (.t 27))⟩]) (.seq (.ops [⟨(some 28), none, (.mov (.t 6))⟩, ⟨(some 29), none, (.mks (.t 28) (.t 28) 5 1 1 [(.val (.int .u8 0))] true)⟩, ⟨(some 30), none, (.bld [(.val (.int .i64 0)), (.val (.int .i64 0)), (.lit 1 [])] [(0, (1, (.c (.int .i64 1)))), (2, (1, (.t 29)))])⟩, ⟨(some 8), none, (.alc [(.val (.int .i64 0)), (.val (.int .i64 0)), (.lit 1 [])])⟩, ⟨none, none, (.st (.t 8) 3 (.t 30))⟩]) (.seq (.ops [⟨(some 32), none, (.mov (.t 7))⟩, ⟨(some 33), none, (.call 18 [(.t 32), (.c (.int .i64 200))])⟩, ⟨(some 31), none, (.mov (.t 33))⟩, ⟨(some 34), none, (.ext (.t 31) 0)⟩, ⟨(some 35), none, (.ext (.t 31) 1)⟩, ⟨(some 9), none, (.alc [(.val (.int .i64 0)), (.lit 4 []), (.val (.int .i64 0)), (.val (.bool false)), (.val (.int .i64 0))])⟩, ⟨none, none, (.st (.t 9) 5 (.t 34))⟩, ⟨(some 10), none, (.mov (.t 35))⟩]) (.seq (.ops [⟨(some 11), none, (.mov (.c (.int .i64 0)))⟩]) (.seq (.block 0 (.loop F_w06_LogFull_L0)) (.seq (.ops [⟨(some 54), none, (.ld (.t 9) (some 5))⟩, ⟨(some 55), none, (.mov (.t 7))⟩, ⟨(some 56), none, (.bin .sub (.t 55) (.c (.int .i64 1)))⟩, ⟨(some 57), none, (.bld [(.val (.int .i64 0)), (.val (.int .i64 0)), (.lit 1 [])] [(0, (1, (.c (.int .i64 2)))), (1, (1, (.t 56)))])⟩, ⟨(some 58), none, (.call 50 [(.t 54), (.t 57)])⟩, ⟨(some 53), none, (.mov (.t 58))⟩, ⟨(some 59), none, (.ext (.t 53) 0)⟩, ⟨(some 60), none, (.ext (.t 53) 1)⟩, ⟨(some 15), none, (.alc [(.val (.int .i64 0)), (.lit 4 []), (.val (.int .i64 0)), (.val (.bool false)), (.val (.int .i64 0))])⟩, ⟨none, none, (.st (.t 15) 5 (.t 59))⟩, ⟨(some 16), none, (.mov (.t 60))⟩]) (.seq (.ops [⟨(some 62), none, (.ld (.t 15) (some 5))⟩, ⟨(some 63), none, (.ld (.t 8) (some 3))⟩, ⟨(some 64), none, (.mkl 36 3 [(.t 63)] true)⟩, ⟨(some 65), none, (.call 19 [(.t 62), (.t 64)])⟩, ⟨(some 61), none, (.mov (.t 65))⟩, ⟨(some 66), none, (.ext (.t 61) 0)⟩, ⟨(some 67), none, (.ext (.t 61) 1)⟩, ⟨(some 68), none, (.ext (.t 61) 2)⟩, ⟨(some 17), none, (.alc [(.val (.int .i64 0)), (.lit 4 []), (.val (.int .i64 0)), (.val (.bool false)), (.val (.int .i64 0))])⟩, ⟨none, none, (.st (.t 17) 5 (.t 66))⟩, ⟨(some 18), none, (.mov (.t 67))⟩, ⟨(some 19), none, (.mov (.t 68))⟩]) (.seq (.ops [⟨(some 69), none, (.mov (.t 5))⟩, ⟨(some 70), none, (.mov (.t 69))⟩, ⟨(some 71), (some (70, true)), (.mov (.t 11))⟩, ⟨(some 72), (some (70, true)), (.mov (.t 7))⟩, ⟨(some 73), (some (70, true)), (.mov (.t 6))⟩, ⟨(some 74), (some (70, true)), (.bin .add (.t 73) (.c (.int .i64 20)))⟩, ⟨(some 75), (some (70, true)), (.bin .quo (.c (.int .i64 200)) (.t 74))⟩, ⟨(some 76), (some (70, true)), (.bin .mul (.t 72) (.t 75))⟩, ⟨(some 77), (some (70, true)), (.bin .eql (.t 71) (.t 76))⟩, ⟨(some 78), none, (.pick (.t 70) (.t 77) (.c (.bool false)))⟩, ⟨(some 79), none, (.mov (.t 78))⟩, ⟨(some 80), (some (79, true)), (.ld (.t 9) (some 5))⟩, ⟨(some 81), (some (79, true)), (.call 20 [(.t 80)])⟩, ⟨(some 82), (some (79, true)), (.bin .eql (.t 81) (.c (.int .i64 0)))⟩, ⟨(some 83), none, (.pick (.t 79) (.t 82) (.c (.bool false)))⟩, ⟨(some 84), none, (.mov (.t 83))⟩, ⟨(some 85), (some (84, true)), (.mov (.t 16))⟩, ⟨(some 86), (some (84, true)), (.bin .eql (.t 85) (.c (.int .i64 0)))⟩, ⟨(some 87), none, (.pick (.t 84) (.t 86) (.c (.bool false)))⟩, ⟨(some 88), none, (.mov (.t 87))⟩, ⟨(some 89), (some (88, true)), (.mov (.t 19))⟩, ⟨(some 90), (some (88, true)), (.bin .eql (.t 89) (.c (.int .i64 0)))⟩, ⟨(some 91), none, (.pick (.t 88) (.t 90) (.c (.bool false)))⟩, ⟨(some 92), none, (.mov (.t 91))⟩, ⟨(some 93), (some (92, true)), (.mov (.t 18))⟩, ⟨(some 94), (some (92, true)), (.len (.t 93))⟩, ⟨(some 95), (some (92, true)), (.bin .eql (.t 94) (.c (.int .i64 1)))⟩, ⟨(some 96), none, (.pick (.t 92) (.t 95) (.c (.bool false)))⟩, ⟨(some 97), none, (.mov (.t 96))⟩, ⟨(some 98), (some (97, true)), (.mov (.t 18))⟩, ⟨(some 99), (some (97, true)), (.ixs (.t 98) (.c (.int .i64 0)) 1)⟩, ⟨(some 100), (some (97, true)), (.lde (.t 99) none)⟩, ⟨(some 101), (some (97, true)), (.mem (.rei false) [(.t 100)])⟩, ⟨(some 102), (some (97, true)), (.mov (.t 7))⟩, ⟨(some 103), (some (97, true)), (.bin .sub (.t 102) (.c (.int .i64 1)))⟩, ⟨(some 104), (some (97, true)), (.mem (.cvf .f64) [(.t 103)])⟩, ⟨(some 105), (some (97, true)), (.bin .eql (.t 101) (.t 104))⟩, ⟨(some 106), none, (.pick (.t 97) (.t 105) (.c (.bool false)))⟩, ⟨(some 107), none, (.mov (.t 106))⟩, ⟨(some 108), (some (107, true)), (.mov (.t 18))⟩, ⟨(some 109), (some (107, true)), (.ixs (.t 108) (.c (.int .i64 0)) 1)⟩, ⟨(some 110), (some (107, true)), (.lde (.t 109) none)⟩, ⟨(some 111), (some (107, true)), (.mem (.rei true) [(.t 110)])⟩, ⟨(some 112), (some (107, true)), (.bin .eql (.t 111) (.c (.float .f64 0)))⟩, ⟨(some 113), none, (.pick (.t 107) (.t 112) (.c (.bool false)))⟩, ⟨(some 4), none, (.mov (.t 113))⟩]) .ret))))))))))), 114, [(.tmp 4)]⟩
theorem F_w06_LogFull_ok : compF Try.prog (fun _ => true) 13 = some F_w06_LogFull := by kernel_rfl
@[simp] abbrev n_log_All : FuncId := 51
def F_log_All_L0 : C := (.seq (.ops [⟨(some 30), none, (.bin .lss (.t 29) (.t 28))⟩]) (.seq (.cond (.t 30) .skip (.exit 2)) (.seq (.block 3 (.seq (.ops [⟨(some 31), none, (.mov (.t 29))⟩, ⟨(some 32), none, (.ixs (.t 27) (.t 29) 3)⟩, ⟨(some 33), none, (.lde (.t 32) (some 3))⟩, ⟨(some 9), none, (.alc [(.val (.int .i64 0)), (.val (.int .i64 0)), (.lit 1 [])])⟩, ⟨(some 8), none, (.mov (.t 31))⟩, ⟨none, none, (.st (.t 9) 3 (.t 33))⟩]) (.dops false [] [⟨(some 34), none, (.mov (.t 2))⟩, ⟨(some 35), none, (.ld (.t 9) (some 3))⟩, ⟨(some 36), none, (.mov (.t 4))⟩, ⟨(some 37), none, (.mov (.t 7))⟩, ⟨(some 38), none, (.mov (.t 8))⟩, ⟨(some 39), none, (.ixs (.t 37) (.t 38) 1)⟩, ⟨(some 40), none, (.lde (.t 39) none)⟩, ⟨(some 41), none, (.bld [(.val (.int .i64 0)), (.val (.int .i64 0)), (.lit 1 []), (.val (.int .i64 0)), (.val (.int .i64 0))] [(0, (3, (.t 35))), (3, (1, (.t 36))), (4, (1, (.t 40)))])⟩, ⟨(some 42), none, (.mkl 57 5 [(.t 41)] false)⟩, ⟨(some 43), none, (.app (.t 34) (.t 42) 57 5 56 true)⟩, ⟨(some 2), none, (.mov (.t 43))⟩]))) (.ops [⟨(some 44), none, (.bin .add (.t 29) (.c (.int .i64 1)))⟩, ⟨(some 29), none, (.mov (.t 44))⟩]))))
def F_log_All_L1 : C := (.seq (.ops [⟨(some 17), none, (.bin .lss (.t 16) (.t 15))⟩]) (.seq (.cond (.t 17) .skip (.exit 0)) (.seq (.block 1 (.seq (.ops [⟨(some 18), none, (.mov (.t 16))⟩, ⟨(some 19), none, (.ixs (.t 14) (.t 16) 4)⟩, ⟨(some 20), none, (.lde (.t 19) (some 4))⟩, ⟨(some 5), none, (.alc [(.val (.int .i64 0)), (.val (.int .i64 0)), (.lit 1 []), (.val (.int .i64 0))])⟩, ⟨(some 4), none, (.mov (.t 18))⟩, ⟨none, none, (.st (.t 5) 4 (.t 20))⟩]) (.seq (.ops [⟨(some 22), none, (.fad (.t 5) 2)⟩, ⟨(some 23), none, (.ld (.t 22) none)⟩, ⟨(some 24), none, (.call 109 [(.t 23)])⟩, ⟨(some 21), none, (.mov (.t 24))⟩, ⟨(some 25), none, (.ext (.t 21) 0)⟩, ⟨(some 26), none, (.ext (.t 21) 1)⟩, ⟨(some 6), none, (.mov (.t 25))⟩, ⟨(some 7), none, (.mov (.t 26))⟩]) (.seq (.ops [⟨(some 27), none, (.mov (.t 6))⟩, ⟨(some 28), none, (.len (.t 27))⟩, ⟨(some 29), none, (.mov (.c (.int .i64 0)))⟩]) (.block 2 (.loop F_log_All_L0)))))) (.ops [⟨(some 45), none, (.bin .add (.t 16) (.c (.int .i64 1)))⟩, ⟨(some 16), none, (.mov (.t 45))⟩]))))
def F_log_All : F := ⟨(.seq (.ops [⟨(some 1), none, (.box (.t 0))⟩, ⟨(some 2), none, (.nil 57 5 true)⟩, ⟨(some 3), none, (.mov (.c (.int .i64 0)))⟩]) (.seq (.seq (.ops [⟨(some 10), none, (.ld (.t 1) (some 5))⟩, ⟨(some 11), none, (.call 46 [(.t 10)])⟩, ⟨(some 12), none, (.un .not (.t 11))⟩]) (.cond (.t 12) (.seq (.ops [⟨(some 2), none, (.nil 57 5 true)⟩, ⟨(some 3), none, (.mov (.c (.int .i64 1)))⟩]) .ret) .skip)) (.seq (.seq (.ops [⟨(some 13), none, (.fad (.t 1) 1)⟩, ⟨(some 14), none, (.ld (.t 13) none)⟩, ⟨(some 15), none, (.len (.t 14))⟩, ⟨(some 16), none, (.mov (.c (.int .i64 0)))⟩]) (.block 0 (.loop F_log_All_L1))) (.seq (.ops [⟨(some 46), none, (.mov (.t 2))⟩, ⟨(some 47), none, (.call 110 [(.t 46), (.f 111)])⟩]) (.seq (.ops [⟨(some 48), none, (.mov (.t 2))⟩, ⟨(some 2), none, (.mov (.t 48))⟩, ⟨(some 3), none, (.mov (.c (.int .i64 0)))⟩]) .ret))))), 49, [(.tmp 2), (.tmp 3)]⟩
theorem F_log_All_ok : compF Try.prog (fun d => !([42].contains d)) 51 = some F_log_All := by kernel_rfl
@[simp] abbrev n_log_All_1 : FuncId := 111
def F_log_All_1 : F := ⟨(.seq (.ops [⟨(some 2), none, (.box (.t 0))⟩, ⟨(some 3), none, (.box (.t 1))⟩, ⟨(some 4), none, (.mov (.c (.int .i64 0)))⟩]) (.seq (.ops [⟨(some 5), none, (.fad (.t 2) 0)⟩, ⟨(some 6), none, (.fad (.t 5) 1)⟩, ⟨(some 7), none, (.ld (.t 6) none)⟩, ⟨(some 8), none, (.fad (.t 3) 0)⟩, ⟨(some 9), none, (.fad (.t 8) 1)⟩, ⟨(some 10), none, (.ld (.t 9) none)⟩, ⟨(some 11), none, (.call 112 [(.t 7), (.t 10)])⟩, ⟨(some 4), none, (.mov (.t 11))⟩]) .ret)), 12, [(.tmp 4)]⟩
theorem F_log_All_1_ok : compF Try.prog (fun _ => true) 111 = some F_log_All_1 := by kernel_rfl
@[simp] abbrev n_log_Run : FuncId := 43
def F_log_Run_L0 : C := (.seq (.seq (.ops [⟨(some 27), none, (.mov (.t 9))⟩]) (.cond (.t 27) .skip (.exit 2))) (.seq (.block 3 (.seq (.ops [⟨(some 34), none, (.mov (.t 4))⟩, ⟨(some 35), none, (.ld (.t 8) (some 3))⟩, ⟨(some 36), none, (.mkl 36 3 [(.t 35)] false)⟩, ⟨(some 37), none, (.app (.t 34) (.t 36) 36 3 40 true)⟩, ⟨(some 4), none, (.mov (.t 37))⟩]) (.ops [⟨(some 38), none, (.mov (.t 1))⟩, ⟨(some 39), none, (.bin .add (.t 38) (.c (.int .i64 1)))⟩, ⟨(some 1), none, (.mov (.t 39))⟩]))) (.seq (.seq (.ops [⟨(some 40), none, (.ld (.t 8) (some 3))⟩]) (.ops [⟨(some 8), none, (.alc [(.val (.int .i64 0)), (.val (.int .i64 0)), (.lit 1 [])])⟩, ⟨none, none, (.st (.t 8) 3 (.t 40))⟩])) (.ops [⟨(some 29), none, (.ld (.t 5) none)⟩, ⟨(some 30), none, (.mov (.t 1))⟩, ⟨(some 31), none, (.mlk (.t 29) (.t 30) (.agg [(.val (.int .i64 0)), (.val (.int .i64 0)), (.lit 1 [])]) true)⟩, ⟨(some 28), none, (.mov (.t 31))⟩, ⟨(some 32), none, (.ext (.t 28) 0)⟩, ⟨(some 33), none, (.ext (.t 28) 1)⟩, ⟨none, none, (.st (.t 8) 3 (.t 32))⟩, ⟨(some 9), none, (.mov (.t 33))⟩]))))
def F_log_Run : F := ⟨(.seq (.ops [⟨(some 4), none, (.nil 36 3 true)⟩]) (.seq (.ops [⟨(some 10), none, .mkm⟩, ⟨(some 5), none, (.alc [(.val (.map none))])⟩, ⟨none, none, (.st (.t 5) 1 (.t 10))⟩]) (.seq (.seq (.ops [⟨(some 11), none, (.mov (.t 0))⟩, ⟨(some 12), none, (.call 89 [(.t 11)])⟩]) (.block 0 (.rangeF false (.t 12) [13, 14] (.ops [⟨(some 7), none, (.alc [(.val (.int .i64 0)), (.val (.int .i64 0)), (.lit 1 []), (.val (.int .i64 0)), (.val (.int .i64 0))])⟩, ⟨none, none, (.st (.t 7) 5 (.t 14))⟩]) (.block 1 (.ops [⟨(some 15), none, (.ld (.t 5) none)⟩, ⟨(some 16), none, (.fad (.t 7) 0)⟩, ⟨(some 17), none, (.fad (.t 16) 1)⟩, ⟨(some 18), none, (.ld (.t 17) none)⟩, ⟨(some 19), none, (.fad (.t 7) 0)⟩, ⟨(some 20), none, (.ld (.t 19) (some 3))⟩, ⟨none, none, (.mup (.t 15) (.t 18) (.t 20))⟩]))))) (.seq (.seq (.ops [⟨(some 22), none, (.ld (.t 5) none)⟩, ⟨(some 23), none, (.mov (.t 1))⟩, ⟨(some 24), none, (.mlk (.t 22) (.t 23) (.agg [(.val (.int .i64 0)), (.val (.int .i64 0)), (.lit 1 [])]) true)⟩, ⟨(some 21), none, (.mov (.t 24))⟩, ⟨(some 25), none, (.ext (.t 21) 0)⟩, ⟨(some 26), none, (.ext (.t 21) 1)⟩, ⟨(some 8), none, (.alc [(.val (.int .i64 0)), (.val (.int .i64 0)), (.lit 1 [])])⟩, ⟨none, none, (.st (.t 8) 3 (.t 25))⟩, ⟨(some 9), none, (.mov (.t 26))⟩]) (.block 2 (.loop F_log_Run_L0))) (.seq (.ops [⟨(some 41), none, (.mov (.t 4))⟩, ⟨(some 4), none, (.mov (.t 41))⟩]) .ret))))), 42, [(.tmp 4)]⟩
theorem F_log_Run_ok : compF Try.prog (fun d => !([36].contains d)) 43 = some F_log_Run := by kernel_rfl
@[simp] abbrev n_record_Scan : FuncId := 109
def F_record_Scan_B0 : C := (.seq (.ops [⟨(some 11), none, (.mov (.t 5))⟩, ⟨(some 12), none, (.callv (.t 11) [])⟩, ⟨(some 10), none, (.mov (.t 12))⟩, ⟨(some 13), none, (.ext (.t 10) 0)⟩, ⟨(some 14), none, (.ext (.t 10) 1)⟩, ⟨(some 15), none, (.ext (.t 10) 2)⟩, ⟨(some 6), none, (.alc [(.val (.int .i64 0)), (.val (.int .i64 0)), (.lit 1 [])])⟩, ⟨none, none, (.st (.t 6) 3 (.t 13))⟩, ⟨(some 7), none, (.mov (.t 14))⟩, ⟨(some 8), none, (.mov (.t 15))⟩]) (.seq (.seq (.ops [⟨(some 16), none, (.mov (.t 8))⟩, ⟨(some 17), none, (.un .not (.t 16))⟩]) (.cond (.t 17) (.seq (.ops [⟨(some 18), none, (.mov (.t 2))⟩, ⟨(some 19), none, (.mov (.t 3))⟩, ⟨(some 2), none, (.mov (.t 18))⟩, ⟨(some 3), none, (.mov (.t 19))⟩]) .ret) .skip)) (.seq (.dops false [] [⟨(some 20), none, (.mov (.t 2))⟩, ⟨(some 21), none, (.ld (.t 6) (some 3))⟩, ⟨(some 22), none, (.mkl 36 3 [(.t 21)] false)⟩, ⟨(some 24), none, (.mov (.t 3))⟩, ⟨(some 25), none, (.ld (.t 4) none)⟩, ⟨(some 26), none, (.mkl 3 1 [(.t 25)] false)⟩, ⟨(some 23), none, (.app (.t 20) (.t 22) 36 3 40 true)⟩, ⟨(some 27), none, (.app (.t 24) (.t 26) 3 1 8 true)⟩, ⟨(some 2), none, (.mov (.t 23))⟩, ⟨(some 3), none, (.mov (.t 27))⟩]) (.seq (.ops [⟨(some 28), none, (.ld (.t 4) none)⟩, ⟨(some 29), none, (.mov (.t 7))⟩, ⟨(some 30), none, (.bin .add (.t 28) (.t 29))⟩, ⟨none, none, (.st (.t 4) 1 (.t 30))⟩]) (.goto 0)))))
def F_record_Scan_J0 : C := (.seq .skip F_record_Scan_B0)
def F_record_Scan_S0 : C := (.seq (.ops [⟨(some 4), none, (.alc [(.val (.int .i64 0))])⟩, ⟨none, none, (.st (.t 4) 1 (.c (.int .i64 0)))⟩]) (.seq (.ops [⟨(some 9), none, (.mkf 162 [(.t 1), (.t 4)])⟩, ⟨(some 5), none, (.mov (.t 9))⟩]) (.seq (.label 0) F_record_Scan_B0)))
def F_record_Scan : F := ⟨(.seq (.ops [⟨(some 1), none, (.box (.t 0))⟩, ⟨(some 2), none, (.nil 36 3 true)⟩, ⟨(some 3), none, (.nil 3 1 true)⟩]) (.scopeJ F_record_Scan_S0 0 F_record_Scan_J0)), 31, [(.tmp 2), (.tmp 3)]⟩
theorem F_record_Scan_ok : compF Try.prog (fun d => !([22, 26].contains d)) 109 = some F_record_Scan := by kernel_rfl
@[simp] abbrev n_record_Scan_1 : FuncId := 162
def F_record_Scan_1 : F := ⟨(.seq (.ops [⟨(some 2), none, (.alc [(.val (.int .i64 0)), (.val (.int .i64 0)), (.lit 1 [])])⟩, ⟨(some 3), none, (.mov (.c (.int .i64 0)))⟩, ⟨(some 4), none, (.mov (.c (.bool false)))⟩]) (.seq (.ops [⟨(some 7), none, (.ld (.t 0) none)⟩, ⟨(some 8), none, (.ld (.t 1) none)⟩, ⟨(some 9), none, (.slc (.t 7) (some (.t 8)) none none 1)⟩, ⟨(some 10), none, (.call 163 [(.t 9)])⟩, ⟨(some 6), none, (.mov (.t 10))⟩, ⟨(some 11), none, (.ext (.t 6) 0)⟩, ⟨(some 12), none, (.ext (.t 6) 1)⟩, ⟨(some 13), none, (.ext (.t 6) 2)⟩, ⟨none, none, (.st (.t 2) 3 (.t 11))⟩, ⟨(some 3), none, (.mov (.t 12))⟩, ⟨(some 5), none, (.mov (.t 13))⟩]) (.seq (.ops [⟨(some 14), none, (.ld (.t 2) (some 3))⟩, ⟨(some 15), none, (.mov (.t 3))⟩, ⟨(some 16), none, (.mov (.t 5))⟩, ⟨(some 17), none, (.bin .eql (.t 16) (.c (.int .i64 0)))⟩, ⟨none, none, (.st (.t 2) 3 (.t 14))⟩, ⟨(some 3), none, (.mov (.t 15))⟩, ⟨(some 4), none, (.mov (.t 17))⟩]) .ret))), 18, [(.cell 2 (some 3)), (.tmp 3), (.tmp 4)]⟩
theorem F_record_Scan_1_ok : compF Try.prog (fun _ => true) 162 = some F_record_Scan_1 := by kernel_rfl
@[simp] abbrev n_record_Read : FuncId := 163
def F_record_Read : F := ⟨(.seq (.ops [⟨(some 2), none, (.alc [(.val (.int .i64 0)), (.val (.int .i64 0)), (.lit 1 [])])⟩, ⟨(some 3), none, (.mov (.c (.int .i64 0)))⟩, ⟨(some 4), none, (.mov (.c (.int .i64 0)))⟩]) (.seq (.seq (.ops [⟨(some 7), none, (.mov (.t 0))⟩, ⟨(some 8), none, (.len (.t 7))⟩, ⟨(some 9), none, (.bin .lss (.t 8) (.c (.int .i64 16)))⟩]) (.cond (.t 9) (.seq (.ops [⟨(some 10), none, (.ld (.t 2) (some 3))⟩, ⟨none, none, (.st (.t 2) 3 (.t 10))⟩, ⟨(some 3), none, (.mov (.c (.int .i64 0)))⟩, ⟨(some 4), none, (.mov (.c (.int .i64 50)))⟩]) .ret) .skip)) (.seq (.ops [⟨(some 12), none, (.mov (.t 0))⟩, ⟨(some 13), none, (.slc (.t 12) none (some (.c (.int .i64 16))) none 1)⟩, ⟨(some 14), none, (.call 82 [(.c (.string ⟨#[119, 104, 104, 113]⟩)), (.t 13)])⟩, ⟨(some 11), none, (.mov (.t 14))⟩, ⟨(some 15), none, (.ext (.t 11) 0)⟩, ⟨(some 16), none, (.ext (.t 11) 1)⟩, ⟨(some 5), none, (.mov (.t 15))⟩, ⟨(some 4), none, (.mov (.t 16))⟩]) (.seq (.seq (.ops [⟨(some 17), none, (.mov (.t 4))⟩, ⟨(some 18), none, (.bin .neq (.t 17) (.c (.int .i64 0)))⟩, ⟨(some 19), none, (.mov (.t 18))⟩, ⟨(some 20), (some (19, false)), (.mov (.t 5))⟩, ⟨(some 21), (some (19, false)), (.ixs (.t 20) (.c (.int .i64 0)) 1)⟩, ⟨(some 22), (some (19, false)), (.lde (.t 21) none)⟩, ⟨(some 23), (some (19, false)), (.bin .neq (.t 22) (.c (.int .u64 1196184151)))⟩, ⟨(some 24), none, (.pick (.t 19) (.c (.bool true)) (.t 23))⟩, ⟨(some 25), none, (.mov (.t 24))⟩, ⟨(some 26), (some (25, false)), (.mov (.t 5))⟩, ⟨(some 27), (some (25, false)), (.ixs (.t 26) (.c (.int .i64 3)) 1)⟩, ⟨(some 28), (some (25, false)), (.lde (.t 27) none)⟩, ⟨(some 29), (some (25, false)), (.bin .gtr (.t 28) (.c (.int .u64 4611686018427387903)))⟩, ⟨(some 30), none, (.pick (.t 25) (.c (.bool true)) (.t 29))⟩]) (.cond (.t 30) (.seq (.ops [⟨(some 31), none, (.ld (.t 2) (some 3))⟩, ⟨none, none, (.st (.t 2) 3 (.t 31))⟩, ⟨(some 3), none, (.mov (.c (.int .i64 0)))⟩, ⟨(some 4), none, (.mov (.c (.int .i64 50)))⟩]) .ret) .skip)) (.seq (.ops [⟨(some 32), none, (.mov (.t 5))⟩, ⟨(some 33), none, (.ixs (.t 32) (.c (.int .i64 2)) 1)⟩, ⟨(some 34), none, (.lde (.t 33) none)⟩, ⟨(some 35), none, (.conv .i64 (.t 34))⟩, ⟨(some 36), none, (.call 37 [(.t 35)])⟩, ⟨(some 3), none, (.mov (.t 36))⟩]) (.seq (.seq (.ops [⟨(some 37), none, (.mov (.t 3))⟩, ⟨(some 38), none, (.bin .eql (.t 37) (.c (.int .i64 0)))⟩, ⟨(some 39), none, (.mov (.t 38))⟩, ⟨(some 40), (some (39, false)), (.mov (.t 0))⟩, ⟨(some 41), (some (39, false)), (.len (.t 40))⟩, ⟨(some 42), (some (39, false)), (.mov (.t 3))⟩, ⟨(some 43), (some (39, false)), (.bin .lss (.t 41) (.t 42))⟩, ⟨(some 44), none, (.pick (.t 39) (.c (.bool true)) (.t 43))⟩]) (.cond (.t 44) (.seq (.ops [⟨(some 45), none, (.ld (.t 2) (some 3))⟩, ⟨none, none, (.st (.t 2) 3 (.t 45))⟩, ⟨(some 3), none, (.mov (.c (.int .i64 0)))⟩, ⟨(some 4), none, (.mov (.c (.int .i64 50)))⟩]) .ret) .skip)) (.seq (.ops [⟨(some 47), none, (.mov (.t 0))⟩, ⟨(some 48), none, (.mov (.t 3))⟩, ⟨(some 49), none, (.slc (.t 47) none (some (.t 48)) none 1)⟩, ⟨(some 50), none, (.call 79 [(.t 49)])⟩, ⟨(some 46), none, (.mov (.t 50))⟩, ⟨(some 51), none, (.ext (.t 46) 0)⟩, ⟨(some 52), none, (.ext (.t 46) 1)⟩, ⟨(some 6), none, (.mov (.t 51))⟩, ⟨(some 4), none, (.mov (.t 52))⟩]) (.seq (.seq (.ops [⟨(some 53), none, (.mov (.t 4))⟩, ⟨(some 54), none, (.bin .neq (.t 53) (.c (.int .i64 0)))⟩]) (.cond (.t 54) (.seq (.ops [⟨(some 55), none, (.ld (.t 2) (some 3))⟩, ⟨none, none, (.st (.t 2) 3 (.t 55))⟩, ⟨(some 3), none, (.mov (.c (.int .i64 0)))⟩, ⟨(some 4), none, (.mov (.c (.int .i64 50)))⟩]) .ret) .skip)) (.seq (.dops false [] [⟨(some 56), none, (.mov (.t 5))⟩, ⟨(some 57), none, (.ixs (.t 56) (.c (.int .i64 1)) 1)⟩, ⟨(some 58), none, (.lde (.t 57) none)⟩, ⟨(some 59), none, (.conv .i64 (.t 58))⟩, ⟨(some 60), none, (.mov (.t 5))⟩, ⟨(some 61), none, (.ixs (.t 60) (.c (.int .i64 3)) 1)⟩, ⟨(some 62), none, (.lde (.t 61) none)⟩, ⟨(some 63), none, (.conv .i64 (.t 62))⟩, ⟨(some 64), none, (.mov (.t 6))⟩, ⟨(some 65), none, (.slc (.t 64) (some (.c (.int .i64 16))) none none 1)⟩, ⟨(some 66), none, (.call 77 [(.t 65)])⟩, ⟨(some 67), none, (.bld [(.val (.int .i64 0)), (.val (.int .i64 0)), (.lit 1 [])] [(0, (1, (.t 59))), (1, (1, (.t 63))), (2, (1, (.t 66)))])⟩, ⟨none, none, (.st (.t 2) 3 (.t 67))⟩]) (.seq (.seq (.ops [⟨(some 68), none, (.ld (.t 2) (some 3))⟩, ⟨(some 69), none, (.call 52 [(.t 68)])⟩, ⟨(some 70), none, (.bin .neq (.t 69) (.c (.int .i64 0)))⟩]) (.cond (.t 70) (.seq (.ops [⟨(some 71), none, (.bld [(.val (.int .i64 0)), (.val (.int .i64 0)), (.lit 1 [])] [])⟩, ⟨none, none, (.st (.t 2) 3 (.t 71))⟩, ⟨(some 3), none, (.mov (.c (.int .i64 0)))⟩, ⟨(some 4), none, (.mov (.c (.int .i64 50)))⟩]) .ret) .skip)) (.seq (.ops [⟨(some 72), none, (.ld (.t 2) (some 3))⟩, ⟨(some 73), none, (.mov (.t 3))⟩, ⟨none, none, (.st (.t 2) 3 (.t 72))⟩, ⟨(some 3), none, (.mov (.t 73))⟩, ⟨(some 4), none, (.mov (.c (.int .i64 0)))⟩]) .ret))))))))))), 74, [(.cell 2 (some 3)), (.tmp 3), (.tmp 4)]⟩
theorem F_record_Read_ok : compF Try.prog (fun _ => true) 163 = some F_record_Read := by kernel_rfl
@[simp] abbrev n_slices_SortStableFunc_Found : FuncId := 110
def F_slices_SortStableFunc_Found : F := ⟨(.ops [⟨(some 4), none, (.mov (.t 0))⟩, ⟨(some 5), none, (.mov (.t 0))⟩, ⟨(some 6), none, (.mem .lnr [(.t 5)])⟩, ⟨(some 7), none, (.mov (.t 1))⟩, ⟨(some 8), none, (.call 164 [(.t 4), (.t 6), (.t 7)])⟩]), 9, []⟩
theorem F_slices_SortStableFunc_Found_ok : compF Try.prog (fun d => !([2097158].contains d)) 110 = some F_slices_SortStableFunc_Found := by kernel_rfl
@[simp] abbrev n_sort0 : FuncId := 110
def F_sort0 : F := ⟨(.ops [⟨(some 4), none, (.mov (.t 0))⟩, ⟨(some 5), none, (.mov (.t 0))⟩, ⟨(some 6), none, (.len (.t 5))⟩, ⟨(some 7), none, (.mov (.t 1))⟩, ⟨(some 8), none, (.call 164 [(.t 4), (.t 6), (.t 7)])⟩]), 9, []⟩
theorem F_sort0_ok : compF Try.prog (fun _ => true) 110 = some F_sort0 := by kernel_rfl
@[simp] abbrev n_slices_stableCmpFunc_Found : FuncId := 164
def F_slices_stableCmpFunc_Found_L0 : C := (.seq (.seq (.ops [⟨(some 33), none, (.mov (.t 8))⟩, ⟨(some 34), none, (.mov (.t 1))⟩, ⟨(some 35), none, (.bin .leq (.t 33) (.t 34))⟩]) (.cond (.t 35) .skip (.exit 4))) (.block 5 (.seq (.ops [⟨(some 36), none, (.mov (.t 0))⟩, ⟨(some 37), none, (.mov (.t 7))⟩, ⟨(some 38), none, (.mov (.t 7))⟩, ⟨(some 39), none, (.mov (.t 6))⟩, ⟨(some 40), none, (.bin .add (.t 38) (.t 39))⟩, ⟨(some 41), none, (.mov (.t 8))⟩, ⟨(some 42), none, (.mov (.t 2))⟩, ⟨(some 43), none, (.call 194 [(.t 36), (.t 37), (.t 40), (.t 41), (.t 42)])⟩]) (.seq (.ops [⟨(some 44), none, (.mov (.t 8))⟩, ⟨(some 7), none, (.mov (.t 44))⟩]) (.ops [⟨(some 45), none, (.mov (.t 8))⟩, ⟨(some 46), none, (.mov (.t 6))⟩, ⟨(some 47), none, (.bin .mul (.c (.int .i64 2)) (.t 46))⟩, ⟨(some 48), none, (.bin .add (.t 45) (.t 47))⟩, ⟨(some 8), none, (.mov (.t 48))⟩])))))
def F_slices_stableCmpFunc_Found_L1 : C := (.seq (.seq (.ops [⟨(some 28), none, (.mov (.t 6))⟩, ⟨(some 29), none, (.mov (.t 1))⟩, ⟨(some 30), none, (.bin .lss (.t 28) (.t 29))⟩]) (.cond (.t 30) .skip (.exit 2))) (.block 3 (.seq (.ops [⟨(some 31), none, (.mov (.t 6))⟩, ⟨(some 32), none, (.bin .mul (.c (.int .i64 2)) (.t 31))⟩, ⟨(some 7), none, (.mov (.c (.int .i64 0)))⟩, ⟨(some 8), none, (.mov (.t 32))⟩]) (.seq (.block 4 (.loop F_slices_stableCmpFunc_Found_L0)) (.seq (.seq (.ops [⟨(some 49), none, (.mov (.t 7))⟩, ⟨(some 50), none, (.mov (.t 6))⟩, ⟨(some 51), none, (.bin .add (.t 49) (.t 50))⟩, ⟨(some 9), none, (.mov (.t 51))⟩]) (.seq (.ops [⟨(some 52), none, (.mov (.t 9))⟩, ⟨(some 53), none, (.mov (.t 1))⟩, ⟨(some 54), none, (.bin .lss (.t 52) (.t 53))⟩]) (.cond (.t 54) (.ops [⟨(some 55), none, (.mov (.t 0))⟩, ⟨(some 56), none, (.mov (.t 7))⟩, ⟨(some 57), none, (.mov (.t 9))⟩, ⟨(some 58), none, (.mov (.t 1))⟩, ⟨(some 59), none, (.mov (.t 2))⟩, ⟨(some 60), none, (.call 194 [(.t 55), (.t 56), (.t 57), (.t 58), (.t 59)])⟩]) .skip))) (.ops [⟨(some 61), none, (.mov (.t 6))⟩, ⟨(some 62), none, (.bin .mul (.t 61) (.c (.int .i64 2)))⟩, ⟨(some 6), none, (.mov (.t 62))⟩]))))))
def F_slices_stableCmpFunc_Found_L2 : C := (.seq (.seq (.ops [⟨(some 11), none, (.mov (.t 8))⟩, ⟨(some 12), none, (.mov (.t 1))⟩, ⟨(some 13), none, (.bin .leq (.t 11) (.t 12))⟩]) (.cond (.t 13) .skip (.exit 0))) (.block 1 (.seq (.ops [⟨(some 14), none, (.mov (.t 0))⟩, ⟨(some 15), none, (.mov (.t 7))⟩, ⟨(some 16), none, (.mov (.t 8))⟩, ⟨(some 17), none, (.mov (.t 2))⟩, ⟨(some 18), none, (.call 193 [(.t 14), (.t 15), (.t 16), (.t 17)])⟩]) (.seq (.ops [⟨(some 19), none, (.mov (.t 8))⟩, ⟨(some 7), none, (.mov (.t 19))⟩]) (.ops [⟨(some 20), none, (.mov (.t 8))⟩, ⟨(some 21), none, (.mov (.t 6))⟩, ⟨(some 22), none, (.bin .add (.t 20) (.t 21))⟩, ⟨(some 8), none, (.mov (.t 22))⟩])))))
def F_slices_stableCmpFunc_Found : F := ⟨(.seq (.ops [⟨(some 6), none, (.mov (.c (.int .i64 20)))⟩]) (.seq (.ops [⟨(some 10), none, (.mov (.t 6))⟩, ⟨(some 7), none, (.mov (.c (.int .i64 0)))⟩, ⟨(some 8), none, (.mov (.t 10))⟩]) (.seq (.block 0 (.loop F_slices_stableCmpFunc_Found_L2)) (.seq (.ops [⟨(some 23), none, (.mov (.t 0))⟩, ⟨(some 24), none, (.mov (.t 7))⟩, ⟨(some 25), none, (.mov (.t 1))⟩, ⟨(some 26), none, (.mov (.t 2))⟩, ⟨(some 27), none, (.call 193 [(.t 23), (.t 24), (.t 25), (.t 26)])⟩]) (.block 2 (.loop F_slices_stableCmpFunc_Found_L1)))))), 63, []⟩
theorem F_slices_stableCmpFunc_Found_ok : compF Try.prog (fun _ => true) 164 = some F_slices_stableCmpFunc_Found := by kernel_rfl
@[simp] abbrev n_slices_insertionSortCmpFunc_Found : FuncId := 193
def F_slices_insertionSortCmpFunc_Found_L0 : C := (.seq (.seq (.dops false [] [⟨(some 18), none, (.mov (.t 9))⟩, ⟨(some 19), none, (.mov (.t 1))⟩, ⟨(some 20), none, (.bin .gtr (.t 18) (.t 19))⟩, ⟨(some 21), none, (.mov (.t 20))⟩, ⟨(some 22), (some (21, true)), (.mov (.t 3))⟩, ⟨(some 23), (some (21, true)), (.mov (.t 0))⟩, ⟨(some 24), (some (21, true)), (.mov (.t 9))⟩, ⟨(some 25), (some (21, true)), (.mem (.ixr 5) [(.t 23), (.t 24)])⟩, ⟨(some 26), (some (21, true)), (.ld (.t 25) (some 5))⟩, ⟨(some 27), (some (21, true)), (.mov (.t 0))⟩, ⟨(some 28), (some (21, true)), (.mov (.t 9))⟩, ⟨(some 29), (some (21, true)), (.bin .sub (.t 28) (.c (.int .i64 1)))⟩, ⟨(some 30), (some (21, true)), (.mem (.ixr 5) [(.t 27), (.t 29)])⟩, ⟨(some 31), (some (21, true)), (.ld (.t 30) (some 5))⟩, ⟨(some 32), (some (21, true)), (.callv (.t 22) [(.t 26), (.t 31)])⟩, ⟨(some 33), (some (21, true)), (.bin .lss (.t 32) (.c (.int .i64 0)))⟩, ⟨(some 34), none, (.pick (.t 21) (.t 33) (.c (.bool false)))⟩]) (.cond (.t 34) .skip (.exit 2))) (.seq (.block 3 (.dops false [] [⟨(some 37), none, (.mov (.t 0))⟩, ⟨(some 38), none, (.mov (.t 9))⟩, ⟨(some 39), none, (.mov (.t 0))⟩, ⟨(some 40), none, (.mov (.t 9))⟩, ⟨(some 41), none, (.bin .sub (.t 40) (.c (.int .i64 1)))⟩, ⟨(some 42), none, (.mov (.t 0))⟩, ⟨(some 43), none, (.mov (.t 9))⟩, ⟨(some 44), none, (.bin .sub (.t 43) (.c (.int .i64 1)))⟩, ⟨(some 45), none, (.mem (.ixr 5) [(.t 42), (.t 44)])⟩, ⟨(some 46), none, (.ld (.t 45) (some 5))⟩, ⟨(some 47), none, (.mov (.t 0))⟩, ⟨(some 48), none, (.mov (.t 9))⟩, ⟨(some 49), none, (.mem (.ixr 5) [(.t 47), (.t 48)])⟩, ⟨(some 50), none, (.ld (.t 49) (some 5))⟩, ⟨(some 51), none, (.mem (.ixr 5) [(.t 37), (.t 38)])⟩, ⟨none, none, (.st (.t 51) 5 (.t 46))⟩, ⟨(some 52), none, (.mem (.ixr 5) [(.t 39), (.t 41)])⟩, ⟨none, none, (.st (.t 52) 5 (.t 50))⟩])) (.ops [⟨(some 35), none, (.mov (.t 9))⟩, ⟨(some 36), none, (.bin .sub (.t 35) (.c (.int .i64 1)))⟩, ⟨(some 9), none, (.mov (.t 36))⟩])))
def F_slices_insertionSortCmpFunc_Found_L1 : C := (.seq (.seq (.ops [⟨(some 12), none, (.mov (.t 8))⟩, ⟨(some 13), none, (.mov (.t 2))⟩, ⟨(some 14), none, (.bin .lss (.t 12) (.t 13))⟩]) (.cond (.t 14) .skip (.exit 0))) (.seq (.block 1 (.seq (.ops [⟨(some 17), none, (.mov (.t 8))⟩, ⟨(some 9), none, (.mov (.t 17))⟩]) (.block 2 (.loop F_slices_insertionSortCmpFunc_Found_L0)))) (.ops [⟨(some 15), none, (.mov (.t 8))⟩, ⟨(some 16), none, (.bin .add (.t 15) (.c (.int .i64 1)))⟩, ⟨(some 8), none, (.mov (.t 16))⟩])))
def F_slices_insertionSortCmpFunc_Found : F := ⟨(.seq (.ops [⟨(some 10), none, (.mov (.t 1))⟩, ⟨(some 11), none, (.bin .add (.t 10) (.c (.int .i64 1)))⟩, ⟨(some 8), none, (.mov (.t 11))⟩]) (.block 0 (.loop F_slices_insertionSortCmpFunc_Found_L1))), 53, []⟩
theorem F_slices_insertionSortCmpFunc_Found_ok : compF Try.prog (fun d => !([2097177, 2097178, 2097182, 2097183, 2097197, 2097198, 2097201, 2097202, 2097203, 2097204].contains d)) 193 = some F_slices_insertionSortCmpFunc_Found := by kernel_rfl
@[simp] abbrev n_insertion0 : FuncId := 193
def F_insertion0_L0 : C := (.seq (.seq (.dops false [] [⟨(some 18), none, (.mov (.t 9))⟩, ⟨(some 19), none, (.mov (.t 1))⟩, ⟨(some 20), none, (.bin .gtr (.t 18) (.t 19))⟩, ⟨(some 21), none, (.mov (.t 20))⟩, ⟨(some 22), (some (21, true)), (.mov (.t 3))⟩, ⟨(some 23), (some (21, true)), (.mov (.t 0))⟩, ⟨(some 24), (some (21, true)), (.mov (.t 9))⟩, ⟨(some 25), (some (21, true)), (.ixs (.t 23) (.t 24) 5)⟩, ⟨(some 26), (some (21, true)), (.lde (.t 25) (some 5))⟩, ⟨(some 27), (some (21, true)), (.mov (.t 0))⟩, ⟨(some 28), (some (21, true)), (.mov (.t 9))⟩, ⟨(some 29), (some (21, true)), (.bin .sub (.t 28) (.c (.int .i64 1)))⟩, ⟨(some 30), (some (21, true)), (.ixs (.t 27) (.t 29) 5)⟩, ⟨(some 31), (some (21, true)), (.lde (.t 30) (some 5))⟩, ⟨(some 32), (some (21, true)), (.callv (.t 22) [(.t 26), (.t 31)])⟩, ⟨(some 33), (some (21, true)), (.bin .lss (.t 32) (.c (.int .i64 0)))⟩, ⟨(some 34), none, (.pick (.t 21) (.t 33) (.c (.bool false)))⟩]) (.cond (.t 34) .skip (.exit 2))) (.seq (.block 3 (.dops false [] [⟨(some 37), none, (.mov (.t 0))⟩, ⟨(some 38), none, (.mov (.t 9))⟩, ⟨(some 39), none, (.mov (.t 0))⟩, ⟨(some 40), none, (.mov (.t 9))⟩, ⟨(some 41), none, (.bin .sub (.t 40) (.c (.int .i64 1)))⟩, ⟨(some 42), none, (.mov (.t 0))⟩, ⟨(some 43), none, (.mov (.t 9))⟩, ⟨(some 44), none, (.bin .sub (.t 43) (.c (.int .i64 1)))⟩, ⟨(some 45), none, (.ixs (.t 42) (.t 44) 5)⟩, ⟨(some 46), none, (.lde (.t 45) (some 5))⟩, ⟨(some 47), none, (.mov (.t 0))⟩, ⟨(some 48), none, (.mov (.t 9))⟩, ⟨(some 49), none, (.ixs (.t 47) (.t 48) 5)⟩, ⟨(some 50), none, (.lde (.t 49) (some 5))⟩, ⟨(some 51), none, (.ixs (.t 37) (.t 38) 5)⟩, ⟨none, none, (.st (.t 51) 5 (.t 46))⟩, ⟨(some 52), none, (.ixs (.t 39) (.t 41) 5)⟩, ⟨none, none, (.st (.t 52) 5 (.t 50))⟩])) (.ops [⟨(some 35), none, (.mov (.t 9))⟩, ⟨(some 36), none, (.bin .sub (.t 35) (.c (.int .i64 1)))⟩, ⟨(some 9), none, (.mov (.t 36))⟩])))
def F_insertion0_L1 : C := (.seq (.seq (.ops [⟨(some 12), none, (.mov (.t 8))⟩, ⟨(some 13), none, (.mov (.t 2))⟩, ⟨(some 14), none, (.bin .lss (.t 12) (.t 13))⟩]) (.cond (.t 14) .skip (.exit 0))) (.seq (.block 1 (.seq (.ops [⟨(some 17), none, (.mov (.t 8))⟩, ⟨(some 9), none, (.mov (.t 17))⟩]) (.block 2 (.loop F_insertion0_L0)))) (.ops [⟨(some 15), none, (.mov (.t 8))⟩, ⟨(some 16), none, (.bin .add (.t 15) (.c (.int .i64 1)))⟩, ⟨(some 8), none, (.mov (.t 16))⟩])))
def F_insertion0 : F := ⟨(.seq (.ops [⟨(some 10), none, (.mov (.t 1))⟩, ⟨(some 11), none, (.bin .add (.t 10) (.c (.int .i64 1)))⟩, ⟨(some 8), none, (.mov (.t 11))⟩]) (.block 0 (.loop F_insertion0_L1))), 53, []⟩
theorem F_insertion0_ok : compF Try.prog (fun _ => true) 193 = some F_insertion0 := by kernel_rfl
@[simp] abbrev n_slices_symMergeCmpFunc_Found : FuncId := 194
@[simp] abbrev n_cmp_Compare_int : FuncId := 112
def F_cmp_Compare_int : F := ⟨(.seq (.ops [⟨(some 4), none, (.mov (.c (.int .i64 0)))⟩]) (.seq (.ops [⟨(some 7), none, (.mov (.t 0))⟩, ⟨(some 8), none, (.call 165 [(.t 7)])⟩, ⟨(some 5), none, (.mov (.t 8))⟩]) (.seq (.ops [⟨(some 9), none, (.mov (.t 1))⟩, ⟨(some 10), none, (.call 165 [(.t 9)])⟩, ⟨(some 6), none, (.mov (.t 10))⟩]) (.seq (.seq (.ops [⟨(some 11), none, (.mov (.t 5))⟩]) (.cond (.t 11) (.seq (.seq (.ops [⟨(some 12), none, (.mov (.t 6))⟩]) (.cond (.t 12) (.seq (.ops [⟨(some 4), none, (.mov (.c (.int .i64 0)))⟩]) .ret) .skip)) (.seq (.ops [⟨(some 4), none, (.mov (.c (.int .i64 (-1))))⟩]) .ret)) .skip)) (.seq (.seq (.ops [⟨(some 13), none, (.mov (.t 6))⟩]) (.cond (.t 13) (.seq (.ops [⟨(some 4), none, (.mov (.c (.int .i64 1)))⟩]) .ret) .skip)) (.seq (.seq (.ops [⟨(some 14), none, (.mov (.t 0))⟩, ⟨(some 15), none, (.mov (.t 1))⟩, ⟨(some 16), none, (.bin .lss (.t 14) (.t 15))⟩]) (.cond (.t 16) (.seq (.ops [⟨(some 4), none, (.mov (.c (.int .i64 (-1))))⟩]) .ret) .skip)) (.seq (.seq (.ops [⟨(some 17), none, (.mov (.t 0))⟩, ⟨(some 18), none, (.mov (.t 1))⟩, ⟨(some 19), none, (.bin .gtr (.t 17) (.t 18))⟩]) (.cond (.t 19) (.seq (.ops [⟨(some 4), none, (.mov (.c (.int .i64 1)))⟩]) .ret) .skip)) (.seq (.ops [⟨(some 4), none, (.mov (.c (.int .i64 0)))⟩]) .ret)))))))), 20, [(.tmp 4)]⟩
theorem F_cmp_Compare_int_ok : compF Try.prog (fun _ => true) 112 = some F_cmp_Compare_int := by kernel_rfl
@[simp] abbrev n_cmp_isNaN_int : FuncId := 165
def F_cmp_isNaN_int : F := ⟨(.seq (.ops [⟨(some 2), none, (.mov (.c (.bool false)))⟩]) (.seq (.ops [⟨(some 3), none, (.mov (.t 0))⟩, ⟨(some 4), none, (.mov (.t 0))⟩, ⟨(some 5), none, (.bin .neq (.t 3) (.t 4))⟩, ⟨(some 2), none, (.mov (.t 5))⟩]) .ret)), 6, [(.tmp 2)]⟩
theorem F_cmp_isNaN_int_ok : compF Try.prog (fun _ => true) 165 = some F_cmp_isNaN_int := by kernel_rfl
@[simp] abbrev n_r06_Run : FuncId := 44
def F_r06_Run_L0 : C := (.seq (.seq (.ops [⟨(some 13), none, (.mov (.t 8))⟩, ⟨(some 14), none, (.bin .geq (.t 13) (.c (.int .i64 0)))⟩]) (.cond (.t 14) .skip (.exit 2))) (.seq (.block 3 (.seq (.ops [⟨(some 17), none, (.mov (.t 0))⟩, ⟨(some 18), none, (.mov (.t 8))⟩, ⟨(some 19), none, (.ixs (.t 17) (.t 18) 5)⟩, ⟨(some 20), none, (.fad (.t 19) 0)⟩, ⟨(some 21), none, (.fad (.t 20) 1)⟩, ⟨(some 22), none, (.lde (.t 21) none)⟩, ⟨(some 23), none, (.mov (.t 6))⟩, ⟨(some 24), none, (.bin .eql (.t 22) (.t 23))⟩]) (.cond (.t 24) (.ops [⟨(some 25), none, (.mov (.t 8))⟩, ⟨(some 7), none, (.mov (.t 25))⟩]) .skip))) (.ops [⟨(some 15), none, (.mov (.t 8))⟩, ⟨(some 16), none, (.bin .sub (.t 15) (.c (.int .i64 1)))⟩, ⟨(some 8), none, (.mov (.t 16))⟩])))
def F_r06_Run_L1 : C := (.block 1 (.seq (.ops [⟨(some 7), none, (.mov (.c (.int .i64 (-1))))⟩]) (.seq (.seq (.ops [⟨(some 10), none, (.mov (.t 0))⟩, ⟨(some 11), none, (.len (.t 10))⟩, ⟨(some 12), none, (.bin .sub (.t 11) (.c (.int .i64 1)))⟩, ⟨(some 8), none, (.mov (.t 12))⟩]) (.block 2 (.loop F_r06_Run_L0))) (.seq (.seq (.ops [⟨(some 26), none, (.mov (.t 7))⟩, ⟨(some 27), none, (.bin .lss (.t 26) (.c (.int .i64 0)))⟩]) (.cond (.t 27) (.seq (.ops [⟨(some 28), none, (.mov (.t 5))⟩, ⟨(some 4), none, (.mov (.t 28))⟩]) .ret) .skip)) (.seq (.ops [⟨(some 29), none, (.mov (.t 5))⟩, ⟨(some 30), none, (.mov (.t 0))⟩, ⟨(some 31), none, (.mov (.t 7))⟩, ⟨(some 32), none, (.ixs (.t 30) (.t 31) 5)⟩, ⟨(some 33), none, (.fad (.t 32) 0)⟩, ⟨(some 34), none, (.lde (.t 33) (some 3))⟩, ⟨(some 35), none, (.mkl 36 3 [(.t 34)] false)⟩, ⟨(some 36), none, (.app (.t 29) (.t 35) 36 3 40 true)⟩, ⟨(some 5), none, (.mov (.t 36))⟩]) (.ops [⟨(some 37), none, (.mov (.t 6))⟩, ⟨(some 38), none, (.bin .add (.t 37) (.c (.int .i64 1)))⟩, ⟨(some 6), none, (.mov (.t 38))⟩]))))))
def F_r06_Run : F := ⟨(.seq (.ops [⟨(some 4), none, (.nil 36 3 true)⟩]) (.seq (.ops [⟨(some 5), none, (.nil 36 3 true)⟩]) (.seq (.ops [⟨(some 9), none, (.mov (.t 1))⟩, ⟨(some 6), none, (.mov (.t 9))⟩]) (.block 0 (.loop F_r06_Run_L1))))), 39, [(.tmp 4)]⟩
theorem F_r06_Run_ok : compF Try.prog (fun d => !([35].contains d)) 44 = some F_r06_Run := by kernel_rfl
end Go.Av

namespace Go.Av
open Go.Proofs

@[simp] abbrev n_w06_LogKeeps : FuncId := 12
def F_w06_LogKeeps_L0 : C := (.seq (.seq (.ops [⟨(some 74), none, (.mov (.t 11))⟩, ⟨(some 75), none, (.fad (.t 2) 1)⟩, ⟨(some 76), none, (.ld (.t 75) none)⟩, ⟨(some 77), none, (.len (.t 76))⟩, ⟨(some 78), none, (.bin .lss (.t 74) (.t 77))⟩]) (.cond (.t 78) .skip (.exit 0))) (.seq (.block 1 (.seq (.ops [⟨(some 81), none, (.fad (.t 2) 1)⟩, ⟨(some 82), none, (.ld (.t 81) none)⟩, ⟨(some 83), none, (.mov (.t 11))⟩, ⟨(some 84), none, (.ixs (.t 82) (.t 83) 4)⟩, ⟨(some 85), none, (.fad (.t 84) 2)⟩, ⟨(some 86), none, (.lde (.t 85) none)⟩, ⟨(some 87), none, (.len (.t 86))⟩, ⟨(some 12), none, (.mov (.t 87))⟩]) (.seq (.dops false [] [⟨(some 88), none, (.fad (.t 7) 1)⟩, ⟨(some 89), none, (.ld (.t 88) none)⟩, ⟨(some 90), none, (.mov (.t 11))⟩, ⟨(some 91), none, (.ixs (.t 89) (.t 90) 4)⟩, ⟨(some 92), none, (.fad (.t 91) 2)⟩, ⟨(some 93), none, (.lde (.t 92) none)⟩, ⟨(some 94), none, (.len (.t 93))⟩, ⟨(some 95), none, (.mov (.t 12))⟩, ⟨(some 96), none, (.bin .lss (.t 94) (.t 95))⟩, ⟨(some 97), none, (.mov (.t 96))⟩, ⟨(some 98), (some (97, false)), (.fad (.t 7) 1)⟩, ⟨(some 99), (some (97, false)), (.ld (.t 98) none)⟩, ⟨(some 100), (some (97, false)), (.mov (.t 11))⟩, ⟨(some 101), (some (97, false)), (.ixs (.t 99) (.t 100) 4)⟩, ⟨(some 102), (some (97, false)), (.fad (.t 101) 2)⟩, ⟨(some 103), (some (97, false)), (.lde (.t 102) none)⟩, ⟨(some 104), (some (97, false)), (.mov (.t 12))⟩, ⟨(some 105), (some (97, false)), (.slc (.t 103) none (some (.t 104)) none 1)⟩, ⟨(some 106), (some (97, false)), (.b2s (.t 105))⟩, ⟨(some 107), (some (97, false)), (.fad (.t 2) 1)⟩, ⟨(some 108), (some (97, false)), (.ld (.t 107) none)⟩, ⟨(some 109), (some (97, false)), (.mov (.t 11))⟩, ⟨(some 110), (some (97, false)), (.ixs (.t 108) (.t 109) 4)⟩, ⟨(some 111), (some (97, false)), (.fad (.t 110) 2)⟩, ⟨(some 112), (some (97, false)), (.lde (.t 111) none)⟩, ⟨(some 113), (some (97, false)), (.b2s (.t 112))⟩, ⟨(some 114), (some (97, false)), (.bin .neq (.t 106) (.t 113))⟩, ⟨(some 115), none, (.pick (.t 97) (.c (.bool true)) (.t 114))⟩]) (.cond (.t 115) (.seq (.ops [⟨(some 4), none, (.mov (.c (.bool false)))⟩]) .ret) .skip)))) (.ops [⟨(some 79), none, (.mov (.t 11))⟩, ⟨(some 80), none, (.bin .add (.t 79) (.c (.int .i64 1)))⟩, ⟨(some 11), none, (.mov (.t 80))⟩])))
def F_w06_LogKeeps : F := ⟨(.seq (.ops [⟨(some 2), none, (.box (.t 0))⟩, ⟨(some 4), none, (.mov (.c (.bool false)))⟩]) (.seq (.ops [⟨(some 13), none, (.call 42 [])⟩, ⟨(some 5), none, (.mov (.t 13))⟩]) (.seq (.seq (.ops [⟨(some 14), none, (.ld (.t 2) (some 5))⟩, ⟨(some 15), none, (.call 45 [(.t 14)])⟩, ⟨(some 16), none, (.un .not (.t 15))⟩, ⟨(some 17), none, (.mov (.t 16))⟩, ⟨(some 18), (some (17, false)), (.ld (.t 2) (some 5))⟩, ⟨(some 19), (some (17, false)), (.call 46 [(.t 18)])⟩, ⟨(some 20), (some (17, false)), (.un .not (.t 19))⟩, ⟨(some 21), none, (.pick (.t 17) (.c (.bool true)) (.t 20))⟩, ⟨(some 22), none, (.mov (.t 21))⟩, ⟨(some 23), (some (22, false)), (.mov (.t 1))⟩, ⟨(some 24), (some (22, false)), (.call 47 [(.t 23)])⟩, ⟨(some 25), (some (22, false)), (.un .not (.t 24))⟩, ⟨(some 26), none, (.pick (.t 22) (.c (.bool true)) (.t 25))⟩]) (.cond (.t 26) (.seq (.ops [⟨(some 27), none, (.mov (.t 5))⟩, ⟨(some 4), none, (.mov (.t 27))⟩]) .ret) .skip)) (.seq (.ops [⟨(some 28), none, (.ld (.t 2) (some 5))⟩, ⟨(some 29), none, (.call 48 [(.t 28)])⟩, ⟨(some 6), none, (.alc [(.val (.int .i64 0)), (.lit 4 []), (.val (.int .i64 0)), (.val (.bool false)), (.val (.int .i64 0))])⟩, ⟨none, none, (.st (.t 6) 5 (.t 29))⟩]) (.seq (.ops [⟨(some 31), none, (.ld (.t 2) (some 5))⟩, ⟨(some 32), none, (.mov (.t 1))⟩, ⟨(some 33), none, (.call 19 [(.t 31), (.t 32)])⟩, ⟨(some 30), none, (.mov (.t 33))⟩, ⟨(some 34), none, (.ext (.t 30) 0)⟩, ⟨(some 35), none, (.ext (.t 30) 1)⟩, ⟨(some 36), none, (.ext (.t 30) 2)⟩, ⟨(some 7), none, (.alc [(.val (.int .i64 0)), (.lit 4 []), (.val (.int .i64 0)), (.val (.bool false)), (.val (.int .i64 0))])⟩, ⟨none, none, (.st (.t 7) 5 (.t 34))⟩, ⟨(some 8), none, (.mov (.t 35))⟩, ⟨(some 9), none, (.mov (.t 36))⟩]) (.seq (.ops [⟨(some 37), none, (.ld (.t 6) (some 5))⟩, ⟨(some 38), none, (.ld (.t 2) (some 5))⟩, ⟨(some 39), none, (.call 49 [(.t 37), (.t 38)])⟩, ⟨(some 10), none, (.mov (.t 39))⟩]) (.seq (.seq (.ops [⟨(some 40), none, (.mov (.t 10))⟩, ⟨(some 41), none, (.un .not (.t 40))⟩, ⟨(some 42), none, (.mov (.t 41))⟩, ⟨(some 43), (some (42, false)), (.ld (.t 7) (some 5))⟩, ⟨(some 44), (some (42, false)), (.call 46 [(.t 43)])⟩, ⟨(some 45), (some (42, false)), (.un .not (.t 44))⟩, ⟨(some 46), none, (.pick (.t 42) (.c (.bool true)) (.t 45))⟩, ⟨(some 47), none, (.mov (.t 46))⟩, ⟨(some 48), (some (47, false)), (.fad (.t 7) 1)⟩, ⟨(some 49), (some (47, false)), (.ld (.t 48) none)⟩, ⟨(some 50), (some (47, false)), (.len (.t 49))⟩, ⟨(some 51), (some (47, false)), (.fad (.t 2) 1)⟩, ⟨(some 52), (some (47, false)), (.ld (.t 51) none)⟩, ⟨(some 53), (some (47, false)), (.len (.t 52))⟩, ⟨(some 54), (some (47, false)), (.bin .neq (.t 50) (.t 53))⟩, ⟨(some 55), none, (.pick (.t 47) (.c (.bool true)) (.t 54))⟩, ⟨(some 56), none, (.mov (.t 55))⟩, ⟨(some 57), (some (56, false)), (.mov (.t 8))⟩, ⟨(some 58), (some (56, false)), (.len (.t 57))⟩, ⟨(some 59), (some (56, false)), (.mov (.t 1))⟩, ⟨(some 60), (some (56, false)), (.len (.t 59))⟩, ⟨(some 61), (some (56, false)), (.bin .gtr (.t 58) (.t 60))⟩, ⟨(some 62), none, (.pick (.t 56) (.c (.bool true)) (.t 61))⟩, ⟨(some 63), none, (.mov (.t 62))⟩, ⟨(some 64), (some (63, false)), (.mov (.t 9))⟩, ⟨(some 65), (some (63, false)), (.bin .eql (.t 64) (.c (.int .i64 0)))⟩, ⟨(some 66), (some (63, false)), (.mov (.t 65))⟩, ⟨(some 67), (some (66, true)), (.mov (.t 8))⟩, ⟨(some 68), (some (66, true)), (.len (.t 67))⟩, ⟨(some 69), (some (66, true)), (.mov (.t 1))⟩, ⟨(some 70), (some (66, true)), (.len (.t 69))⟩, ⟨(some 71), (some (66, true)), (.bin .neq (.t 68) (.t 70))⟩, ⟨(some 72), (some (63, false)), (.pick (.t 66) (.t 71) (.c (.bool false)))⟩, ⟨(some 73), none, (.pick (.t 63) (.c (.bool true)) (.t 72))⟩]) (.cond (.t 73) (.seq (.ops [⟨(some 4), none, (.mov (.c (.bool false)))⟩]) .ret) .skip)) (.seq (.seq (.ops [⟨(some 11), none, (.mov (.c (.int .i64 0)))⟩]) (.block 0 (.loop F_w06_LogKeeps_L0))) (.seq (.ops [⟨(some 116), none, (.mov (.t 5))⟩, ⟨(some 4), none, (.mov (.t 116))⟩]) .ret))))))))), 117, [(.tmp 4)]⟩
theorem F_w06_LogKeeps_ok : compF Try.prog (fun _ => true) 12 = some F_w06_LogKeeps := by kernel_rfl
@[simp] abbrev n_w04_Small : FuncId := 45
def F_w04_Small_L0 : C := (.seq (.seq (.ops [⟨(some 8), none, (.mov (.t 3))⟩, ⟨(some 9), none, (.fad (.t 1) 1)⟩, ⟨(some 10), none, (.ld (.t 9) none)⟩, ⟨(some 11), none, (.len (.t 10))⟩, ⟨(some 12), none, (.bin .lss (.t 8) (.t 11))⟩]) (.cond (.t 12) .skip (.exit 0))) (.seq (.block 1 (.seq (.ops [⟨(some 15), none, (.fad (.t 1) 1)⟩, ⟨(some 16), none, (.ld (.t 15) none)⟩, ⟨(some 17), none, (.mov (.t 3))⟩, ⟨(some 18), none, (.ixs (.t 16) (.t 17) 4)⟩, ⟨(some 19), none, (.fad (.t 18) 2)⟩, ⟨(some 20), none, (.lde (.t 19) none)⟩, ⟨(some 21), none, (.len (.t 20))⟩, ⟨(some 22), none, (.bin .gtr (.t 21) (.c (.int .i64 300)))⟩]) (.cond (.t 22) (.seq (.ops [⟨(some 2), none, (.mov (.c (.bool false)))⟩]) .ret) .skip))) (.ops [⟨(some 13), none, (.mov (.t 3))⟩, ⟨(some 14), none, (.bin .add (.t 13) (.c (.int .i64 1)))⟩, ⟨(some 3), none, (.mov (.t 14))⟩])))
def F_w04_Small : F := ⟨(.seq (.ops [⟨(some 1), none, (.box (.t 0))⟩, ⟨(some 2), none, (.mov (.c (.bool false)))⟩]) (.seq (.seq (.ops [⟨(some 4), none, (.fad (.t 1) 1)⟩, ⟨(some 5), none, (.ld (.t 4) none)⟩, ⟨(some 6), none, (.len (.t 5))⟩, ⟨(some 7), none, (.bin .gtr (.t 6) (.c (.int .i64 70)))⟩]) (.cond (.t 7) (.seq (.ops [⟨(some 2), none, (.mov (.c (.bool false)))⟩]) .ret) .skip)) (.seq (.seq (.ops [⟨(some 3), none, (.mov (.c (.int .i64 0)))⟩]) (.block 0 (.loop F_w04_Small_L0))) (.seq (.ops [⟨(some 2), none, (.mov (.c (.bool true)))⟩]) .ret)))), 23, [(.tmp 2)]⟩
theorem F_w04_Small_ok : compF Try.prog (fun _ => true) 45 = some F_w04_Small := by kernel_rfl
@[simp] abbrev n_w06k_bodies : FuncId := 47
def F_w06k_bodies_L0 : C := (.seq (.seq (.ops [⟨(some 7), none, (.mov (.t 3))⟩, ⟨(some 8), none, (.mov (.t 0))⟩, ⟨(some 9), none, (.len (.t 8))⟩, ⟨(some 10), none, (.bin .lss (.t 7) (.t 9))⟩]) (.cond (.t 10) .skip (.exit 0))) (.seq (.block 1 (.seq (.ops [⟨(some 13), none, (.mov (.t 0))⟩, ⟨(some 14), none, (.mov (.t 3))⟩, ⟨(some 15), none, (.ixs (.t 13) (.t 14) 3)⟩, ⟨(some 16), none, (.fad (.t 15) 2)⟩, ⟨(some 17), none, (.lde (.t 16) none)⟩, ⟨(some 18), none, (.len (.t 17))⟩, ⟨(some 19), none, (.bin .gtr (.t 18) (.c (.int .i64 300)))⟩]) (.cond (.t 19) (.seq (.ops [⟨(some 2), none, (.mov (.c (.bool false)))⟩]) .ret) .skip))) (.ops [⟨(some 11), none, (.mov (.t 3))⟩, ⟨(some 12), none, (.bin .add (.t 11) (.c (.int .i64 1)))⟩, ⟨(some 3), none, (.mov (.t 12))⟩])))
def F_w06k_bodies : F := ⟨(.seq (.ops [⟨(some 2), none, (.mov (.c (.bool false)))⟩]) (.seq (.seq (.ops [⟨(some 4), none, (.mov (.t 0))⟩, ⟨(some 5), none, (.len (.t 4))⟩, ⟨(some 6), none, (.bin .gtr (.t 5) (.c (.int .i64 20)))⟩]) (.cond (.t 6) (.seq (.ops [⟨(some 2), none, (.mov (.c (.bool false)))⟩]) .ret) .skip)) (.seq (.seq (.ops [⟨(some 3), none, (.mov (.c (.int .i64 0)))⟩]) (.block 0 (.loop F_w06k_bodies_L0))) (.seq (.ops [⟨(some 2), none, (.mov (.c (.bool true)))⟩]) .ret)))), 20, [(.tmp 2)]⟩
theorem F_w06k_bodies_ok : compF Try.prog (fun _ => true) 47 = some F_w06k_bodies := by kernel_rfl
@[simp] abbrev n_r04_Copy : FuncId := 48
def F_r04_Copy_L0 : C := (.seq (.seq (.ops [⟨(some 14), none, (.mov (.t 4))⟩, ⟨(some 15), none, (.fad (.t 1) 1)⟩, ⟨(some 16), none, (.ld (.t 15) none)⟩, ⟨(some 17), none, (.len (.t 16))⟩, ⟨(some 18), none, (.bin .lss (.t 14) (.t 17))⟩]) (.cond (.t 18) .skip (.exit 0))) (.seq (.block 1 (.dops false [] [⟨(some 21), none, (.fad (.t 3) 1)⟩, ⟨(some 22), none, (.ld (.t 21) none)⟩, ⟨(some 23), none, (.fad (.t 1) 1)⟩, ⟨(some 24), none, (.ld (.t 23) none)⟩, ⟨(some 25), none, (.mov (.t 4))⟩, ⟨(some 26), none, (.ixs (.t 24) (.t 25) 4)⟩, ⟨(some 27), none, (.lde (.t 26) (some 4))⟩, ⟨(some 28), none, (.callq 104 [(.t 27)])⟩, ⟨(some 29), none, (.mkl 85 4 [(.t 28)] false)⟩, ⟨(some 30), none, (.app (.t 22) (.t 29) 85 4 48 true)⟩, ⟨(some 31), none, (.fad (.t 3) 1)⟩, ⟨none, none, (.st (.t 31) 1 (.t 30))⟩])) (.ops [⟨(some 19), none, (.mov (.t 4))⟩, ⟨(some 20), none, (.bin .add (.t 19) (.c (.int .i64 1)))⟩, ⟨(some 4), none, (.mov (.t 20))⟩])))
def F_r04_Copy : F := ⟨(.seq (.ops [⟨(some 1), none, (.box (.t 0))⟩, ⟨(some 2), none, (.alc [(.val (.int .i64 0)), (.lit 4 []), (.val (.int .i64 0)), (.val (.bool false)), (.val (.int .i64 0))])⟩]) (.seq (.ops [⟨(some 5), none, (.fad (.t 1) 0)⟩, ⟨(some 6), none, (.ld (.t 5) none)⟩, ⟨(some 7), none, (.fad (.t 1) 2)⟩, ⟨(some 8), none, (.ld (.t 7) none)⟩, ⟨(some 9), none, (.fad (.t 1) 3)⟩, ⟨(some 10), none, (.ld (.t 9) none)⟩, ⟨(some 11), none, (.fad (.t 1) 4)⟩, ⟨(some 12), none, (.ld (.t 11) none)⟩, ⟨(some 13), none, (.bld [(.val (.int .i64 0)), (.val (.slice none 0 0)), (.val (.int .i64 0)), (.val (.bool false)), (.val (.int .i64 0))] [(0, (1, (.t 6))), (2, (1, (.t 8))), (3, (1, (.t 10))), (4, (1, (.t 12)))])⟩, ⟨(some 3), none, (.alc [(.val (.int .i64 0)), (.val (.slice none 0 0)), (.val (.int .i64 0)), (.val (.bool false)), (.val (.int .i64 0))])⟩, ⟨none, none, (.st (.t 3) 5 (.t 13))⟩]) (.seq (.seq (.ops [⟨(some 4), none, (.mov (.c (.int .i64 0)))⟩]) (.block 0 (.loop F_r04_Copy_L0))) (.seq (.ops [⟨(some 32), none, (.ld (.t 3) (some 5))⟩, ⟨none, none, (.st (.t 2) 5 (.t 32))⟩]) .ret)))), 33, [(.cell 2 (some 5))]⟩
theorem F_r04_Copy_ok : compF Try.prog (fun d => !([29, 2097155, 2097165].contains d)) 48 = some F_r04_Copy := by kernel_rfl
@[simp] abbrev n_r04_Same : FuncId := 49
def F_r04_Same_L0 : C := (.seq (.seq (.ops [⟨(some 42), none, (.mov (.t 5))⟩, ⟨(some 43), none, (.fad (.t 2) 1)⟩, ⟨(some 44), none, (.ld (.t 43) none)⟩, ⟨(some 45), none, (.len (.t 44))⟩, ⟨(some 46), none, (.bin .lss (.t 42) (.t 45))⟩]) (.cond (.t 46) .skip (.exit 0))) (.seq (.block 1 (.seq (.dops false [] [⟨(some 49), none, (.fad (.t 2) 1)⟩, ⟨(some 50), none, (.ld (.t 49) none)⟩, ⟨(some 51), none, (.mov (.t 5))⟩, ⟨(some 52), none, (.ixs (.t 50) (.t 51) 4)⟩, ⟨(some 53), none, (.lde (.t 52) (some 4))⟩, ⟨(some 54), none, (.fad (.t 3) 1)⟩, ⟨(some 55), none, (.ld (.t 54) none)⟩, ⟨(some 56), none, (.mov (.t 5))⟩, ⟨(some 57), none, (.ixs (.t 55) (.t 56) 4)⟩, ⟨(some 58), none, (.lde (.t 57) (some 4))⟩, ⟨(some 59), none, (.call 105 [(.t 53), (.t 58)])⟩, ⟨(some 6), none, (.mov (.t 59))⟩]) (.seq (.ops [⟨(some 60), none, (.mov (.t 6))⟩, ⟨(some 61), none, (.un .not (.t 60))⟩]) (.cond (.t 61) (.seq (.ops [⟨(some 4), none, (.mov (.c (.bool false)))⟩]) .ret) .skip)))) (.ops [⟨(some 47), none, (.mov (.t 5))⟩, ⟨(some 48), none, (.bin .add (.t 47) (.c (.int .i64 1)))⟩, ⟨(some 5), none, (.mov (.t 48))⟩])))
def F_r04_Same : F := ⟨(.seq (.ops [⟨(some 2), none, (.box (.t 0))⟩, ⟨(some 3), none, (.box (.t 1))⟩, ⟨(some 4), none, (.mov (.c (.bool false)))⟩]) (.seq (.seq (.ops [⟨(some 7), none, (.fad (.t 2) 0)⟩, ⟨(some 8), none, (.ld (.t 7) none)⟩, ⟨(some 9), none, (.fad (.t 3) 0)⟩, ⟨(some 10), none, (.ld (.t 9) none)⟩, ⟨(some 11), none, (.bin .neq (.t 8) (.t 10))⟩, ⟨(some 12), none, (.mov (.t 11))⟩, ⟨(some 13), (some (12, false)), (.fad (.t 2) 1)⟩, ⟨(some 14), (some (12, false)), (.ld (.t 13) none)⟩, ⟨(some 15), (some (12, false)), (.len (.t 14))⟩, ⟨(some 16), (some (12, false)), (.fad (.t 3) 1)⟩, ⟨(some 17), (some (12, false)), (.ld (.t 16) none)⟩, ⟨(some 18), (some (12, false)), (.len (.t 17))⟩, ⟨(some 19), (some (12, false)), (.bin .neq (.t 15) (.t 18))⟩, ⟨(some 20), none, (.pick (.t 12) (.c (.bool true)) (.t 19))⟩, ⟨(some 21), none, (.mov (.t 20))⟩, ⟨(some 22), (some (21, false)), (.fad (.t 2) 3)⟩, ⟨(some 23), (some (21, false)), (.ld (.t 22) none)⟩, ⟨(some 24), (some (21, false)), (.fad (.t 3) 3)⟩, ⟨(some 25), (some (21, false)), (.ld (.t 24) none)⟩, ⟨(some 26), (some (21, false)), (.beq true (.t 23) (.t 25))⟩, ⟨(some 27), none, (.pick (.t 21) (.c (.bool true)) (.t 26))⟩, ⟨(some 28), none, (.mov (.t 27))⟩, ⟨(some 29), (some (28, false)), (.fad (.t 2) 2)⟩, ⟨(some 30), (some (28, false)), (.ld (.t 29) none)⟩, ⟨(some 31), (some (28, false)), (.fad (.t 3) 2)⟩, ⟨(some 32), (some (28, false)), (.ld (.t 31) none)⟩, ⟨(some 33), (some (28, false)), (.bin .neq (.t 30) (.t 32))⟩, ⟨(some 34), none, (.pick (.t 28) (.c (.bool true)) (.t 33))⟩, ⟨(some 35), none, (.mov (.t 34))⟩, ⟨(some 36), (some (35, false)), (.fad (.t 2) 4)⟩, ⟨(some 37), (some (35, false)), (.ld (.t 36) none)⟩, ⟨(some 38), (some (35, false)), (.fad (.t 3) 4)⟩, ⟨(some 39), (some (35, false)), (.ld (.t 38) none)⟩, ⟨(some 40), (some (35, false)), (.bin .neq (.t 37) (.t 39))⟩, ⟨(some 41), none, (.pick (.t 35) (.c (.bool true)) (.t 40))⟩]) (.cond (.t 41) (.seq (.ops [⟨(some 4), none, (.mov (.c (.bool false)))⟩]) .ret) .skip)) (.seq (.seq (.ops [⟨(some 5), none, (.mov (.c (.int .i64 0)))⟩]) (.block 0 (.loop F_r04_Same_L0))) (.seq (.ops [⟨(some 4), none, (.mov (.c (.bool true)))⟩]) .ret)))), 62, [(.tmp 4)]⟩
theorem F_r04_Same_ok : compF Try.prog (fun _ => true) 49 = some F_r04_Same := by kernel_rfl
@[simp] abbrev n_r03_Copy : FuncId := 104
def F_r03_Copy : F := ⟨(.seq (.ops [⟨(some 1), none, (.box (.t 0))⟩, ⟨(some 2), none, (.alc [(.val (.int .i64 0)), (.val (.int .i64 0)), (.lit 1 []), (.val (.int .i64 0))])⟩]) (.seq (.dops false [] [⟨(some 3), none, (.fad (.t 1) 0)⟩, ⟨(some 4), none, (.ld (.t 3) none)⟩, ⟨(some 5), none, (.fad (.t 1) 1)⟩, ⟨(some 6), none, (.ld (.t 5) none)⟩, ⟨(some 8), none, (.fad (.t 1) 2)⟩, ⟨(some 9), none, (.ld (.t 8) none)⟩, ⟨(some 11), none, (.fad (.t 1) 3)⟩, ⟨(some 12), none, (.ld (.t 11) none)⟩, ⟨(some 7), none, (.mkl 5 1 [] true)⟩, ⟨(some 10), none, (.app (.t 7) (.t 9) 5 1 1 true)⟩, ⟨(some 13), none, (.bld [(.val (.int .i64 0)), (.val (.int .i64 0)), (.lit 1 []), (.val (.int .i64 0))] [(0, (1, (.t 4))), (1, (1, (.t 6))), (2, (1, (.t 10))), (3, (1, (.t 12)))])⟩, ⟨none, none, (.st (.t 2) 4 (.t 13))⟩]) .ret)), 14, [(.cell 2 (some 4))]⟩
theorem F_r03_Copy_ok : compF Try.prog (fun _ => true) 104 = some F_r03_Copy := by kernel_rfl
@[simp] abbrev n_r03_Same : FuncId := 105
def F_r03_Same : F := ⟨(.seq (.ops [⟨(some 2), none, (.box (.t 0))⟩, ⟨(some 3), none, (.box (.t 1))⟩, ⟨(some 4), none, (.mov (.c (.bool false)))⟩]) (.seq (.ops [⟨(some 5), none, (.fad (.t 2) 0)⟩, ⟨(some 6), none, (.ld (.t 5) none)⟩, ⟨(some 7), none, (.fad (.t 3) 0)⟩, ⟨(some 8), none, (.ld (.t 7) none)⟩, ⟨(some 9), none, (.bin .eql (.t 6) (.t 8))⟩, ⟨(some 10), none, (.mov (.t 9))⟩, ⟨(some 11), (some (10, true)), (.fad (.t 2) 1)⟩, ⟨(some 12), (some (10, true)), (.ld (.t 11) none)⟩, ⟨(some 13), (some (10, true)), (.fad (.t 3) 1)⟩, ⟨(some 14), (some (10, true)), (.ld (.t 13) none)⟩, ⟨(some 15), (some (10, true)), (.bin .eql (.t 12) (.t 14))⟩, ⟨(some 16), none, (.pick (.t 10) (.t 15) (.c (.bool false)))⟩, ⟨(some 17), none, (.mov (.t 16))⟩, ⟨(some 18), (some (17, true)), (.fad (.t 2) 2)⟩, ⟨(some 19), (some (17, true)), (.ld (.t 18) none)⟩, ⟨(some 20), (some (17, true)), (.b2s (.t 19))⟩, ⟨(some 21), (some (17, true)), (.fad (.t 3) 2)⟩, ⟨(some 22), (some (17, true)), (.ld (.t 21) none)⟩, ⟨(some 23), (some (17, true)), (.b2s (.t 22))⟩, ⟨(some 24), (some (17, true)), (.bin .eql (.t 20) (.t 23))⟩, ⟨(some 25), none, (.pick (.t 17) (.t 24) (.c (.bool false)))⟩, ⟨(some 26), none, (.mov (.t 25))⟩, ⟨(some 27), (some (26, true)), (.fad (.t 2) 3)⟩, ⟨(some 28), (some (26, true)), (.ld (.t 27) none)⟩, ⟨(some 29), (some (26, true)), (.fad (.t 3) 3)⟩, ⟨(some 30), (some (26, true)), (.ld (.t 29) none)⟩, ⟨(some 31), (some (26, true)), (.bin .eql (.t 28) (.t 30))⟩, ⟨(some 32), none, (.pick (.t 26) (.t 31) (.c (.bool false)))⟩, ⟨(some 4), none, (.mov (.t 32))⟩]) .ret)), 33, [(.tmp 4)]⟩
theorem F_r03_Same_ok : compF Try.prog (fun _ => true) 105 = some F_r03_Same := by kernel_rfl
end Go.Av
