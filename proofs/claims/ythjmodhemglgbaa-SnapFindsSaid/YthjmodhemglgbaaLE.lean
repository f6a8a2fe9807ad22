/-
  SnG: Contracts of package crc, and of the reference of chapter 2.
  PlB: Extents: no Go here.
  SnH: Contracts of package extent, and of the reference of chapter 7.
  SnI: Contracts of package extent, and of the reference of chapter 7: bytes.
  AvY: Contracts on the memory that is there.
  SnJ: Contracts of package extent, and of the reference of chapter 7: what bytes are.
  SnK: What bytes are, by the reference of chapter 7.
  SnQ: Numbers and compact codes of functions.
  SnL: Contracts of package extmap, and of the reference of chapter 8: which maps may be.
  SnM: Contracts of package state, first part.
  SnS: Contracts of package state, second part: kept.
  PlD: States: no Go here.
  SnT: Contracts of package state, third part: Check, New.
  SnU: Contracts: state.New; likeness of states, of records.
-/
import Derived.Test.YthjmodhemglgbaaLD
import Derived.Test.YthjmodhemglgbaaRows
set_option linter.unusedSimpArgs false
set_option linter.unusedVariables false

namespace Go.Av
open Enc (enc dec)
open Cel (cs dc)
open Go.Proofs Pl

theorem xor32 {a b : Nat} (ha : a < 2 ^ 32) (hb : b < 2 ^ 32) : bitXor .u32 (a : Int) (b : Int) = ((a ^^^ b : Nat) : Int) := by
  unfold bitXor
  have e : (BitVec.ofInt 32 (a : Int) ^^^ BitVec.ofInt 32 (b : Int)).toNat = a ^^^ b := by
    rw [BitVec.ofInt_natCast, BitVec.ofInt_natCast, BitVec.toNat_xor, BitVec.toNat_ofNat, BitVec.toNat_ofNat, Nat.mod_eq_of_lt ha, Nat.mod_eq_of_lt hb]
  show IntKind.u32.wrap (((BitVec.ofInt 32 (a : Int) ^^^ BitVec.ofInt 32 (b : Int)).toNat : Nat) : Int) = _
  have := Nat.xor_lt_two_pow ha hb
  rw [e, IntWalk.u32_in _ (by omega)]
theorem and15 {a : Nat} (ha : a < 2 ^ 32) : bitAnd .u32 (a : Int) 15 = ((a % 16 : Nat) : Int) := by
  unfold bitAnd
  have e : (BitVec.ofInt 32 (a : Int) &&& BitVec.ofInt 32 (15 : Int)).toNat = a % 16 := by
    rw [BitVec.ofInt_natCast, show BitVec.ofInt 32 (15 : Int) = BitVec.ofNat 32 15 from rfl, BitVec.toNat_and, BitVec.toNat_ofNat, BitVec.toNat_ofNat, Nat.mod_eq_of_lt ha]
    exact Nat.and_two_pow_sub_one_eq_mod a 4
  show IntKind.u32.wrap (((BitVec.ofInt 32 (a : Int) &&& BitVec.ofInt 32 (15 : Int)).toNat : Nat) : Int) = _
  rw [e, IntWalk.u32_in _ (by omega)]
def u32V (n : Nat) : V := .val (.int .u32 n)
theorem c_bytes_Equal (a b : List UInt8) : Pure Try.prog n_bytes_Equal [enc a, enc b] (enc (a == b)) [] := by
  refine Pure.ofC OOk.nil hm F_bytes_Equal_ok (by simp [F_bytes_Equal]) rfl ?_
  simp [F_bytes_Equal]
theorem c_halves : Pure Try.prog n_crc_halves [] (.agg (tabL.map u32V)) [] := by
  refine Pure.ofC OOk.nil hm F_crc_halves_ok (by simp [F_crc_halves]) rfl ?_
  simp [F_crc_halves, tabL, u32V]
@[simp] def sp_halves : Option (V × List Tip) := some (.agg (tabL.map u32V), [])
def D6 : Orc := Orc.nil.add n_crc_halves (sp0 sp_halves)
theorem D6_ok : OOk Try.prog D6 := OOk.nil.add (sp0_ok fun r h => by cases h; exact c_halves)
def MoreI (sum : Nat) (l : List UInt8) (k : Nat) (s : Nat → V) (m : Mem) : Prop :=
  ∃ i : Nat, i + k = l.length ∧ s 0 = u32V (crcF sum (l.take i)) ∧ s 5 = .ptr 0 0 ∧ s 11 = .lit 1 (l.map cs) ∧ s 12 = .val (.int .i64 l.length) ∧ s 13 = .val (.int .i64 i) ∧ m = ⟨[tabL.map u32V], []⟩
theorem tab_get (n : Nat) : (tabL.map u32V)[n % 16]? = some (u32V (tabN n)) := by
  have : n % 16 < tabL.length := by show n % 16 < 16; omega
  rw [List.getElem?_map, List.getElem?_eq_getElem this]
  simp [tabN, List.getD_eq_getElem?_getD, List.getElem?_eq_getElem this]
theorem tab_lt (n : Nat) : tabN n < 2 ^ 32 := by
  have ht : ∀ r : _root_.Fin 16, tabL.getD r.val 0 < 2 ^ 32 := by decide
  exact ht ⟨n % 16, by omega⟩
theorem c_crc_More (sum : Nat) (l : List UInt8) (hs : sum < 2 ^ 32) (hl : l.length ≤ 2 ^ 40) : Pure Try.prog n_crc_More [u32V sum, enc l] (u32V (crcN sum l)) [] := by
  refine Pure.ofC D6_ok hm F_crc_More_ok (by simp [F_crc_More]) rfl ?_
  have hx := xor32 hs (show 4294967295 < 2 ^ 32 by decide)
  have hx' : bitXor .u32 (sum : Int) 4294967295 = ((sum ^^^ 4294967295 : Nat) : Int) := hx
  have hlt := Nat.xor_lt_two_pow hs (show 4294967295 < 2 ^ 32 by decide)
  have htl : (tabL.map u32V).length = 16 := rfl
  simp [F_crc_More, u32V, hx', D6]
  refine ⟨by rfl, ?_⟩
  refine wp_loop (MoreI (sum ^^^ 4294967295) l) l.length (IW.of ⟨0, Nat.zero_add _, by simp [u32V, crcF], by simp, by simp, by simp, by simp, by simp⟩) fun k s m ⟨i, hik, h0, h5, h11, h12, h13, hm⟩ => ?_
  subst hm
  have hc := crcF_lt (l.take i) hlt
  by_cases hi : i < l.length
  · have hg : l[i]? = some l[i] := List.getElem?_eq_getElem hi
    have hb := l[i].toNat_lt
    have hobj : isObj (tabL.map u32V) = false := rfl
    have w1 : IntKind.u32.wrap (l[i].toNat : Int) = l[i].toNat := IntWalk.u32_in _ (by omega)
    have x1 := xor32 hc (show l[i].toNat < 2 ^ 32 by omega)
    have hn1 := Nat.xor_lt_two_pow hc (show l[i].toNat < 2 ^ 32 by omega)
    have hd : ∀ n : Nat, (n : Int).fdiv (2 ^ min 4 IntKind.u32.bits) = ((n / 16 : Nat) : Int) := fun n => by
      rw [show min 4 IntKind.u32.bits = 4 from rfl, shr_eq]
    have hm16 : ∀ n : Nat, ((n % 16 : Nat) : Int) < 16 := fun n => by omega
    have a1 := and15 hn1
    have x2 := xor32 (show (crcF (sum ^^^ 4294967295) (l.take i) ^^^ l[i].toNat) / 16 < 2 ^ 32 by omega) (tab_lt (crcF (sum ^^^ 4294967295) (l.take i) ^^^ l[i].toNat))
    rw [← step4_tab] at x2
    have hn2 := step4_lt hn1
    have a2 := and15 hn2
    have x3 := xor32 (show step4 (crcF (sum ^^^ 4294967295) (l.take i) ^^^ l[i].toNat) / 16 < 2 ^ 32 by omega) (tab_lt (step4 (crcF (sum ^^^ 4294967295) (l.take i) ^^^ l[i].toNat)))
    rw [← step4_tab] at x3
    simp only [u32V] at h0
    have tg := tab_get
    simp only [u32V] at tg hobj
    simp [F_crc_More_L0, h0, h5, h11, h12, h13, hg, hi, hobj, w1, x1, hd, a1, x2, a2, x3, hm16, u32V, tg, -Int.natCast_emod, -Int.natCast_ediv, -List.getElem?_map]
    refine ⟨k - 1, by omega, IW.of (show MoreI (sum ^^^ 4294967295) l _ _ _ from ⟨i + 1, by omega, ?_, by simpa using h5, by simpa using h11, by simpa using h12, ?_, rfl⟩)⟩
    · have e1 : l.take (i + 1) = l.take i ++ [l[i]] := by rw [List.take_add_one, hg]; rfl
      have e2 : crcF (sum ^^^ 4294967295) (l.take (i + 1)) = crcB (crcF (sum ^^^ 4294967295) (l.take i)) l[i] := by rw [e1, crcF_append]; rfl
      rw [e2]
      simp [u32V, crcB]
    · simp; rw [IntWalk.i64_in _ (by omega)]
  · have hil : i = l.length := by omega
    have ht : l.take i = l := by rw [hil, List.take_length]
    rw [ht] at h0 hc
    have hx2 : bitXor .u32 ((crcF (sum ^^^ 4294967295) l : Nat) : Int) 4294967295 = ((crcN sum l : Nat) : Int) := xor32 hc (show 4294967295 < 2 ^ 32 by decide)
    simp only [u32V] at h0
    simp [F_crc_More_L0, h0, h12, h13, hi, hx2]

@[simp] def sp_More (s : UInt32) (l : List UInt8) : Option (V × List Tip) := if l.length ≤ 2 ^ 40 then some (u32V (crcN s.toNat l), []) else none
def D7 : Orc := Orc.nil.add n_crc_More (sp2 sp_More)
theorem D7_ok : OOk Try.prog D7 := OOk.nil.add (sp2_ok fun s l r h => by
  simp only [sp_More] at h
  split at h <;> cases h
  exact c_crc_More s.toNat l s.toNat_lt (by assumption))
theorem c_crc_Sum (l : List UInt8) (hl : l.length ≤ 2 ^ 40) : Pure Try.prog n_crc_Sum [enc l] (u32V (crcN 0 l)) [] := by
  refine Pure.ofC D7_ok hm F_crc_Sum_ok (by simp [F_crc_Sum]) rfl ?_
  simp [F_crc_Sum, D7, u32V]
  omega
@[simp] def sp_Sum (l : List UInt8) : Option (V × List Tip) := if l.length ≤ 2 ^ 40 then some (u32V (crcN 0 l), []) else none
/-- A text with its sum behind. -/
def sealS (l : List UInt8) : List UInt8 := l ++ leB (crcN 0 l) 4
theorem put4 (l b : List UInt8) : bytesPut b (crcN 0 l) 4 = b ++ leB (crcN 0 l) 4 ∧ errPut (crcN 0 l) 4 = 0 := by
  have h := crcN_lt (sum := 0) (by decide) l
  have : mayB (crcN 0 l) 4 = true := by simp [mayB]; exact h
  simp [bytesPut, errPut, this]
def D8 : Orc := (Orc.nil.add n_crc_Sum (sp1 sp_Sum)).add n_le_Put (sp3 sp_Put)
theorem D8_ok : OOk Try.prog D8 := by
  refine (OOk.nil.add (sp1_ok fun l r h => ?_)).add (sp3_ok fun b v w r h => ?_)
  · simp only [sp_Sum] at h
    split at h <;> cases h
    exact c_crc_Sum l (by assumption)
  · simp only [sp_Put] at h
    split at h <;> cases h
    exact c_le_Put b v w (by assumption)
theorem u64_32 {n : Nat} (h : n < 2 ^ 32) : IntKind.u64.wrap (n : Int) = n := IntWalk.u64_in _ (by omega)
theorem c_crc_Seal (l : List UInt8) (hl : l.length ≤ 2 ^ 40) : Pure Try.prog n_crc_Seal [enc l] (.row 0 1 ((sealS l).map cs)) [(5, 1, (sealS l).length)] := by
  refine Pure.ofR D8_ok hm F_crc_Seal_ok (by simp [F_crc_Seal]) (by simp [V.res, V.res1]) ?_
  have h := u64_32 (crcN_lt (sum := 0) (by decide) l)
  have h4 := put4 l l
  simp [F_crc_Seal, D8, u32V, h, h4.1, h4.2, sealS]
  omega
@[simp] def sp_Seal (l : List UInt8) : Option (V × List Tip) := if l.length ≤ 2 ^ 40 then some (.row 0 1 ((sealS l).map cs), [(5, 1, (sealS l).length)]) else none
@[simp] def sp_Equal (a b : List UInt8) : Option (V × List Tip) := some (enc (a == b), [])
def D9 : Orc := (Orc.nil.add n_crc_Seal (sp1 sp_Seal)).add n_bytes_Equal (sp2 sp_Equal)
theorem D9_ok : OOk Try.prog D9 := by
  refine (OOk.nil.add (sp1_ok fun l r h => ?_)).add (sp2_ok fun a b r h => ?_)
  · simp only [sp_Seal] at h
    split at h <;> cases h
    exact c_crc_Seal l (by assumption)
  · cases h; exact c_bytes_Equal a b
/-- The text of one. -/
def openOk (b : List UInt8) : Bool := decide (4 ≤ b.length) && (sealS (b.take (b.length - 4)) == b)
def openT (b : List UInt8) : List UInt8 := if openOk b = true then b.take (b.length - 4) else []
def openE (b : List UInt8) : Int := if openOk b = true then 0 else 20
theorem c_crc_Open (b : List UInt8) (hb : b.length ≤ 2 ^ 40) : Pure Try.prog n_crc_Open [enc b] (.tuple [.row 0 1 ((openT b).map cs), enc (openE b)]) [(5, 1, (openT b).length)] := by
  refine Pure.ofR D9_ok hm F_crc_Open_ok (by simp [F_crc_Open]) (by simp [V.res, V.res1]) ?_
  have hw : IntKind.i64.wrap ((b.length : Int) - 4) = (b.length : Int) - 4 := IntWalk.i64_in _ (by omega)
  by_cases h4 : 4 ≤ b.length
  · have hn : (4 : Int) ≤ b.length := by omega
    have h0 : (0 : Int) ≤ (b.length : Int) - 4 := by omega
    have hs : ((b.length : Int) - 4).toNat = b.length - 4 := by omega
    have hle : (b.length : Int) - 4 ≤ b.length := by omega
    have hb2 : b.length ≤ 1099511627780 := by omega
    have hb3 : b.length ≤ 140737488355332 := by omega
    cases he : (sealS (b.take (b.length - 4)) == b) with
    | true =>
      have he' : sealS (b.take (b.length - 4)) = b := by simpa using he
      simp [F_crc_Open, D9, hw, hn, hs, hle, he', hb2, hb3, openT, openE, openOk, h4]
    | false =>
      have he' : ¬ sealS (b.take (b.length - 4)) = b := by simpa using he
      simp [F_crc_Open, D9, hw, hn, hs, hle, he', hb2, openT, openE, openOk, h4]
  · have hn : ¬ ((4 : Int) ≤ b.length) := by omega
    simp [F_crc_Open, D9, hw, hn, openT, openE, openOk, h4]

-- The reference of chapter 2.
theorem c_r02_step (n : Nat) (h : n < 2 ^ 32) : Pure Try.prog n_r02_step [u32V n] (u32V (stepN n)) [] := by
  refine Pure.ofC OOk.nil hm F_r02_step_ok (by simp [F_r02_step]) rfl ?_
  have hq : IntKind.u32.wrap ((n : Int) / 2) = ((n / 2 : Nat) : Int) := by rw [IntWalk.u32_in _ (by omega)]; omega
  have hr : (n : Int).tmod 2 = ((n % 2 : Nat) : Int) := by rw [Int.tmod_eq_emod_of_nonneg (by omega)]; omega
  have hx : bitXor .u32 ((n / 2 : Nat) : Int) 2197175160 = ((n / 2 ^^^ poly : Nat) : Int) := xor32 (show n / 2 < 2 ^ 32 by omega) (show poly < 2 ^ 32 by decide)
  by_cases h1 : n % 2 = 1
  · simp [F_r02_step, u32V, hq, hr, hx, h1, stepN, -Int.natCast_emod, -Int.natCast_ediv]
  · have h1' : ¬ (((n % 2 : Nat) : Int) = 1) := by omega
    simp [F_r02_step, u32V, hq, hr, h1', h1, stepN, -Int.natCast_emod, -Int.natCast_ediv]
@[simp] def sp_step (n : UInt32) : Option (V × List Tip) := some (u32V (stepN n.toNat), [])
def D10 : Orc := Orc.nil.add n_r02_step (sp1 sp_step)
theorem D10_ok : OOk Try.prog D10 := OOk.nil.add (sp1_ok fun n r h => by cases h; exact c_r02_step n.toNat n.toNat_lt)
def stepK : Nat → Nat → Nat
  | 0, n => n
  | k + 1, n => stepK k (stepN n)
theorem stepK_lt : ∀ (k : Nat) {n : Nat}, n < 2 ^ 32 → stepK k n < 2 ^ 32
  | 0, _, h => h
  | k + 1, _, h => stepK_lt k (stepN_lt h)
theorem stepK_succ : ∀ (k n : Nat), stepK (k + 1) n = stepN (stepK k n)
  | 0, _ => rfl
  | k + 1, n => by rw [stepK, stepK_succ k]; rfl
def RMoreI (sum : Nat) (l : List UInt8) (k : Nat) (s : Nat → V) (m : Mem) : Prop :=
  ∃ i : Nat, i + k = l.length ∧ s 5 = u32V (crcF sum (l.take i)) ∧ s 1 = .lit 1 (l.map cs) ∧ s 6 = .val (.int .i64 i) ∧ m = ⟨[], []⟩
def RMoreJ (x : Nat) (l : List UInt8) (i : Nat) (k : Nat) (s : Nat → V) (m : Mem) : Prop :=
  ∃ j : Nat, j + k = 8 ∧ s 5 = u32V (stepK j x) ∧ s 1 = .lit 1 (l.map cs) ∧ s 6 = .val (.int .i64 i) ∧ s 7 = .val (.int .i64 j) ∧ m = ⟨[], []⟩
theorem c_r02_More (sum : Nat) (l : List UInt8) (hs : sum < 2 ^ 32) (hl : l.length ≤ 2 ^ 40) : Pure Try.prog n_r02_More [u32V sum, enc l] (u32V (crcN sum l)) [] := by
  refine Pure.ofC D10_ok hm F_r02_More_ok (by simp [F_r02_More]) rfl ?_
  have hx' : bitXor .u32 (sum : Int) 4294967295 = ((sum ^^^ 4294967295 : Nat) : Int) := xor32 hs (show 4294967295 < 2 ^ 32 by decide)
  have hlt := Nat.xor_lt_two_pow hs (show 4294967295 < 2 ^ 32 by decide)
  simp [F_r02_More, u32V, hx']
  refine wp_loop (RMoreI (sum ^^^ 4294967295) l) l.length (IW.of ⟨0, by omega, by simp [u32V, crcF], by simp, by simp, rfl⟩) fun k s m ⟨i, hik, h5, h1, h6, hm⟩ => ?_
  subst hm
  have hc := crcF_lt (l.take i) hlt
  simp only [u32V] at h5
  by_cases hi : i < l.length
  · have hg : l[i]? = some l[i] := List.getElem?_eq_getElem hi
    have hb := l[i].toNat_lt
    have w1 : IntKind.u32.wrap (l[i].toNat : Int) = l[i].toNat := IntWalk.u32_in _ (by omega)
    have x1 := xor32 hc (show l[i].toNat < 2 ^ 32 by omega)
    have hn1 := Nat.xor_lt_two_pow hc (show l[i].toNat < 2 ^ 32 by omega)
    simp [F_r02_More_L1, h5, h1, h6, hg, hi, w1, x1]
    refine wp_loop (RMoreJ (crcF (sum ^^^ 4294967295) (l.take i) ^^^ l[i].toNat) l i) 8 (IW.of ⟨0, by omega, by simp [u32V, stepK], by simpa using h1, by simpa using h6, by simp, rfl⟩) fun k2 s m ⟨j, hjk, h5, h1, h6, h7, hm⟩ => ?_
    subst hm
    have hcj := stepK_lt j hn1
    simp only [u32V] at h5
    by_cases hj : j < 8
    · have hj' : (j : Int) < 8 := by omega
      have hcj' : ((stepK j (crcF (sum ^^^ 4294967295) (l.take i) ^^^ l[i].toNat) : Nat) : Int) < 4294967296 := by omega
      have hmod : stepK j (crcF (sum ^^^ 4294967295) (l.take i) ^^^ l[i].toNat) % 4294967296 = stepK j (crcF (sum ^^^ 4294967295) (l.take i) ^^^ l[i].toNat) := Nat.mod_eq_of_lt hcj
      simp [F_r02_More_L0, D10, h5, h1, h6, h7, hj', hcj', hmod]
      refine ⟨k2 - 1, by omega, IW.of (show RMoreJ _ l i _ _ _ from ⟨j + 1, by omega, by simp [u32V, stepK_succ], by simpa using h1, by simpa using h6, ?_, rfl⟩)⟩
      simp; rw [IntWalk.i64_in _ (by omega)]
    · have hj' : ¬ ((j : Int) < 8) := by omega
      obtain rfl : j = 8 := by omega
      simp [F_r02_More_L0, h5, h1, h6, h7]
      refine ⟨k - 1, by omega, IW.of (show RMoreI (sum ^^^ 4294967295) l _ _ _ from ⟨i + 1, by omega, ?_, by simpa using h1, ?_, rfl⟩)⟩
      · have e1 : l.take (i + 1) = l.take i ++ [l[i]] := by rw [List.take_add_one, hg]; rfl
        have e2 : crcF (sum ^^^ 4294967295) (l.take (i + 1)) = crcB (crcF (sum ^^^ 4294967295) (l.take i)) l[i] := by rw [e1, crcF_append]; rfl
        rw [e2]
        simp [h5, u32V, crcB, step4, stepK]
      · simp; rw [IntWalk.i64_in _ (by omega)]
  · have hil : i = l.length := by omega
    have ht : l.take i = l := by rw [hil, List.take_length]
    rw [ht] at h5 hc
    have hx2 : bitXor .u32 ((crcF (sum ^^^ 4294967295) l : Nat) : Int) 4294967295 = ((crcN sum l : Nat) : Int) := xor32 hc (show 4294967295 < 2 ^ 32 by decide)
    simp [F_r02_More_L1, h5, h1, h6, hi, hx2]
def D11 : Orc := (Orc.nil.add n_r02_More (sp2 sp_More)).add n_r01_Put (sp3 sp_Put)
theorem D11_ok : OOk Try.prog D11 := by
  refine (OOk.nil.add (sp2_ok fun s l r h => ?_)).add (sp3_ok fun b v w r h => ?_)
  · simp only [sp_More] at h
    split at h <;> cases h
    exact c_r02_More s.toNat l s.toNat_lt (by assumption)
  · simp only [sp_Put] at h
    split at h <;> cases h
    exact c_r01_Put b v w (by assumption)
theorem c_r02_Seal (l : List UInt8) (hl : l.length ≤ 2 ^ 40) : Pure Try.prog n_r02_Seal [enc l] (.row 0 1 ((sealS l).map cs)) [(5, 1, (sealS l).length)] := by
  refine Pure.ofR D11_ok hm F_r02_Seal_ok (by simp [F_r02_Seal]) (by simp [V.res, V.res1]) ?_
  have h := u64_32 (crcN_lt (sum := 0) (by decide) l)
  have h4 := put4 l l
  simp [F_r02_Seal, D11, u32V, h, h4.1, h4.2, sealS]
  omega
end Go.Av

/- Extents: no Go here. -/
namespace Go.Av.Pl

structure Xt where
  lba : Int
  len : Int
  kind : Int
  gen : Int
  data : List UInt8
deriving DecidableEq
def Xt.zero : Xt := ⟨0, 0, 0, 0, []⟩
def extOk (x : Xt) : Bool := decide (0 ≤ x.lba ∧ x.lba ≤ 64 ∧ 1 ≤ x.len ∧ x.len ≤ 64 - x.lba ∧ 0 ≤ x.kind ∧ x.kind ≤ 2 ∧ 0 ≤ x.gen ∧ x.gen ≤ 2147483647 ∧ (x.data.length : Int) = if x.kind = 2 then x.len * 32 else 0)
theorem extOk_iff {x : Xt} : extOk x = true ↔ 0 ≤ x.lba ∧ x.lba ≤ 64 ∧ 1 ≤ x.len ∧ x.len ≤ 64 - x.lba ∧ 0 ≤ x.kind ∧ x.kind ≤ 2 ∧ 0 ≤ x.gen ∧ x.gen ≤ 2147483647 ∧ (x.data.length : Int) = if x.kind = 2 then x.len * 32 else 0 := by simp [extOk]
def joins (a b : Xt) : Bool := extOk a && extOk b && decide (a.lba + a.len = b.lba ∧ a.kind = b.kind ∧ a.gen = b.gen)
def cutOk (x : Xt) (lba n : Int) : Bool := extOk x && decide (0 ≤ lba ∧ lba ≤ 64 ∧ 0 ≤ n ∧ n ≤ 64 ∧ max x.lba lba < min (x.lba + x.len) (lba + n))
def cutX (x : Xt) (lba n : Int) : Xt := if cutOk x lba n = true then
    ⟨max x.lba lba, min (x.lba + x.len) (lba + n) - max x.lba lba, x.kind, x.gen, if x.kind = 2 then (x.data.take ((min (x.lba + x.len) (lba + n) - x.lba) * 32).toNat).drop ((max x.lba lba - x.lba) * 32).toNat else []⟩ else Xt.zero
end Go.Av.Pl

namespace Go.Av
open Enc (enc dec)
open Cel (cs dc)
open Go.Proofs Pl

instance : Cel Xt where
  sz := 5
  cs x := [enc x.lba, enc x.len, enc x.kind, enc x.gen, enc x.data]
  dc l := match l with
    | [a, b, c, d, e] => (dec a).bind fun a => (dec b).bind fun b => (dec c).bind fun c => (dec d).bind fun d => (dec e).bind fun e => some ⟨a, b, c, d, e⟩
    | _ => none
  len _ := rfl
  ok l x h := by
    split at h
    · simp only [Option.bind_eq_some_iff] at h
      obtain ⟨a, ha, b, hb, c, hc, d, hd, e, he, h⟩ := h
      cases h
      exact wk_dec (wk_dec (wk_dec (wk_dec (wk_dec wk_nil he) hd) hc) hb) ha
    · cases h
  cl x := by simp
  de x := by simp
instance : Enc Xt := encC
@[simp] theorem sz_ext : Cel.sz Xt = 5 := rfl
@[simp] theorem cs_ext (x : Xt) : cs x = [.val (.int .i64 x.lba), .val (.int .i64 x.len), .val (.int .i64 x.kind), .val (.int .i64 x.gen), .lit 1 (x.data.map cs)] := rfl
@[simp] theorem enc_ext (x : Xt) : (enc x : V) = .agg [.val (.int .i64 x.lba), .val (.int .i64 x.len), .val (.int .i64 x.kind), .val (.int .i64 x.gen), .lit 1 (x.data.map cs)] := rfl
@[simp] theorem dc_ext (a b c d e : V) : (dc [a, b, c, d, e] : Option Xt) = (dec a).bind fun a => (dec b).bind fun b => (dec c).bind fun c => (dec d).bind fun d => (dec e).bind fun e => some ⟨a, b, c, d, e⟩ := rfl
@[simp] theorem dec_ext (l : List V) : (dec (.agg l) : Option Xt) = dc l := rfl

theorem c_within (n a b : Int) : Pure Try.prog n_extent_within [enc n, enc a, enc b] (enc (decide (a ≤ n ∧ n ≤ b))) [] := by
  refine Pure.ofC OOk.nil hm F_extent_within_ok (by simp [F_extent_within]) rfl ?_
  simp [F_extent_within]
  by_cases h : a ≤ n
  · simp [h]
    try omega
  · simp [h]
    try omega
theorem c_data (x : Xt) (h1 : -2 ^ 50 ≤ x.len) (h2 : x.len ≤ 2 ^ 50) : Pure Try.prog n_extent_data [enc x] (enc (if x.kind = 2 then x.len * 32 else 0)) [] := by
  refine Pure.ofC OOk.nil hm F_extent_data_ok (by simp [F_extent_data]) rfl ?_
  have := IntWalk.i64_in (x.len * 32) (by omega)
  simp [F_extent_data, this]
  by_cases h : x.kind = 2 <;> simp [h]
@[simp] def sp_within (n a b : Int) : Option (V × List Tip) := some (enc (decide (a ≤ n ∧ n ≤ b)), [])
@[simp] def sp_data (x : Xt) : Option (V × List Tip) := if -2 ^ 50 ≤ x.len ∧ x.len ≤ 2 ^ 50 then some (enc (if x.kind = 2 then x.len * 32 else 0), []) else none
def D12 : Orc := (Orc.nil.add n_extent_within (sp3 sp_within)).add n_extent_data (sp1 sp_data)
theorem D12_ok : OOk Try.prog D12 := by
  refine (OOk.nil.add (sp3_ok fun n a b r h => ?_)).add (sp1_ok fun x r h => ?_)
  · cases h; exact c_within n a b
  · simp only [sp_data] at h
    split at h <;> cases h
    rename_i h; exact c_data x h.1 h.2
theorem c_ext_Check (x : Xt) : Pure Try.prog n_extent_Check [enc x] (enc (extOk x)) [] := by
  refine Pure.ofC D12_ok hm F_extent_Check_ok (by simp [F_extent_Check]) rfl ?_
  have hw : 0 ≤ x.lba → x.lba ≤ 64 → IntKind.i64.wrap (64 - x.lba) = 64 - x.lba := fun h1 h2 => IntWalk.i64_in _ (by omega)
  simp [F_extent_Check, D12]
  by_cases hok : extOk x = true
  · have h := extOk_iff.1 hok
    simp [hok]
    omega
  · have h := mt extOk_iff.2 hok
    simp [hok]
    omega
theorem c_r07_Check (x : Xt) : Pure Try.prog n_r07_Check [enc x] (enc (extOk x)) [] := by
  refine Pure.ofC OOk.nil hm F_r07_Check_ok (by simp [F_r07_Check]) rfl ?_
  have hw : 0 ≤ x.lba → x.lba ≤ 64 → IntKind.i64.wrap (64 - x.lba) = 64 - x.lba := fun h1 h2 => IntWalk.i64_in _ (by omega)
  have hw2 : 1 ≤ x.len → x.len ≤ 64 → IntKind.i64.wrap (32 * x.len) = 32 * x.len := fun h1 h2 => IntWalk.i64_in _ (by omega)
  simp [F_r07_Check]
  rw [show (decide (x.data = [])) = decide (x.data.length = 0) by simp]
  by_cases hok : extOk x = true
  · have h := extOk_iff.1 hok
    simp [hok]
    have hk : (x.kind = 2 ∨ x.kind ≠ 2) := by omega
    by_cases hd : x.data = []
    · rcases hk with hk | hk <;> simp [hk, hd] at h ⊢ <;> omega
    · rcases hk with hk | hk <;> simp [hk, hd] at h ⊢ <;> omega
  · have h := mt extOk_iff.2 hok
    simp [hok]
    have hk : (x.kind = 2 ∨ x.kind ≠ 2) := by omega
    by_cases hd : x.data = []
    · rcases hk with hk | hk <;> simp [hk, hd] at h ⊢ <;> omega
    · rcases hk with hk | hk <;> simp [hk, hd] at h ⊢ <;> omega
@[simp] def sp_extOk (x : Xt) : Option (V × List Tip) := some (enc (extOk x), [])
def D13 : Orc := (Orc.nil.add n_extent_Check (sp1 sp_extOk)).add n_extent_within (sp3 sp_within) |>.add n_bytes_Clone (sp1 sp_clone)
theorem D13_ok : OOk Try.prog D13 := by
  refine ((OOk.nil.add (sp1_ok fun x r h => ?_)).add (sp3_ok fun n a b r h => ?_)).add (sp1_ok fun l r h => ?_)
  · cases h; exact c_ext_Check x
  · cases h; exact c_within n a b
  · simp only [sp_clone] at h
    split at h <;> cases h
    exact c_clone l (by assumption)
def D14 : Orc := Orc.nil.add n_r07_Check (sp1 sp_extOk)
theorem D14_ok : OOk Try.prog D14 := OOk.nil.add (sp1_ok fun x r h => by cases h; exact c_r07_Check x)
theorem c_ext_Joins (x y : Xt) : Pure Try.prog n_extent_Joins [enc x, enc y] (enc (joins x y)) [] := by
  refine Pure.ofC D13_ok hm F_extent_Joins_ok (by simp [F_extent_Joins]) rfl ?_
  simp [F_extent_Joins, D13]
  by_cases h1 : extOk x = true
  · have h := extOk_iff.1 h1
    have hw : IntKind.i64.wrap (x.lba + x.len) = x.lba + x.len := IntWalk.i64_in _ (by omega)
    by_cases h2 : extOk y = true
    · simp [h1, h2, hw, joins]
      by_cases a1 : x.lba + x.len = y.lba <;> by_cases a2 : x.kind = y.kind <;> simp [a1, a2]
    · simp [h1, h2, joins]
  · simp [h1, joins]
theorem c_r07_Joins (x y : Xt) : Pure Try.prog n_r07_Joins [enc x, enc y] (enc (joins x y)) [] := by
  refine Pure.ofC D14_ok hm F_r07_Joins_ok (by simp [F_r07_Joins]) rfl ?_
  simp [F_r07_Joins, D14]
  by_cases h1 : extOk x = true
  · have h := extOk_iff.1 h1
    have hw : IntKind.i64.wrap (x.lba + x.len) = x.lba + x.len := IntWalk.i64_in _ (by omega)
    by_cases h2 : extOk y = true
    · simp [h1, h2, hw, joins]
      by_cases a1 : x.lba + x.len = y.lba <;> by_cases a2 : x.kind = y.kind <;> simp [a1, a2]
    · simp [h1, h2, joins]
  · simp [h1, joins]
set_option maxRecDepth 4000 in
theorem c_ext_Cut (x : Xt) (lba n : Int) : Pure Try.prog n_extent_Cut [enc x, enc lba, enc n] (.tuple [enc (cutX x lba n), enc (cutOk x lba n)]) [] := by
  refine Pure.ofC D13_ok hm F_extent_Cut_ok (by simp [F_extent_Cut]) (by simp [V.res, V.res1]) ?_
  by_cases h1 : extOk x = true
  · have h := extOk_iff.1 h1
    have w1 : IntKind.i64.wrap (x.lba + x.len) = x.lba + x.len := IntWalk.i64_in _ (by omega)
    by_cases hl : 0 ≤ lba ∧ lba ≤ 64
    · by_cases hn : 0 ≤ n ∧ n ≤ 64
      · have w2 : IntKind.i64.wrap (lba + n) = lba + n := IntWalk.i64_in _ (by omega)
        have w3 : IntKind.i64.wrap (max x.lba lba - x.lba) = max x.lba lba - x.lba := IntWalk.i64_in _ (by omega)
        have w4 : IntKind.i64.wrap (min (x.lba + x.len) (lba + n) - x.lba) = min (x.lba + x.len) (lba + n) - x.lba := IntWalk.i64_in _ (by omega)
        have w5 : IntKind.i64.wrap ((max x.lba lba - x.lba) * 32) = (max x.lba lba - x.lba) * 32 := IntWalk.i64_in _ (by omega)
        have w6 : IntKind.i64.wrap ((min (x.lba + x.len) (lba + n) - x.lba) * 32) = (min (x.lba + x.len) (lba + n) - x.lba) * 32 := IntWalk.i64_in _ (by omega)
        have w7 : IntKind.i64.wrap (min (x.lba + x.len) (lba + n) - max x.lba lba) = min (x.lba + x.len) (lba + n) - max x.lba lba := IntWalk.i64_in _ (by omega)
        have e : cutOk x lba n = decide (max x.lba lba < min (x.lba + x.len) (lba + n)) := by simp [cutOk, h1, hl, hn]
        by_cases hlt : max x.lba lba < min (x.lba + x.len) (lba + n)
        · have e1 : cutOk x lba n = true := by rw [e]; simpa using hlt
          by_cases hk : x.kind = 2
          · simp only [hk, if_true] at h
            have hlen := h.2.2.2.2.2.2.2.2
            have hx : extOk ⟨x.lba, x.len, 2, x.gen, x.data⟩ = true := by rw [← hk]; exact h1
            simp [F_extent_Cut, D13, h1, hl, hn, w1, w2, hlt, Int.not_le.2 hlt, w3, w4, w5, w6, w7, cutX, e1, hk, hx]
            omega
          · simp [F_extent_Cut, D13, h1, hl, hn, w1, w2, hlt, Int.not_le.2 hlt, w3, w4, w5, w6, w7, cutX, e1, hk]
        · have e1 : cutOk x lba n = false := by rw [e]; simpa using hlt
          simp [F_extent_Cut, D13, h1, hl, hn, w1, w2, Int.not_lt.1 hlt, cutX, e1, Xt.zero]
      · have e1 : cutOk x lba n = false := by simp [cutOk]; intro _ _ _ h3 h4; exact absurd ⟨h3, h4⟩ hn
        simp [F_extent_Cut, D13, h1, hl, hn, cutX, e1, Xt.zero]
    · have e1 : cutOk x lba n = false := by simp [cutOk]; intro _ h3 h4; exact absurd ⟨h3, h4⟩ hl
      simp [F_extent_Cut, D13, h1, hl, cutX, e1, Xt.zero]
  · simp [F_extent_Cut, D13, h1, cutX, cutOk, Xt.zero]

-- Likeness, and blocks, by the reference.
theorem c_r07_Same (x y : Xt) : Pure Try.prog n_r07_Same [enc x, enc y] (enc (decide (x = y))) [] := by
  refine Pure.ofC OOk.nil hm F_r07_Same_ok (by simp [F_r07_Same]) rfl ?_
  obtain ⟨a1, a2, a3, a4, a5⟩ := x
  obtain ⟨b1, b2, b3, b4, b5⟩ := y
  simp [F_r07_Same]
  by_cases h1 : a1 = b1 <;> by_cases h2 : a2 = b2 <;> by_cases h3 : a3 = b3 <;> by_cases h4 : a4 = b4 <;> simp [h1, h2, h3, h4]
  rw [Bool.eq_iff_iff]
  simp
@[simp] def sp_xtSame (x y : Xt) : Option (V × List Tip) := some (enc (decide (x = y)), [])
def D15 : Orc := Orc.nil.add n_r07_Same (sp2 sp_xtSame)
theorem D15_ok : OOk Try.prog D15 := OOk.nil.add (sp2_ok fun x y r h => by cases h; exact c_r07_Same x y)
def RAllI (a b : List Xt) (k : Nat) (s : Nat → V) (m : Mem) : Prop :=
  ∃ i : Nat, i + k = a.length ∧ a.take i = b.take i ∧ s 0 = .lit 5 (a.map cs) ∧ s 1 = .lit 5 (b.map cs) ∧ s 5 = .val (.int .i64 i)
theorem take_succ_eq {α : Type} {a b : List α} {i : Nat} (h : a.take i = b.take i) (ha : i < a.length) (hb : i < b.length) : a.take (i + 1) = b.take (i + 1) ↔ a[i] = b[i] := by
  have e1 : a.take (i + 1) = a.take i ++ [a[i]] := by rw [List.take_add_one, List.getElem?_eq_getElem ha]; rfl
  have e2 : b.take (i + 1) = b.take i ++ [b[i]] := by rw [List.take_add_one, List.getElem?_eq_getElem hb]; rfl
  rw [e1, e2, h, List.append_right_inj]
  simp
theorem c_r07_All (a b : List Xt) (ha : a.length ≤ 2 ^ 40) : Pure Try.prog n_r07_All [enc a, enc b] (enc (decide (a = b))) [] := by
  refine Pure.ofC D15_ok hm F_r07_All_ok (by simp [F_r07_All]) rfl ?_
  by_cases hl : a.length = b.length
  · simp [F_r07_All, hl]
    refine wp_loop (RAllI a b) a.length (IW.of ⟨0, by omega, by simp, by simp, by simp, by simp⟩) fun k s m ⟨i, hik, ht, h0, h1, h5⟩ => ?_
    by_cases hi : i < a.length
    · have hga : a[i]? = some a[i] := List.getElem?_eq_getElem hi
      have hib : i < b.length := by omega
      have hgb : b[i]? = some b[i] := List.getElem?_eq_getElem hib
      have hs := take_succ_eq ht hi hib
      by_cases he : a[i] = b[i]
      · simp [F_r07_All_L0, D15, h0, h1, h5, hga, hgb, hi, he]
        exact ⟨k - 1, by omega, IW.of (show RAllI a b _ _ _ from ⟨i + 1, by omega, hs.2 he, by simpa using h0, by simpa using h1, by simp; rw [IntWalk.i64_in _ (by omega)]⟩)⟩
      · have hne : ¬ a = b := fun e => he (by subst e; rfl)
        simp [F_r07_All_L0, D15, h0, h1, h5, hga, hgb, hi, he, hne]
    · have hi' : i = a.length := by omega
      have : a = b := by
        have h2 := ht
        rw [hi', List.take_length, hl, List.take_length] at h2
        exact h2
      subst this
      simp [F_r07_All_L0, h0, h5, hi]
  · have hne : ¬ a = b := fun e => hl (by rw [e])
    have hl' : ¬ ((a.length : Int) = b.length) := by omega
    simp [F_r07_All, hl', hne]
/-- An extent's bytes. -/
def bytesX (x : Xt) : List UInt8 := if extOk x = true then (if x.kind = 2 then x.data else List.replicate (32 * x.len).toNat 0) else []
theorem c_r07_Bytes (x : Xt) : Pure Try.prog n_r07_Bytes [enc x] (.row 0 1 ((bytesX x).map cs)) [(5, 1, (bytesX x).length)] := by
  refine Pure.ofR D14_ok hm F_r07_Bytes_ok (by simp [F_r07_Bytes]) (by simp [V.res, V.res1]) ?_
  by_cases h1 : extOk x = true
  · have h := extOk_iff.1 h1
    by_cases hk : x.kind = 2
    · have hx : extOk ⟨x.lba, x.len, 2, x.gen, x.data⟩ = true := by rw [← hk]; exact h1
      simp only [hk, if_true] at h
      have hl := h.2.2.2.2.2.2.2.2
      simp [F_r07_Bytes, D14, h1, hk, hx, bytesX]
      omega
    · have w : IntKind.i64.wrap (32 * x.len) = 32 * x.len := IntWalk.i64_in _ (by omega)
      simp [F_r07_Bytes, D14, h1, hk, w, bytesX]
      omega
  · simp [F_r07_Bytes, D14, h1, bytesX]
end Go.Av

namespace Go.Av
open Enc (enc dec)
open Cel (cs dc)
open Go.Proofs Pl

/-- A form's letters are letters of a byte each. -/
def formOk (f : ByteArray) : Bool := f.data.toList.all (fun c => decide (c.toNat < 128)) && decide (f.size ≤ 2 ^ 30)
theorem formOk_spec {f : ByteArray} (h : formOk f = true) : (∀ c ∈ f.data.toList, c.toNat < 128) ∧ f.data.toList.length ≤ 2 ^ 30 := by
  simp only [formOk, Bool.and_eq_true, List.all_eq_true, decide_eq_true_eq] at h
  exact ⟨h.1, by rw [Array.length_toList]; exact h.2⟩
@[simp] def sp_pack (f : ByteArray) (l : List Nat) : Option (V × List Tip) := if formOk f = true ∧ l.length ≤ 2 ^ 30 then some (.tuple [.row 0 1 ((packB f.data.toList l).map cs), enc (packE f.data.toList l)], [(5, 1, (packB f.data.toList l).length)]) else none
@[simp] def sp_unpack (f : ByteArray) (b : List UInt8) : Option (V × List Tip) := if formOk f = true ∧ b.length ≤ 2 ^ 40 then some (.tuple [.row 0 1 ((unpackN f.data.toList b).map cs), enc (unpackE f.data.toList b)], [(114, 1, (unpackN f.data.toList b).length)]) else none
theorem ba_eta (f : ByteArray) : (⟨f.data.toList.toArray⟩ : ByteArray) = f := by cases f; simp
theorem sp_pack_ok : EOk Try.prog n_le_Pack (sp2 sp_pack) := sp2_ok fun f l r h => by
  simp only [sp_pack] at h
  split at h <;> cases h
  rename_i h
  have := c_le_Pack f.data.toList l (formOk_spec h.1).1 (formOk_spec h.1).2 h.2
  rwa [ba_eta] at this
theorem sp_unpack_ok : EOk Try.prog n_le_Unpack (sp2 sp_unpack) := sp2_ok fun f b r h => by
  simp only [sp_unpack] at h
  split at h <;> cases h
  rename_i h
  have := c_le_Unpack f.data.toList b (formOk_spec h.1).1 (formOk_spec h.1).2 h.2
  rwa [ba_eta] at this
theorem sp_rpack_ok : EOk Try.prog n_r01_Pack (sp2 sp_pack) := sp2_ok fun f l r h => by
  simp only [sp_pack] at h
  split at h <;> cases h
  rename_i h
  have := c_r01_Pack f.data.toList l (formOk_spec h.1).2
  rwa [ba_eta] at this
theorem sp_runpack_ok : EOk Try.prog n_r01_Unpack (sp2 sp_unpack) := sp2_ok fun f b r h => by
  simp only [sp_unpack] at h
  split at h <;> cases h
  rename_i h
  have := c_r01_Unpack f.data.toList b (formOk_spec h.1).2 h.2
  rwa [ba_eta] at this
theorem f_bbbw : formOk ⟨#[98, 98, 98, 119]⟩ = true := by decide

theorem tipset {tips xs : List Tip} {t : Nat} {b : Tip} (h : t < tips.length) : ((tips ++ xs).set t b)[t]? = some b := by rw [List.getElem?_set_self (by simp; omega)]
/-- An extent's head, and its bytes; those of some. -/
def hdX (x : Xt) : List UInt8 := leB x.lba.toNat 1 ++ (leB x.len.toNat 1 ++ (leB x.kind.toNat 1 ++ leB x.gen.toNat 4))
def wr1 (x : Xt) : List UInt8 := hdX x ++ x.data
def wrOk (l : List Xt) : Bool := decide (l.length ≤ 64) && l.all extOk
def wrB (l : List Xt) : List UInt8 := UInt8.ofNat l.length :: l.flatMap wr1
def writeB (l : List Xt) : List UInt8 := if wrOk l = true then wrB l else []
def writeE (l : List Xt) : Int := if wrOk l = true then 0 else 70
theorem hdX_length (x : Xt) : (hdX x).length = 7 := by simp [hdX, leB_length]
theorem pack_hd {x : Xt} (h : extOk x = true) : packS [98, 98, 98, 119] [x.lba.toNat, x.len.toNat, x.kind.toNat, x.gen.toNat] = some (hdX x) := by
  have h := extOk_iff.1 h
  have m1 : mayB x.lba.toNat 1 = true := by simp [mayB]; omega
  have m2 : mayB x.len.toNat 1 = true := by simp [mayB]; omega
  have m3 : mayB x.kind.toNat 1 = true := by simp [mayB]; omega
  have m4 : mayB x.gen.toNat 4 = true := by simp [mayB]; omega
  simp [packS, sizeL, m1, m2, m3, m4, hdX]
theorem ext_len {x : Xt} (h : extOk x = true) : x.data.length ≤ 2048 := by
  have h := extOk_iff.1 h
  have hl := h.2.2.2.2.2.2.2.2
  split at hl <;> omega
theorem wr1_length {x : Xt} (h : extOk x = true) : (wr1 x).length ≤ 2055 := by
  have := ext_len h
  simp [wr1, hdX_length]
  omega
theorem u64_wraps {x : Xt} (h : extOk x = true) : IntKind.u64.wrap x.lba = x.lba ∧ IntKind.u64.wrap x.len = x.len ∧ IntKind.u64.wrap x.kind = x.kind ∧ IntKind.u64.wrap x.gen = x.gen := by
  have h := extOk_iff.1 h
  exact ⟨IntWalk.u64_in _ (by omega), IntWalk.u64_in _ (by omega), IntWalk.u64_in _ (by omega), IntWalk.u64_in _ (by omega)⟩

def D16 : Orc := ((Orc.nil.add n_extent_Check (sp1 sp_extOk)).add n_le_Pack (sp2 sp_pack))
theorem D16_ok : OOk Try.prog D16 := (OOk.nil.add (sp1_ok fun x r h => by cases h; exact c_ext_Check x)).add sp_pack_ok
def XWriteI (l : List Xt) (k : Nat) (s : Nat → V) (m : Mem) : Prop :=
  ∃ (i t : Nat) (bx : List (List V)) (tips : List Tip) (acc : List UInt8), i + k = l.length ∧ (l.take i).all extOk = true ∧ acc = UInt8.ofNat l.length :: (l.take i).flatMap wr1 ∧ acc.length ≤ 1 + 2055 * i ∧ s 0 = .lit 5 (l.map cs) ∧ s 13 = .lit 5 (l.map cs) ∧ s 14 = .val (.int .i64 l.length) ∧ s 15 = .val (.int .i64 i) ∧
    s 4 = .row t 1 (acc.map cs) ∧ m = ⟨bx, tips⟩ ∧ tips[t]? = some (5, 1, acc.length)
theorem c_ext_Write (l : List Xt) (hl : l.length ≤ 2 ^ 20) : Pure Try.prog n_extent_Write [enc l] (.tuple [.row 0 1 ((writeB l).map cs), enc (writeE l)]) [(5, 1, (writeB l).length)] := by
  refine Pure.ofR D16_ok hm F_extent_Write_ok (by simp [F_extent_Write]) (by simp [V.res, V.res1]) ?_
  simp [F_extent_Write]
  refine wp_loop (XWriteI l) l.length (IW.of ⟨0, 1, _, _, [UInt8.ofNat l.length], by omega, by simp, by simp, by simp, by simp, by simp, by simp, by simp, by simp [wrap_u8_nat], rfl, by simp⟩) fun k s m ⟨i, t, bx, tips, acc, hik, hok, hacc, hal, h0, h13, h14, h15, h4, hm, ht⟩ => ?_
  subst hm
  by_cases hi : i < l.length
  · have hg : l[i]? = some l[i] := List.getElem?_eq_getElem hi
    have ht1 : l.take (i + 1) = l.take i ++ [l[i]] := by rw [List.take_add_one, hg]; rfl
    have htl : t < tips.length := lt_of_some ht
    cases hx : extOk l[i] with
    | false =>
      have hno : wrOk l = false := by
        simp only [wrOk, Bool.and_eq_false_iff]
        refine .inr (List.all_eq_false.2 ⟨l[i], List.getElem_mem hi, by simp [hx]⟩)
      simp [XWriteI, F_extent_Write_L0, D16, h0, h13, h14, h15, h4, hg, hi, hx, f_bbbw, writeB, writeE, hno]
    | true =>
      obtain ⟨w1, w2, w3, w4⟩ := u64_wraps hx
      have hp := pack_hd hx
      have hb1 : packB [98, 98, 98, 119] [l[i].lba.toNat, l[i].len.toNat, l[i].kind.toNat, l[i].gen.toNat] = hdX l[i] := by simp [packB, hp]
      have hb2 : packE [98, 98, 98, 119] [l[i].lba.toNat, l[i].len.toNat, l[i].kind.toNat, l[i].gen.toNat] = 0 := by simp [packE, hp]
      have hlen := wr1_length hx
      have hle := ext_len hx
      have h7 := hdX_length l[i]
      have hx2 := extOk_iff.1 hx
      simp [F_extent_Write_L0, D16, h0, h13, h14, h15, h4, hg, hi, hx, f_bbbw, w1, w2, w3, w4, hb1, hb2, h7, ht, List.getElem?_append_left htl, tipset htl]
      refine ⟨by omega, by omega, by omega, by omega, by omega, by omega, k - 1, by omega, IW.of (show XWriteI l _ _ _ from ⟨i + 1, t, _, _, acc ++ wr1 l[i], by omega, ?_, ?_, ?_, by simpa using h0, by simpa using h13, by simpa using h14, ?_, by simp [wr1], rfl, ?_⟩)⟩
      · rw [ht1, List.all_append, hok]; simp [hx]
      · rw [ht1, List.flatMap_append, hacc]; simp
      · simp; omega
      · simp; rw [IntWalk.i64_in _ (by omega)]
      · rw [List.getElem?_set_self (by simp; omega)]
        simp [wr1, h7, Nat.add_assoc]
  · have hil : i = l.length := by omega
    have htk : l.take i = l := by rw [hil, List.take_length]
    rw [htk] at hok hacc
    by_cases h64 : l.length ≤ 64
    · have hw : wrOk l = true := by simp [wrOk, h64, hok]
      have h64' : ¬ ((64 : Int) < l.length) := by omega
      have e : writeB l = acc := by simp [writeB, hw, hacc, wrB]
      simp [F_extent_Write_L0, D16, h0, h13, h14, h15, h4, hi, h64', ht, e, writeE, hw]
    · have hw : wrOk l = false := by simp [wrOk, h64]
      have h64' : (64 : Int) < l.length := by omega
      simp [F_extent_Write_L0, D16, h0, h13, h14, h15, h4, hi, h64', writeB, writeE, hw]

def D17 : Orc := ((Orc.nil.add n_r07_Check (sp1 sp_extOk)).add n_r01_Pack (sp2 sp_pack))
theorem D17_ok : OOk Try.prog D17 := (OOk.nil.add (sp1_ok fun x r h => by cases h; exact c_r07_Check x)).add sp_rpack_ok
def RXWriteI (l : List Xt) (k : Nat) (s : Nat → V) (m : Mem) : Prop :=
  ∃ (i t : Nat) (bx : List (List V)) (tips : List Tip) (acc : List UInt8), i + k = l.length ∧ (l.take i).all extOk = true ∧ acc = UInt8.ofNat l.length :: (l.take i).flatMap wr1 ∧ acc.length ≤ 1 + 2055 * i ∧ s 0 = .lit 5 (l.map cs) ∧ s 5 = .val (.int .i64 i) ∧
    s 4 = .row t 1 (acc.map cs) ∧ m = ⟨bx, tips⟩ ∧ tips[t]? = some (5, 1, acc.length)
theorem c_r07_Write (l : List Xt) : Pure Try.prog n_r07_Write [enc l] (.tuple [.row 0 1 ((writeB l).map cs), enc (writeE l)]) [(5, 1, (writeB l).length)] := by
  refine Pure.ofR D17_ok hm F_r07_Write_ok (by simp [F_r07_Write]) (by simp [V.res, V.res1]) ?_
  by_cases h64 : l.length ≤ 64
  · have h64' : ¬ ((64 : Int) < l.length) := by omega
    simp [F_r07_Write, h64']
    refine wp_loop (RXWriteI l) l.length (IW.of ⟨0, 1, _, _, [UInt8.ofNat l.length], by omega, by simp, by simp, by simp, by simp, by simp, by simp [wrap_u8_nat], rfl, by simp⟩) fun k s m ⟨i, t, bx, tips, acc, hik, hok, hacc, hal, h0, h5, h4, hm, ht⟩ => ?_
    subst hm
    by_cases hi : i < l.length
    · have hg : l[i]? = some l[i] := List.getElem?_eq_getElem hi
      have ht1 : l.take (i + 1) = l.take i ++ [l[i]] := by rw [List.take_add_one, hg]; rfl
      have htl : t < tips.length := lt_of_some ht
      cases hx : extOk l[i] with
      | false =>
        have hno : wrOk l = false := by
          simp only [wrOk, Bool.and_eq_false_iff]
          refine .inr (List.all_eq_false.2 ⟨l[i], List.getElem_mem hi, by simp [hx]⟩)
        simp [F_r07_Write_L0, D17, h0, h5, h4, hg, hi, hx, writeB, writeE, hno]
      | true =>
        obtain ⟨w1, w2, w3, w4⟩ := u64_wraps hx
        have hp := pack_hd hx
        have hb1 : packB [98, 98, 98, 119] [l[i].lba.toNat, l[i].len.toNat, l[i].kind.toNat, l[i].gen.toNat] = hdX l[i] := by simp [packB, hp]
        have hb2 : packE [98, 98, 98, 119] [l[i].lba.toNat, l[i].len.toNat, l[i].kind.toNat, l[i].gen.toNat] = 0 := by simp [packE, hp]
        have hlen := wr1_length hx
        have hle := ext_len hx
        have h7 := hdX_length l[i]
        have hx2 := extOk_iff.1 hx
        simp [F_r07_Write_L0, D17, h0, h5, h4, hg, hi, hx, f_bbbw, w1, w2, w3, w4, hb1, hb2, h7, ht, List.getElem?_append_left htl, tipset htl]
        refine ⟨by omega, by omega, by omega, by omega, by omega, by omega, k - 1, by omega, IW.of (show RXWriteI l _ _ _ from ⟨i + 1, t, _, _, acc ++ wr1 l[i], by omega, ?_, ?_, ?_, by simpa using h0, ?_, by simp [wr1], rfl, ?_⟩)⟩
        · rw [ht1, List.all_append, hok]; simp [hx]
        · rw [ht1, List.flatMap_append, hacc]; simp
        · simp; omega
        · simp; rw [IntWalk.i64_in _ (by omega)]
        · rw [List.getElem?_set_self (by simp; omega)]
          simp [wr1, h7, Nat.add_assoc]
    · have hil : i = l.length := by omega
      have htk : l.take i = l := by rw [hil, List.take_length]
      rw [htk] at hok hacc
      have hw : wrOk l = true := by simp [wrOk, h64, hok]
      have e : writeB l = acc := by simp [writeB, hw, hacc, wrB]
      simp [F_r07_Write_L0, D17, h0, h5, h4, hi, ht, e, writeE, hw]
  · have hw : wrOk l = false := by simp [wrOk, h64]
    have h64' : (64 : Int) < l.length := by omega
    simp [F_r07_Write, h64', writeB, writeE, hw]
end Go.Av

namespace Go.Av
open Enc (enc dec)
open Cel (cs dc)
open Go.RowKit

mutual
theorem Rep.under {M : Mp} {w : World} : ∀ (v : V) (x : Value), Rep M w v x → v.under M.β.length M.γ.length = true
  | .val _, _, _ => rfl
  | .agg l, x, h => by
    obtain ⟨vs, rfl, h⟩ := h
    exact RepL.under l _ h
  | .lit sz xs, x, h => by
    rcases h with ⟨rfl, _⟩ | ⟨ad, c, h0, h1, h2, h3, h4⟩
    · rfl
    · exact RepX.under xs _ _ h4
  | .full sz xs, x, h => by
    rcases h with ⟨rfl, _⟩ | ⟨ad, h0, h2, h3, h4⟩
    · rfl
    · exact RepX.under xs _ _ h4
  | .emp _, _, _ => rfl
  | .row t sz xs, x, h => by
    obtain ⟨G, h4, h⟩ := h
    have ht : t < M.γ.length := (List.getElem?_eq_some_iff.1 h4).1
    simp only [V.under, ht, decide_true, Bool.true_and]
    rcases h with ⟨rfl, _⟩ | ⟨g, c, h0, h1, h2, h3, h5⟩
    · rfl
    · exact RepX.under xs _ _ h3
  | .ptr b off, x, h => by
    obtain ⟨g, rfl, h⟩ := h
    simpa [V.under] using (List.getElem?_eq_some_iff.1 h).1
  | .yld b, x, h => by
    obtain ⟨g, rfl, h⟩ := h
    simpa [V.under] using (List.getElem?_eq_some_iff.1 h).1
  | .ref k b, x, h => by
    obtain ⟨g, c, rfl, h0, h⟩ := h
    simpa [V.under] using (List.getElem?_eq_some_iff.1 h).1
  | .eptr cs, x, h => by
    obtain ⟨ad, rfl, h1, h⟩ := h
    exact RepC.under cs _ _ h
  | .func f cap, x, h => by
    obtain ⟨vs, rfl, h⟩ := h
    exact RepL.under cap _ h
  | .iface t v, x, h => by
    obtain ⟨y, rfl, h⟩ := h
    exact Rep.under v _ h
  | .tuple l, x, h => by
    obtain ⟨vs, rfl, h⟩ := h
    exact RepL.under l _ h
theorem RepL.under {M : Mp} {w : World} : ∀ (l : List V) (m : List Value), RepL M w l m → underL M.β.length M.γ.length l = true
  | [], _, _ => rfl
  | v :: l, m, h => by
    obtain ⟨x, m', rfl, h1, h2⟩ := h
    simp only [underL, Rep.under v x h1, RepL.under l m' h2]; rfl
theorem RepC.under {M : Mp} {w : World} : ∀ (l : List V) (b o : Nat), RepC M w l b o → underL M.β.length M.γ.length l = true
  | [], _, _, _ => rfl
  | v :: l, b, o, h => by
    obtain ⟨⟨x, h1, h2, h3, h4⟩, h⟩ := h
    simp only [underL, Rep.under v x h4, RepC.under l b _ h]; rfl
theorem RepX.under {M : Mp} {w : World} : ∀ (l : List (List V)) (b o : Nat), RepX M w l b o → underX M.β.length M.γ.length l = true
  | [], _, _, _ => rfl
  | e :: l, b, o, h => by
    simp only [underX, RepC.under e b o h.1, RepX.under l b _ h.2]; rfl
end
theorem underX_iff {k j : Nat} : ∀ {l : List (List V)}, underX k j l = true ↔ ∀ e ∈ l, underL k j e = true
  | [] => by simp [underX]
  | e :: l => by simp [underX, underX_iff (l := l)]
theorem underX_set {k j p : Nat} {l : List (List V)} {c : List V} (h : underX k j l = true) (hc : underL k j c = true) : underX k j (l.set p c) = true := by
  rw [underX_iff] at h ⊢
  intro e he
  rcases List.mem_or_eq_of_mem_set he with he | rfl
  · exact h e he
  · exact hc
theorem Good.under {B : Nat} {I0 : Nat → Nat → Prop} {w0 : World} {M : Mp} {m : Mem} {w : World} (h : Good B I0 w0 M m w) : underX m.boxes.length m.tips.length m.boxes = true := by
  rw [underX_iff]
  intro e he
  obtain ⟨i, hi, rfl⟩ := List.getElem_of_mem he
  have hβ : M.β[i]? = some (M.β[i]'(by rw [h.lβ]; exact hi)) := List.getElem?_eq_getElem _
  obtain ⟨_, ob, _, hb⟩ := h.box i _ _ hβ (List.getElem?_eq_getElem hi)
  rw [← h.lβ, ← h.lγ]
  rcases hb with ⟨_, vs, T, _, _, hr, _⟩ | ⟨_, str, pos, _, hc⟩ | ⟨fam, st, _, _, hc⟩ | ⟨_, es, c, _, hr⟩ | ⟨_, hc⟩
  · exact RepL.under _ _ hr
  · rw [hc]; simp [underL, V.under]
  · rw [hc]; cases st <;> simp [St.v, underL, V.under]
  · exact RepL.under _ _ hr
  · rw [hc]; rfl
section
variable {P : Program} {D : Orc} {own : Nat → Bool} {f : FuncId} {F : F} {args : List V}
/-- A function that writes to boxes that are there; its answer is clean. -/
theorem Loc.ofC (hD : OOk P D) (hm : P.follows .mixedOrders = true) (hF : compF P own f = some F) {m m' : Mem} {r : V} (hn : args.length ≤ F.n) (hr : cleanL [r] = true ∨ ∃ l, r = .tuple l ∧ cleanL l = true) (k j : Nat) (hk : m.boxes.length ≤ k) (hj : m.tips.length ≤ j)
    (h : underX m.boxes.length m.tips.length m.boxes = true → wp P noY D F.c (argS args) m (Fin F.rs fun v m1 => keepN [] v r ∧ underX k j (m1.boxes.take k) = true ∧ m' = ⟨m1.boxes.take k, m1.tips.take j⟩)) : Loc P f args m r m' := by
  have hcl : callable P f = true := by
    unfold compF at hF
    split at hF
    · assumption
    · cases hF
  refine ⟨hcl, fun B I0 w0 M w vals hg hrl => ?_⟩
  refine (calls_sound hm hF hn hg hrl YOk.no (wp_sound hD _ (h hg.under))).2.mono fun e w' ⟨x, M', v, m1, he, hE, hg', hx, hv, hb, hm'⟩ => ?_
  refine ⟨x, M'.cut k j, he, Mp.cut_ext M' k j hE (by rw [hg.lβ]; exact hk) (by rw [hg.lγ]; exact hj), by rw [hm']; exact hg'.cut hb, ?_⟩
  have hx' := keepN_rep hv hx
  rcases hr with hr | ⟨l, rfl, hr⟩
  · simp only [cleanL, Bool.and_true] at hr
    exact Rep.clean (M := M'.sel []) (M' := M'.cut k j) (fun _ _ h => h) r x hr hx'
  · obtain ⟨vs, rfl, hx'⟩ := hx'
    exact ⟨vs, rfl, RepL.clean (M := M'.sel []) (M' := M'.cut k j) (fun _ _ h => h) l _ hr hx'⟩
end
/-- A box of the caller's, below those of one's own. -/
theorem box_facts {l : List (List V)} {p : Nat} (h : p < l.length) :
    (∀ (b : List (List V)), (l ++ b)[p]? = l[p]?) ∧ (∀ (b : List (List V)) (y : List V), (l ++ b).set p y = l.set p y ++ b) ∧ (∀ (b : List (List V)) (y : List V), (l.set p y ++ b)[p]? = some y) ∧ (∀ (c y : List V) (b : List (List V)), (l.set p y ++ c :: b)[l.length]? = some c) ∧
    (∀ (c y z : List V) (b : List (List V)), (l.set p y ++ c :: b).set l.length z = l.set p y ++ z :: b) ∧ (∀ (y z : List V) (b : List (List V)), (l.set p y ++ b).set p z = l.set p z ++ b) ∧ (∀ (y : List V) (b : List (List V)), (l.set p y ++ b).take l.length = l.set p y) := by
  refine ⟨fun b => List.getElem?_append_left h, fun b y => List.set_append_left p y h, fun b y => ?_, fun c y b => ?_, fun c y z b => ?_, fun y z b => ?_, fun y b => ?_⟩
  · rw [List.getElem?_append_left (by simpa using h), List.getElem?_set_self h]
  · rw [List.getElem?_append_right (by simp)]; simp
  · rw [List.set_append_right _ _ (by simp)]; simp
  · rw [List.set_append_left _ _ (by simpa using h), List.set_set]
  · rw [← (List.length_set : (l.set p y).length = l.length), List.take_left']
    rfl
theorem setC_self {α : Type} {l : List α} {p : Nat} {c : α} (h : l[p]? = some c) : l.set p c = l := by
  refine List.ext_getElem? fun i => ?_
  by_cases e : p = i
  · subst e
    rw [List.getElem?_set_self (List.getElem?_eq_some_iff.1 h).1, h]
  · rw [List.getElem?_set_ne e]
@[simp] theorem sepV_ptr {b o b' o' : Nat} : sepV (.ptr b o) (.ptr b' o') = (b ≠ b') := by
  refine propext ⟨fun h => h b o b' o' rfl rfl, fun h c d c' d' e e' => ?_⟩
  cases e; cases e'; exact h
section
variable {α : Type} [Cel α]
theorem row_dec {M : Mp} {w : World} {x : Value} {t sz : Nat} {xs : List (List V)} {l : List α} (hz : sz = Cel.sz α) (h : decX xs = some l) (hr : Rep M w (.row t sz xs) x) : Rep M w (.row t sz (l.map cs)) x := by
  obtain ⟨G, h4, hr⟩ := hr
  refine ⟨G, h4, ?_⟩
  rcases hr with ⟨rfl, rfl⟩ | ⟨g, c, rfl, h1, h2, h3, h5⟩
  · cases h; exact .inl ⟨rfl, rfl⟩
  · obtain ⟨i1, i2⟩ := RepX.of_dc h h3
    refine .inr ⟨g, c, by rw [i2, List.length_map], by simpa [← i2] using h1, ?_, i1, by rw [List.length_map, ← i2]; exact h5⟩
    intro e he
    obtain ⟨a, _, rfl⟩ := List.mem_map.1 he
    rw [Cel.len, hz]
theorem put_put_same (d : Nat) (v w : V) (s : Nat → V) : put (some d) v (put (some d) w s) = put (some d) v s := by
  funext i
  simp only [put]
  split <;> simp_all
/-- A row's elements, as plain ones. -/
theorem IW.rowSlot {I : (Nat → V) → Mem → Prop} {s : Nat → V} {m : Mem} {d t sz : Nat} {xs : List (List V)} (l : List α) (hs : s d = .row t sz xs) (hd : decX xs = some l) (hz : sz = Cel.sz α) (h : I (put (some d) (.row t sz (l.map cs)) s) m) : IW I s m :=
  ⟨_, m, Wkn.slot (fun M w x hr => by rw [hs] at hr; exact row_dec hz hd hr), h⟩
end
theorem Loc.wk {P : Program} {f : FuncId} {args args' : List V} {m m' : Mem} {r : V} (h : WkL args args') (hl : Loc P f args' m r m') : Loc P f args m r m' :=
  ⟨hl.1, fun B I0 w0 M w vals hg hr => hl.2 B I0 w0 M w vals hg (h M w vals.toList hr)⟩
theorem WkL.refl : ∀ l : List V, WkL l l := fun _ _ _ _ h => h
/-- The run up to a place. -/
theorem wp_seqC {P : Program} {Y : YRel} {D : Orc} {a b : C} {s : Nat → V} {m : Mem} {Q : Exit → (Nat → V) → Mem → Prop} (R : (Nat → V) → Mem → Prop) (h : wp P Y D a s m (seqQ R Q)) (h2 : ∀ s' m', R s' m' → wp P Y D b s' m' Q) : wp P Y D (.seq a b) s m Q :=
  wp_seq_cut R h h2
section
variable {P : Program} {D : Orc} {own : Nat → Bool} {f : FuncId} {F : F} {args : List V}
/-- A function that calls a 'yield' that is at hand; what is left is all that is there. -/
theorem LocY.ofX {Y : YRel} (hD : OOk P D) (hm : P.follows .mixedOrders = true) (hF : compF P own f = some F) {m m' : Mem} {r : V} (hn : args.length ≤ F.n)
    (h : wp P Y D F.c (argS args) m (Fin F.rs fun v m1 => v = r ∧ m1 = m')) : LocY P Y f args m r m' := by
  have hcl : callable P f = true := by
    unfold compF at hF
    split at hF
    · assumption
    · cases hF
  refine ⟨hcl, fun B I0 w0 M w vals hY hg hrl => ?_⟩
  refine (calls_sound hm hF hn hg hrl hY (wp_sound hD _ h)).2.mono fun e w' ⟨x, M', v, m1, he, hE, hg', hx, hv, hm'⟩ => ?_
  subst hv hm'
  exact ⟨x, M', he, hE, hg', hx⟩
theorem Loc.ofX (hD : OOk P D) (hm : P.follows .mixedOrders = true) (hF : compF P own f = some F) {m m' : Mem} {r : V} (hn : args.length ≤ F.n)
    (h : wp P noY D F.c (argS args) m (Fin F.rs fun v m1 => v = r ∧ m1 = m')) : Loc P f args m r m' := (LocY.ofX hD hm hF hn h).loc
end
/-- What an iterator's calls of 'yield' do, one behind the other. -/
inductive YRun (Y : YRel) (L : Nat) (K : Mem → Prop) : List (List V) → Mem → Mem → Prop
  | done {m : Mem} : YRun Y L K [] m m
  | stop {a : List V} {r : List (List V)} {m m1 : Mem} (h : Y L a m (.val (.bool false)) m1) : YRun Y L K (a :: r) m m1
  | next {a : List V} {r : List (List V)} {m m1 m2 : Mem} (h : Y L a m (.val (.bool true)) m1) (hk : K m1) (h2 : YRun Y L K r m1 m2) : YRun Y L K (a :: r) m m2
end Go.Av

namespace Go.Av
open Enc (enc dec)
open Cel (cs dc)
open Go.Proofs Pl

/-- An extent's head, as its bytes tell it; an extent that bytes begin with, and what is behind it. -/
def hdR (b : List UInt8) : Xt := ⟨leN (b.take 1), leN ((b.drop 1).take 1), leN ((b.drop 2).take 1), leN ((b.drop 3).take 4), []⟩
def datN (x : Xt) : Nat := if x.kind = 2 then (x.len * 32).toNat else 0
def nextX (b : List UInt8) : Xt × List UInt8 := if b.length < 7 then (Xt.zero, b) else
  if 0 < datN (hdR b) ∧ datN (hdR b) ≤ (b.drop 7).length then ({ hdR b with data := (b.drop 7).take (datN (hdR b)) }, (b.drop 7).drop (datN (hdR b))) else (hdR b, b.drop 7)
theorem unpack_hd {b : List UInt8} (h : 7 ≤ b.length) : unpackS [98, 98, 98, 119] (b.take 7) = some [leN (b.take 1), leN ((b.drop 1).take 1), leN ((b.drop 2).take 1), leN ((b.drop 3).take 4)] := by
  have e : okT = fun (b : List UInt8) (w : Int) => mayB 0 w && decide (w ≤ b.length) := rfl
  match b, h with
  | a1 :: a2 :: a3 :: a4 :: a5 :: a6 :: a7 :: r, _ =>
    simp [unpackS, sizeL, okT, mayB]
theorem hdR_bounds (b : List UInt8) : 0 ≤ (hdR b).lba ∧ (hdR b).lba < 256 ∧ 0 ≤ (hdR b).len ∧ (hdR b).len < 256 ∧ 0 ≤ (hdR b).kind ∧ (hdR b).kind < 256 ∧ 0 ≤ (hdR b).gen ∧ (hdR b).gen < 4294967296 := by
  have a1 := leN_lt (b.take 1)
  have a2 := leN_lt ((b.drop 1).take 1)
  have a3 := leN_lt ((b.drop 2).take 1)
  have a4 := leN_lt ((b.drop 3).take 4)
  have p : ∀ (l : List UInt8) (n : Nat), 256 ^ (l.take n).length ≤ 256 ^ n := fun l n => Nat.pow_le_pow_right (by decide) (by simp; omega)
  have p1 := p b 1
  have p2 := p (b.drop 1) 1
  have p3 := p (b.drop 2) 1
  have p4 := p (b.drop 3) 4
  simp only [hdR]
  omega
theorem under_cs (k j : Nat) : ∀ l : List UInt8, underX k j (l.map cs) = true
  | [] => rfl
  | a :: l => by simp only [List.map_cons, underX, under_cs k j l]; rfl
@[simp] def sp_extdata (x : Xt) : Option (V × List Tip) := sp_data x
def D18 : Orc := (((Orc.nil.add n_extent_Check (sp1 sp_extOk)).add n_le_Unpack (sp2 sp_unpack)).add n_extent_data (sp1 sp_data)).add n_bytes_Clone (sp1 sp_clone)
theorem sp_clone_ok : EOk Try.prog n_bytes_Clone (sp1 sp_clone) := sp1_ok fun l r h => by
  simp only [sp_clone] at h
  split at h <;> cases h
  exact c_clone l (by assumption)
theorem sp_data_ok : EOk Try.prog n_extent_data (sp1 sp_data) := sp1_ok fun x r h => by
  simp only [sp_data] at h
  split at h <;> cases h
  rename_i h; exact c_data x h.1 h.2
theorem sp_extOk_ok : EOk Try.prog n_extent_Check (sp1 sp_extOk) := sp1_ok fun x r h => by cases h; exact c_ext_Check x
theorem sp_rextOk_ok : EOk Try.prog n_r07_Check (sp1 sp_extOk) := sp1_ok fun x r h => by cases h; exact c_r07_Check x
theorem D18_ok : OOk Try.prog D18 := (((OOk.nil.add sp_extOk_ok).add sp_unpack_ok).add sp_data_ok).add sp_clone_ok
set_option maxRecDepth 4000 in
theorem c_ext_Read1 (m : Mem) (p : Nat) (b : List UInt8) (hb : b.length ≤ 2 ^ 40) (hp : m.boxes[p]? = some [enc b]) :
    Loc Try.prog n_extent_Read_1 [.ptr p 0] m (.tuple [enc (nextX b).1, enc (decide (7 ≤ b.length) && extOk (nextX b).1)]) { m with boxes := m.boxes.set p [enc (nextX b).2] } := by
  refine Loc.ofC D18_ok hm F_extent_Read_1_ok (by simp [F_extent_Read_1]) (.inr ⟨_, rfl, by simp⟩) m.boxes.length m.tips.length (Nat.le_refl _) (Nat.le_refl _) fun hu => ?_
  have hpl : p < m.boxes.length := (List.getElem?_eq_some_iff.1 hp).1
  have hp' : m.boxes[p]? = some [.lit 1 (b.map cs)] := hp
  have hset : m.boxes.set p [.lit 1 (b.map cs)] = m.boxes := setC_self hp'
  obtain ⟨f1, f2, f3, f4, f5, f6, f7⟩ := box_facts hpl
  have hus : ∀ l : List UInt8, underX m.boxes.length m.tips.length (m.boxes.set p [.lit 1 (l.map cs)]) = true := fun l => underX_set hu (by simp only [underL, V.under, Bool.and_true]; exact under_cs _ _ l)
  have hus2 : ∀ n : Nat, underX m.boxes.length m.tips.length (m.boxes.set p [.lit 1 ((b.map cs).drop n)]) = true := fun n => by rw [← List.map_drop]; exact hus _
  by_cases h7 : b.length < 7
  · have h7' : (b.length : Int) < 7 := by omega
    have hn : nextX b = (Xt.zero, b) := by simp [nextX, h7]
    simp [F_extent_Read_1, D18, f1, hp', h7', hn, Xt.zero, hu, hset, Nat.not_le.2 h7]
  · have h7' : ¬ (b.length : Int) < 7 := by omega
    have hp1 := unpack_hd (b := b) (by omega)
    have hu1 : unpackN [98, 98, 98, 119] (b.take 7) = [leN (b.take 1), leN ((b.drop 1).take 1), leN ((b.drop 2).take 1), leN ((b.drop 3).take 4)] := by simp only [unpackN, hp1]; rfl
    have hu2 : unpackE [98, 98, 98, 119] (b.take 7) = 0 := by simp only [unpackE, hp1]; rfl
    have hbd := hdR_bounds b
    simp only [hdR] at hbd
    have hh : hdR b = ⟨leN (b.take 1), leN ((b.drop 1).take 1), leN ((b.drop 2).take 1), leN ((b.drop 3).take 4), []⟩ := rfl
    generalize leN (b.take 1) = a1 at *
    generalize leN ((b.drop 1).take 1) = a2 at *
    generalize leN ((b.drop 2).take 1) = a3 at *
    generalize leN ((b.drop 3).take 4) = a4 at *
    have w1 := IntWalk.i64_in (a1 : Int) (by omega)
    have w2 := IntWalk.i64_in (a2 : Int) (by omega)
    have w3 := IntWalk.i64_in (a3 : Int) (by omega)
    have w4 := IntWalk.i64_in (a4 : Int) (by omega)
    have g1 : (7 : Int) ≤ b.length := by omega
    have g2 : 7 ≤ b.length := by omega
    by_cases hc : a3 = 2 ∧ 0 < a2 ∧ a2 * 32 ≤ b.length - 7
    · obtain ⟨rfl, hc1, hc2⟩ := hc
      have hd : datN (hdR b) = a2 * 32 := by rw [hh]; simp [datN]; omega
      have hn : nextX b = (⟨a1, a2, 2, a4, (b.drop 7).take (a2 * 32)⟩, (b.drop 7).drop (a2 * 32)) := by
        rw [nextX, if_neg h7, hd, if_pos ⟨by omega, by simp; omega⟩, hh]; rfl
      have h1 : (0 : Int) < a2 * 32 := by omega
      have h2 : (a2 : Int) * 32 ≤ (b.length - 7 : Nat) := by omega
      have h3 : ((a2 : Int) * 32).toNat = a2 * 32 := by omega
      have h4 : (0 : Int) ≤ (a2 : Int) * 32 := by omega
      have w3' : IntKind.i64.wrap 2 = 2 := by decide
      simp [F_extent_Read_1, D18, f1, f2, f3, f4, f5, f6, f7, hp', h7', hu1, hu2, w1, w2, w3', w4, f_bbbw, hus2, g1, g2, h1, h2, h3, h4, hn, Nat.ne_of_lt hpl, -Int.natCast_mul]
      omega
    · have hn : nextX b = (⟨a1, a2, a3, a4, []⟩, b.drop 7) := by
        rw [nextX, if_neg h7, if_neg, hh]
        intro ⟨k1, k2⟩
        rw [hh] at k1 k2
        simp only [datN, List.length_drop] at k1 k2
        apply hc
        split at k1 <;> rename_i e
        · rw [if_pos e] at k2
          omega
        · omega
      by_cases h2 : a3 = 2
      · subst h2
        have w3' : IntKind.i64.wrap 2 = 2 := by decide
        by_cases h3 : 0 < a2
        · have h4 : (0 : Int) < a2 * 32 := by omega
          have h5 : ¬ ((a2 : Int) * 32 ≤ (b.length - 7 : Nat)) := by omega
          simp [F_extent_Read_1, D18, f1, f2, f3, f4, f5, f6, f7, hp', h7', hu1, hu2, w1, w2, w3', w4, f_bbbw, hus2, g1, g2, h4, h5, hn, Nat.ne_of_lt hpl, -Int.natCast_mul]
          omega
        · have h4 : a2 = 0 := by omega
          subst h4
          have w2' : IntKind.i64.wrap 0 = 0 := by decide
          simp [F_extent_Read_1, D18, f1, f2, f3, f4, f5, f6, f7, hp', h7', hu1, hu2, w1, w2', w3', w4, f_bbbw, hus2, g1, g2, hn, Nat.ne_of_lt hpl, -Int.natCast_mul]
      · have h2' : ¬ (a3 : Int) = 2 := by omega
        simp [F_extent_Read_1, D18, f1, f2, f3, f4, f5, f6, f7, hp', h7', hu1, hu2, w1, w2, w3, w4, f_bbbw, hus2, g1, g2, h2', hn, Nat.ne_of_lt hpl, -Int.natCast_mul]
        omega
theorem dec_eq_u8 {v : V} {a : UInt8} (h : dec v = some a) : v = enc a := by
  unfold dec instEncUInt8 at h
  simp only at h
  split at h
  · rename_i n
    split at h
    · rename_i h0
      cases h
      show _ = V.val (.int .u8 _)
      have : n.toNat < 256 := by omega
      rw [show (((UInt8.ofNat n.toNat).toNat : Nat) : Int) = n by simp; omega]
    · cases h
  · cases h
theorem decX_u8 : ∀ {xs : List (List V)} {l : List UInt8}, decX xs = some l → xs = l.map cs
  | [], l, h => by cases h; rfl
  | e :: r, l, h => by
    simp only [decX, Option.bind_eq_some_iff] at h
    obtain ⟨a, h1, l', h2, h3⟩ := h
    cases h3
    have h1' : dc1 e = some a := h1
    unfold dc1 at h1'
    split at h1'
    · rw [decX_u8 h2, dec_eq_u8 h1']; rfl
    · cases h1'
/-- A box of bytes, cut by a closure. -/
def boxB (m : Mem) (p : Nat) : Option (List UInt8) := match m.boxes[p]? with
  | some [.lit 1 xs] => decX xs
  | _ => none
theorem boxB_some {m : Mem} {p : Nat} {b : List UInt8} (h : boxB m p = some b) : m.boxes[p]? = some [enc b] := by
  unfold boxB at h
  split at h
  · rename_i xs e
    rw [e, decX_u8 h]; rfl
  · cases h
@[simp] theorem boxB_of {m : Mem} {p : Nat} {b : List UInt8} (h : m.boxes[p]? = some [.lit 1 (b.map cs)]) : boxB m p = some b := by
  simp [boxB, h, decX_map]
def sp_next : List V → Mem → Option (V × Mem)
  | [.ptr p 0], m => (boxB m p).bind fun b => if b.length ≤ 2 ^ 40 then some (.tuple [enc (nextX b).1, enc (decide (7 ≤ b.length) && extOk (nextX b).1)], { m with boxes := m.boxes.set p [enc (nextX b).2] }) else none
  | _, _ => none
theorem sp_next_ok : EOkL Try.prog n_extent_Read_1 sp_next := by
  intro args m v m' h
  unfold sp_next at h
  split at h
  · simp only [Option.bind_eq_some_iff] at h
    obtain ⟨b, hb, h⟩ := h
    split at h <;> cases h
    exact c_ext_Read1 m _ b (by assumption) (boxB_some hb)
  · cases h

/-- So many extents that bytes are. -/
def readN : Nat → List UInt8 → Option (List Xt)
  | 0, b => if b = [] then some [] else none
  | n + 1, b => if 7 ≤ b.length ∧ extOk (nextX b).1 = true then (readN n (nextX b).2).map ((nextX b).1 :: ·) else none
def readX : List UInt8 → Option (List Xt)
  | [] => none
  | c :: b => if c.toNat ≤ 64 then readN c.toNat b else none
def readL (b : List UInt8) : List Xt := (readX b).getD []
def readE (b : List UInt8) : Int := if (readX b).isSome = true then 0 else 70
theorem nextX_length (b : List UInt8) : (nextX b).2.length ≤ b.length := by
  unfold nextX
  split
  · exact Nat.le_refl _
  · split <;> simp <;> omega
def D19 : Orc := Orc.nil.addL n_extent_Read_1 sp_next
theorem D19_ok : OOk Try.prog D19 := OOk.nil.addL sp_next_ok
def XReadJ (b0 : List UInt8) (n : Nat) (k : Nat) (s : Nat → V) (m : Mem) : Prop :=
  ∃ (i t : Nat) (bx : List (List V)) (tips : List Tip) (acc : List Xt) (b : List UInt8), i + k = n ∧ acc.length = i ∧ b.length ≤ 2 ^ 40 ∧ readX b0 = (readN k b).map (acc ++ ·) ∧ s 1 = .ptr 0 0 ∧ s 2 = .row t 5 (acc.map cs) ∧ s 3 = .val (.int .i64 0) ∧ s 4 = .val (.int .i64 n) ∧ s 5 = .func n_extent_Read_1 [.ptr 0 0] ∧
    m = ⟨[.lit 1 (b.map cs)] :: bx, tips⟩ ∧ tips[t]? = some (174, 5, acc.length)
theorem c_ext_Read (b : List UInt8) (hb : b.length ≤ 2 ^ 40) : Pure Try.prog n_extent_Read [enc b] (.tuple [.row 0 5 ((readL b).map cs), enc (readE b)]) [(174, 5, (readL b).length)] := by
  refine Pure.ofR D19_ok hm F_extent_Read_ok (by simp [F_extent_Read]) (by simp [V.res, V.res1]) ?_
  simp [F_extent_Read]
  cases b with
  | nil => 
    refine wp_jumps (fun _ _ _ => False) ?_ (fun _ _ _ h => h.elim)
    simp [F_extent_Read_S0, readL, readE, readX]
  | cons c r =>
    by_cases hc : c.toNat ≤ 64
    · have hc' : ¬ ((64 : Int) < c.toNat) := by omega
      have hw := IntWalk.i64_in (c.toNat : Int) (by omega)
      have rest : ∀ k s m, XReadJ (c :: r) c.toNat k s m → wp Try.prog noY D19 F_extent_Read_B0 s m (jumpQ 0 (fun s m => ∃ j, j < k ∧ IW (XReadJ (c :: r) c.toNat j) s m) (Fin [.tmp 2, .tmp 3] fun v m => ∃ t, keepN [t] v (.tuple [.row 0 5 ((readL (c :: r)).map cs), enc (readE (c :: r))]) ∧ m.tips[t]? = some (174, 5, (readL (c :: r)).length))) := by
        intro k s m ⟨i, t, bx, tips, acc, b, hik, hi, hb, hr, h1, h2, h3, h4, h5, hm, ht⟩
        subst hm
        have hbx : boxB ⟨[.lit 1 (b.map cs)] :: bx, tips⟩ 0 = some b := boxB_of rfl
        have htl : t < tips.length := lt_of_some ht
        by_cases hk : k = 0
        · subst hk
          have e1 : acc.length = c.toNat := by omega
          cases b with
          | nil =>
            have e2 : readX (c :: r) = some acc := by simp [hr, readN]
            simp [F_extent_Read_B0, D19, h1, h2, h3, h4, h5, e1, readL, readE, e2]
            first | exact ht | exact ⟨t, ⟨rfl, rfl⟩, by rw [← e1]; exact ht⟩ | (rw [← e1]; exact ht)
          | cons d b =>
            have e2 : readX (c :: r) = none := by simp [hr, readN]
            simp [F_extent_Read_B0, D19, h1, h2, h3, h4, h5, e1, readL, readE, e2]
        · have e1 : ¬ (acc.length : Int) = c.toNat := by omega
          obtain ⟨k, rfl⟩ : ∃ k', k = k' + 1 := ⟨k - 1, by omega⟩
          cases hx : decide (7 ≤ b.length) && extOk (nextX b).1 with
          | false =>
            have e2 : readX (c :: r) = none := by
              rw [hr, readN, if_neg]
              · rfl
              · simpa using hx
            simp [F_extent_Read_B0, D19, h1, h2, h3, h4, h5, e1, readL, readE, e2, sp_next, hbx, hb, hx]
          | true =>
            have e2 : readX (c :: r) = (readN k (nextX b).2).map ((acc ++ [(nextX b).1]) ++ ·) := by
              rw [hr, readN, if_pos (by simpa using hx)]
              cases readN k (nextX b).2 <;> simp
            have e3 := nextX_length b
            simp [F_extent_Read_B0, D19, h1, h2, h3, h4, h5, e1, sp_next, hbx, hb, hx, ht]
            refine ⟨⟨by rw [List.getElem?_append_left htl]; exact ht, by omega⟩, k, by omega, IW.of (show XReadJ _ _ _ _ _ from ⟨i + 1, t, _, _, acc ++ [(nextX b).1], (nextX b).2, by omega, by simp [hi], by omega, e2, by simpa using h1, by simp, by simpa using h3, by simpa using h4, by simpa using h5, rfl, ?_⟩)⟩
            simp [tipset htl]
      refine wp_jumps (XReadJ (c :: r) c.toNat) ?_ ?_
      · simp [F_extent_Read_S0, D19, hc', hw]
        refine ⟨fun _ => ⟨by omega, wp_mono _ (fun e s m h => ?_) (rest c.toNat _ _ ⟨0, 0, _, _, [], r, by omega, rfl, ?_, ?_, by simp, by simp, by simp, by simp, by simp, rfl, rfl⟩)⟩, fun h => by omega⟩
        · cases e with
          | goto l => exact ⟨h.1, h.2.elim fun j hj => ⟨j, hj.2⟩⟩
          | _ => exact h
        · simp at hb; omega
        · simp [readX, hc]
      · intro k s m hJ
        simp [F_extent_Read_J0]
        exact rest k s m hJ
    · have hc' : (64 : Int) < c.toNat := by omega
      refine wp_jumps (fun _ _ _ => False) ?_ (fun _ _ _ h => h.elim)
      simp [F_extent_Read_S0, readL, readE, readX, hc, hc']
end Go.Av

namespace Go.Av
open Enc (enc dec)
open Cel (cs dc)
open Go.Proofs Pl

theorem leN_leB (v : Nat) : ∀ w, leN (leB v w) = v % 256 ^ w
  | 0 => by rw [leB_zero, Nat.pow_zero, Nat.mod_one]; rfl
  | w + 1 => by
    rw [leB_succ, leN_append, leN_leB v w, leB_length]
    simp only [leN, Nat.mul_zero, Nat.add_zero]
    rw [Nat.pow_succ, Nat.mod_mul, show (UInt8.ofNat (v / 256 ^ w)).toNat = v / 256 ^ w % 256 by simp]
theorem leB_cons (v w : Nat) : leB v (w + 1) = UInt8.ofNat v :: leB (v / 256) w := by
  simp only [leB, List.range_succ_eq_map, List.map_cons, List.map_map, Nat.pow_zero, Nat.div_one]
  congr 1
  refine List.map_congr_left fun i _ => ?_
  simp only [Function.comp, Nat.pow_succ]
  rw [Nat.mul_comm, Nat.div_div_eq_div_mul]
theorem leB_leN : ∀ l : List UInt8, leB (leN l) l.length = l
  | [] => rfl
  | b :: l => by
    have := b.toNat_lt
    have e : UInt8.ofNat (b.toNat + 256 * leN l) = b := by
      apply UInt8.toNat_inj.1
      simp
    rw [List.length_cons, leB_cons, leN, e, show (b.toNat + 256 * leN l) / 256 = leN l by omega, leB_leN l]
theorem hdX_hdR {b : List UInt8} (h : 7 ≤ b.length) (d : List UInt8) : hdX { hdR b with data := d } = b.take 7 := by
  match b, h with
  | a1 :: a2 :: a3 :: a4 :: a5 :: a6 :: a7 :: r, _ =>
    have h1 := leB_leN [a1]
    have h2 := leB_leN [a2]
    have h3 := leB_leN [a3]
    have h4 := leB_leN [a4, a5, a6, a7]
    simp only [List.length_cons, List.length_nil] at h1 h2 h3 h4
    simp only [hdX, hdR, Int.toNat_natCast, List.take_succ_cons, List.take_zero, List.drop_succ_cons, List.drop_zero]
    rw [h1, h2, h3, h4]
    rfl
theorem hdR_hdX {x : Xt} (h : extOk x = true) (r : List UInt8) : hdR (hdX x ++ r) = { x with data := [] } := by
  have h := extOk_iff.1 h
  obtain ⟨a, b, c, d, e⟩ := x
  simp only at h
  have e1 : (hdX ⟨a, b, c, d, e⟩ ++ r) = leB a.toNat 1 ++ (leB b.toNat 1 ++ (leB c.toNat 1 ++ (leB d.toNat 4 ++ r))) := by simp [hdX]
  have t : ∀ v w r, (leB v w ++ r).take w = leB v w := fun v w r => by rw [List.take_left' (leB_length v w)]
  have d' : ∀ v w r, (leB v w ++ r).drop w = r := fun v w r => by rw [List.drop_left' (leB_length v w)]
  have d2 : (hdX ⟨a, b, c, d, e⟩ ++ r).drop 2 = leB c.toNat 1 ++ (leB d.toNat 4 ++ r) := by
    rw [show (2 : Nat) = 1 + 1 from rfl, ← List.drop_drop, e1, d', d']
  have d3 : (hdX ⟨a, b, c, d, e⟩ ++ r).drop 3 = leB d.toNat 4 ++ r := by
    rw [show (3 : Nat) = 2 + 1 from rfl, ← List.drop_drop, d2, d']
  rw [hdR, d2, d3, e1, t, d', t, t, t]
  simp only [leN_leB, Xt.mk.injEq, and_true]
  omega
/-- An extent's bytes, read again. -/
theorem next_wr {x : Xt} (h : extOk x = true) (r : List UInt8) : nextX (wr1 x ++ r) = (x, r) := by
  have h7 := hdX_length x
  have e : wr1 x ++ r = hdX x ++ (x.data ++ r) := by simp [wr1]
  have hh := hdR_hdX h (x.data ++ r)
  have hd : (hdX x ++ (x.data ++ r)).drop 7 = x.data ++ r := by rw [List.drop_left' h7]
  have hl := (extOk_iff.1 h)
  rw [e, nextX, if_neg (by simp; omega), hh, hd]
  by_cases hk : x.kind = 2
  · have hn : datN { x with data := [] } = x.data.length := by
      have := hl.2.2.2.2.2.2.2.2
      rw [if_pos hk] at this
      simp only [datN, hk, if_true]
      omega
    have := hl.2.2.2.2.2.2.2.2
    rw [if_pos hk] at this
    rw [hn, if_pos ⟨by omega, by simp⟩]
    simp
  · have hn : datN { x with data := [] } = 0 := by simp [datN, hk]
    have := hl.2.2.2.2.2.2.2.2
    rw [if_neg hk] at this
    have e0 : x.data = [] := List.eq_nil_of_length_eq_zero (by omega)
    rw [hn, if_neg (by omega), e0]
    simp only [List.nil_append, Prod.mk.injEq, and_true]
    rw [← e0]
theorem wr_next {b : List UInt8} (h7 : 7 ≤ b.length) (h : extOk (nextX b).1 = true) : wr1 (nextX b).1 ++ (nextX b).2 = b := by
  rw [nextX, if_neg (by omega)] at h ⊢
  split
  · rename_i hc
    rw [wr1, hdX_hdR h7, List.append_assoc, List.take_append_drop, List.take_append_drop]
  · have := hdX_hdR h7 []
    have e : ({ hdR b with data := [] } : Xt) = hdR b := rfl
    rw [e] at this
    rw [wr1, this]
    show b.take 7 ++ [] ++ b.drop 7 = b
    rw [List.append_nil, List.take_append_drop]
theorem readN_some : ∀ {n : Nat} {b : List UInt8} {l : List Xt}, readN n b = some l ↔ l.length = n ∧ l.all extOk = true ∧ l.flatMap wr1 = b
  | 0, b, l => by
    simp only [readN]
    constructor
    · intro h
      split at h
      · rename_i e; cases h; subst e; exact ⟨rfl, rfl, rfl⟩
      · cases h
    · intro ⟨h1, h2, h3⟩
      have e := List.eq_nil_of_length_eq_zero h1
      subst e
      subst h3
      rfl
  | n + 1, b, l => by
    simp only [readN]
    constructor
    · intro h
      split at h
      · rename_i hc
        simp only [Option.map_eq_some_iff] at h
        obtain ⟨l', h1, rfl⟩ := h
        obtain ⟨k1, k2, k3⟩ := readN_some.1 h1
        refine ⟨by simp [k1], by simp [hc.2, k2], ?_⟩
        rw [List.flatMap_cons, k3, wr_next hc.1 hc.2]
      · cases h
    · intro ⟨h1, h2, h3⟩
      cases l with
      | nil => cases h1
      | cons x l =>
        simp only [List.all_cons, Bool.and_eq_true] at h2
        rw [List.flatMap_cons] at h3
        subst h3
        rw [next_wr h2.1]
        have : 7 ≤ (wr1 x ++ l.flatMap wr1).length := by simp [wr1, hdX_length]
        rw [if_pos ⟨this, h2.1⟩]
        simp only
        rw [(readN_some (n := n)).2 ⟨by simpa using h1, h2.2, rfl⟩]
        rfl
theorem readX_some {b : List UInt8} {l : List Xt} : readX b = some l ↔ wrOk l = true ∧ wrB l = b := by
  cases b with
  | nil => simp [readX, wrB]
  | cons c b =>
    simp only [readX, wrOk, wrB, Bool.and_eq_true, decide_eq_true_eq, List.cons.injEq]
    constructor
    · intro h
      split at h
      · obtain ⟨h1, h2, h3⟩ := readN_some.1 h
        refine ⟨⟨by omega, h2⟩, ?_, h3⟩
        rw [h1]
        simp
      · cases h
    · intro ⟨⟨h1, h2⟩, h3, h4⟩
      subst h3
      have : (UInt8.ofNat l.length).toNat = l.length := by simp; omega
      rw [this, if_pos h1]
      exact readN_some.2 ⟨rfl, h2, h4⟩
/-- By the reference: extents of whatever kind. -/
def weak1 (b : List UInt8) : Option (Xt × List UInt8) := if b.length < 7 then none else
  if (hdR b).kind = 2 then if b.length - 7 < (hdR b).len.toNat * 32 then none else some ({ hdR b with data := (b.drop 7).take ((hdR b).len.toNat * 32) }, (b.drop 7).drop ((hdR b).len.toNat * 32)) else some (hdR b, b.drop 7)
def weakN : Nat → List UInt8 → Option (List Xt)
  | 0, _ => some []
  | n + 1, b => (weak1 b).bind fun p => (weakN n p.2).map (p.1 :: ·)
theorem weak1_next {b : List UInt8} (h7 : 7 ≤ b.length) (h : extOk (nextX b).1 = true) : weak1 b = some (nextX b) := by
  have hb := hdR_bounds b
  rw [nextX, if_neg (by omega)] at h ⊢
  rw [weak1, if_neg (by omega)]
  by_cases hk : (hdR b).kind = 2
  · have hn : datN (hdR b) = (hdR b).len.toNat * 32 := by simp only [datN, hk, if_true]; omega
    rw [if_pos hk]
    split at h
    · rename_i hc
      rw [if_neg (by simp only [List.length_drop] at hc; omega), if_pos hc, hn]
    · have := (extOk_iff.1 h)
      rw [if_pos hk] at this
      simp only [hdR, List.length_nil] at this hb
      omega
  · have hn : datN (hdR b) = 0 := by simp [datN, hk]
    rw [if_neg hk, hn, if_neg (by omega)]
theorem weakN_some : ∀ {n : Nat} {b : List UInt8} {l : List Xt}, readN n b = some l → weakN n b = some l
  | 0, b, l, h => by
    simp only [readN] at h
    split at h
    · cases h; rfl
    · cases h
  | n + 1, b, l, h => by
    simp only [readN] at h
    split at h
    · rename_i hc
      simp only [Option.map_eq_some_iff] at h
      obtain ⟨l', h1, rfl⟩ := h
      rw [weakN, weak1_next hc.1 hc.2]
      simp [weakN_some h1]
    · cases h
theorem weak_read (c : UInt8) (b : List UInt8) : readX (c :: b) = (weakN c.toNat b).bind fun l => if wrOk l = true ∧ wrB l = c :: b then some l else none := by
  cases h : readX (c :: b) with
  | some l =>
    have h2 := readX_some.1 h
    simp only [readX] at h
    split at h
    · rw [weakN_some h]; simp [h2]
    · cases h
  | none =>
    cases hw : weakN c.toNat b with
    | none => rfl
    | some l =>
      simp only [Option.bind_some]
      rw [if_neg]
      intro h2
      rw [readX_some.2 h2] at h
      cases h

@[simp] def sp_write (l : List Xt) : Option (V × List Tip) := some (.tuple [.row 0 1 ((writeB l).map cs), enc (writeE l)], [(5, 1, (writeB l).length)])
theorem sp_rwrite_ok : EOk Try.prog n_r07_Write (sp1 sp_write) := sp1_ok fun l r h => by cases h; exact c_r07_Write l
def D20 : Orc := (Orc.nil.add n_r07_Write (sp1 sp_write)).add n_r01_Unpack (sp2 sp_unpack)
theorem D20_ok : OOk Try.prog D20 := (OOk.nil.add sp_rwrite_ok).add sp_runpack_ok
def RXReadI (c : UInt8) (r : List UInt8) (k : Nat) (s : Nat → V) (m : Mem) : Prop :=
  ∃ (i t a : Nat) (bx : List (List V)) (tips : List Tip) (acc : List Xt), i + k = c.toNat ∧ acc.length = i ∧ 1 ≤ a ∧ a ≤ (c :: r).length ∧ weakN c.toNat r = (weakN k ((c :: r).drop a)).map (acc ++ ·) ∧ s 0 = .lit 1 ((c :: r).map cs) ∧ s 4 = .row t 5 (acc.map cs) ∧ s 5 = .val (.int .i64 a) ∧ s 6 = .val (.int .i64 i) ∧
    m = ⟨bx, tips⟩ ∧ tips[t]? = some (174, 5, acc.length)
set_option maxRecDepth 4000 in
theorem c_r07_Read (b : List UInt8) (hb : b.length ≤ 2 ^ 40) : Pure Try.prog n_r07_Read [enc b] (.tuple [.row 0 5 ((readL b).map cs), enc (readE b)]) [(174, 5, (readL b).length)] := by
  refine Pure.ofR D20_ok hm F_r07_Read_ok (by simp [F_r07_Read]) (by simp [V.res, V.res1]) ?_
  cases b with
  | nil => simp [F_r07_Read, readL, readE, readX]
  | cons c r =>
    have hcl := c.toNat_lt
    have hw := IntWalk.i64_in (c.toNat : Int) (by omega)
    have hne : ¬ ((r.length : Int) + 1 = 0) := by omega
    simp [F_r07_Read, hne]
    refine wp_loop (RXReadI c r) c.toNat (IW.of ⟨0, 1, 1, _, _, [], by omega, rfl, Nat.le_refl _, by simp, by simp, by simp, by simp, by simp, by simp, rfl, by simp⟩) fun k s m ⟨i, t, a, bx, tips, acc, hik, hi, ha1, ha2, hr, h0, h4, h5, h6, hm, ht⟩ => ?_
    subst hm
    have htl : t < tips.length := lt_of_some ht
    have hrd := weak_read c r
    by_cases hk : k = 0
    · subst hk
      have e1 : ¬ (i : Int) < c.toNat := by omega
      have e2 : weakN c.toNat r = some acc := by simp [hr, weakN]
      rw [e2, Option.bind_some] at hrd
      cases hwo : wrOk acc with
      | false =>
        simp [hwo] at hrd
        simp [F_r07_Read_L0, D20, h0, h4, h5, h6, hw, e1, readL, readE, hrd, writeE, hwo]
      | true =>
        by_cases he : wrB acc = c :: r
        · simp [hwo, he] at hrd
          simp [F_r07_Read_L0, D20, h0, h4, h5, h6, hw, e1, readL, readE, hrd, writeE, writeB, hwo, he]
          rw [List.getElem?_append_left htl, ht]
        · simp [hwo, he] at hrd
          simp [F_r07_Read_L0, D20, h0, h4, h5, h6, hw, e1, readL, readE, hrd, writeE, writeB, hwo, he]
    · have e1 : (i : Int) < c.toNat := by omega
      obtain ⟨k, rfl⟩ : ∃ k', k = k' + 1 := ⟨k - 1, by omega⟩
      have hbd := hdR_bounds ((c :: r).drop a)
      have hdt : ((c :: r).take (a + 7)).drop a = ((c :: r).drop a).take 7 := by rw [List.drop_take]; congr 1; omega
      generalize hB : c :: r = B at *
      have hgB : B[0]? = some c := by rw [← hB]; rfl
      have hcs : (B.map cs)[0]? = some (cs c) := by rw [← hB]; rfl
      have w1 := IntWalk.i64_in ((B.length : Int) - a) (by omega)
      have w2 := IntWalk.i64_in ((a : Int) + 7) (by omega)
      rw [weakN, weak1, List.length_drop] at hr
      by_cases hl : B.length - a < 7
      · have hl1 : ((B.length : Int) - a) < 7 := by omega
        rw [if_pos hl] at hr
        simp [hr] at hrd
        simp [F_r07_Read_L0, D20, h0, h4, h5, h6, hw, hgB, e1, w1, hl1, readL, readE, hrd]
      · have hl1 : ¬ ((B.length : Int) - a) < 7 := by omega
        have hl2 : ((a : Int) + 7) ≤ B.length := by omega
        have hl3 : ((a : Int) + 7).toNat = a + 7 := by omega
        rw [if_neg hl] at hr
        have hp1 := unpack_hd (b := B.drop a) (by simp; omega)
        have hu1 : unpackN [98, 98, 98, 119] ((B.drop a).take 7) = [leN ((B.drop a).take 1), leN (((B.drop a).drop 1).take 1), leN (((B.drop a).drop 2).take 1), leN (((B.drop a).drop 3).take 4)] := by simp only [unpackN, hp1]; rfl
        have hu2 : unpackE [98, 98, 98, 119] ((B.drop a).take 7) = 0 := by simp only [unpackE, hp1]; rfl
        have hh : hdR (B.drop a) = ⟨leN ((B.drop a).take 1), leN (((B.drop a).drop 1).take 1), leN (((B.drop a).drop 2).take 1), leN (((B.drop a).drop 3).take 4), []⟩ := rfl
        rw [hh] at hr
        simp only [hdR] at hbd
        clear hh hp1
        generalize leN ((B.drop a).take 1) = a1 at *
        generalize leN (((B.drop a).drop 1).take 1) = a2 at *
        generalize leN (((B.drop a).drop 2).take 1) = a3 at *
        generalize leN (((B.drop a).drop 3).take 4) = a4 at *
        simp only [List.drop_drop] at hr
        have v1 := IntWalk.i64_in (a1 : Int) (by omega)
        have v2 := IntWalk.i64_in (a2 : Int) (by omega)
        have v3 := IntWalk.i64_in (a3 : Int) (by omega)
        have v4 := IntWalk.i64_in (a4 : Int) (by omega)
        have v5 := IntWalk.i64_in ((B.length : Int) - (a + 7)) (by omega)
        have v6 := IntWalk.i64_in (32 * (a2 : Int)) (by omega)
        have v7 := IntWalk.i64_in ((a : Int) + 7 + 32 * (a2 : Int)) (by omega)
        have v9 : ((a : Int) + 7 + 32 * (a2 : Int)).toNat = a + 7 + a2 * 32 := by omega
        have v8 := IntWalk.i64_in ((i : Int) + 1) (by omega)
        by_cases hk2 : a3 = 2
        · subst hk2
          have v3' : IntKind.i64.wrap 2 = 2 := by decide
          by_cases hd : B.length - a - 7 < a2 * 32
          · have hd1 : (B.length : Int) - (a + 7) < 32 * (a2 : Int) := by omega
            simp [hd] at hr
            simp [hr] at hrd
            simp [F_r07_Read_L0, D20, h0, h4, h5, h6, hw, hgB, e1, w1, w2, hl1, hl2, hl3, readL, readE, hrd, hdt, hu1, hu2, v1, v2, v3', v4, v5, v6, v7, f_bbbw, hd1]
            exact ⟨by omega, by omega⟩
          · have hd1 : ¬ (B.length : Int) - (a + 7) < 32 * (a2 : Int) := by omega
            simp [hd] at hr
            simp [F_r07_Read_L0, D20, h0, h4, h5, h6, hw, hgB, e1, w1, w2, hl1, hl2, hl3, hdt, hu1, hu2, v1, v2, v3', v4, v5, v6, v7, v8, v9, f_bbbw, hd1, ht, -Int.natCast_mul]
            subst hB
            refine ⟨by omega, by omega, ⟨by omega, by omega, by omega⟩, by omega, ⟨by rw [List.getElem?_append_left htl]; exact ht, by omega⟩, k, by omega,
              IW.rowSlot (d := 4) (acc ++ [⟨a1, a2, 2, a4, ((c :: r).take (a + 7 + a2 * 32)).drop (a + 7)⟩]) (by simp; rfl) (by simp [decX_append, decX_map, v9]) rfl ⟨i + 1, t, a + 7 + a2 * 32, _, _, _, by omega, by simp [hi], by omega, by omega, ?_, by simpa using h0, rfl, by simp; omega, by simp, rfl, ?_⟩⟩
            · rw [hr, List.drop_take, show a + 7 + a2 * 32 - (a + 7) = a2 * 32 by omega]
              cases weakN k ((c :: r).drop (a + 7 + a2 * 32)) <;> simp
            · simp [tipset htl]
        · have hk3 : ¬ (a3 : Int) = 2 := by omega
          simp [hk3] at hr
          simp [F_r07_Read_L0, D20, h0, h4, h5, h6, hw, hgB, e1, w1, w2, hl1, hl2, hl3, hdt, hu1, hu2, v1, v2, v3, v4, v5, v6, v7, v8, f_bbbw, hk3, ht]
          subst hB
          refine ⟨by omega, by omega, ⟨by rw [List.getElem?_append_left htl]; exact ht, by omega⟩, k, by omega,
            IW.of (show RXReadI c r k _ _ from ⟨i + 1, t, a + 7, _, _, acc ++ [⟨a1, a2, a3, a4, []⟩], by omega, by simp [hi], by omega, by omega, ?_, by simpa using h0, by simp, by simp, by simp, rfl, ?_⟩)⟩
          · rw [hr]
            cases weakN k ((c :: r).drop (a + 7)) <;> simp
          · simp [tipset htl]
end Go.Av

namespace Go.Av
open Go.Proofs

@[simp] abbrev n_extmap_New : FuncId := 118
def F_extmap_New : F := ⟨(.seq (.ops [⟨(some 2), none, (.nil 174 5 true)⟩, ⟨(some 3), none, (.mov (.c (.int .i64 0)))⟩]) (.seq (.seq (.ops [⟨(some 4), none, (.mov (.t 0))⟩, ⟨(some 5), none, (.bin .lss (.t 4) (.c (.int .i64 1)))⟩, ⟨(some 6), none, (.mov (.t 5))⟩, ⟨(some 7), (some (6, false)), (.mov (.t 0))⟩, ⟨(some 8), (some (6, false)), (.bin .gtr (.t 7) (.c (.int .i64 64)))⟩, ⟨(some 9), none, (.pick (.t 6) (.c (.bool true)) (.t 8))⟩]) (.cond (.t 9) (.seq (.ops [⟨(some 2), none, (.nil 174 5 true)⟩, ⟨(some 3), none, (.mov (.c (.int .i64 81)))⟩]) .ret) .skip)) (.seq (.ops [⟨(some 10), none, (.mov (.t 0))⟩, ⟨(some 11), none, (.bld [(.val (.int .i64 0)), (.val (.int .i64 0)), (.val (.int .i64 0)), (.val (.int .i64 0)), (.lit 1 [])] [(1, (1, (.t 10)))])⟩, ⟨(some 12), none, (.mkl 174 5 [(.t 11)] true)⟩, ⟨(some 2), none, (.mov (.t 12))⟩, ⟨(some 3), none, (.mov (.c (.int .i64 0)))⟩]) .ret))), 13, [(.tmp 2), (.tmp 3)]⟩
theorem F_extmap_New_ok : compF Try.prog (fun _ => true) 118 = some F_extmap_New := by kernel_rfl
@[simp] abbrev n_extmap_Check : FuncId := 138
def F_extmap_Check_L0 : C := (.seq (.ops [⟨(some 11), none, (.bin .lss (.t 10) (.t 9))⟩]) (.seq (.cond (.t 11) .skip (.exit 0)) (.seq (.block 1 (.seq (.ops [⟨(some 12), none, (.mov (.t 10))⟩, ⟨(some 13), none, (.ixs (.t 8) (.t 10) 5)⟩, ⟨(some 14), none, (.lde (.t 13) (some 5))⟩, ⟨(some 7), none, (.alc [(.val (.int .i64 0)), (.val (.int .i64 0)), (.val (.int .i64 0)), (.val (.int .i64 0)), (.lit 1 [])])⟩, ⟨(some 6), none, (.mov (.t 12))⟩, ⟨none, none, (.st (.t 7) 5 (.t 14))⟩]) (.seq (.seq (.dops false [] [⟨(some 15), none, (.ld (.t 7) (some 5))⟩, ⟨(some 16), none, (.call 119 [(.t 15)])⟩, ⟨(some 17), none, (.un .not (.t 16))⟩, ⟨(some 18), none, (.mov (.t 17))⟩, ⟨(some 19), (some (18, false)), (.fad (.t 7) 0)⟩, ⟨(some 20), (some (18, false)), (.ld (.t 19) none)⟩, ⟨(some 21), (some (18, false)), (.mov (.t 5))⟩, ⟨(some 22), (some (18, false)), (.bin .neq (.t 20) (.t 21))⟩, ⟨(some 23), none, (.pick (.t 18) (.c (.bool true)) (.t 22))⟩, ⟨(some 24), none, (.mov (.t 23))⟩, ⟨(some 25), (some (24, false)), (.mov (.t 6))⟩, ⟨(some 26), (some (24, false)), (.bin .gtr (.t 25) (.c (.int .i64 0)))⟩, ⟨(some 27), (some (24, false)), (.mov (.t 26))⟩, ⟨(some 28), (some (27, true)), (.mov (.t 1))⟩, ⟨(some 29), (some (27, true)), (.mov (.t 6))⟩, ⟨(some 30), (some (27, true)), (.bin .sub (.t 29) (.c (.int .i64 1)))⟩, ⟨(some 31), (some (27, true)), (.ixs (.t 28) (.t 30) 5)⟩, ⟨(some 32), (some (27, true)), (.lde (.t 31) (some 5))⟩, ⟨(some 33), (some (27, true)), (.ld (.t 7) (some 5))⟩, ⟨(some 34), (some (27, true)), (.call 177 [(.t 32), (.t 33)])⟩, ⟨(some 35), (some (24, false)), (.pick (.t 27) (.t 34) (.c (.bool false)))⟩, ⟨(some 36), none, (.pick (.t 24) (.c (.bool true)) (.t 35))⟩]) (.cond (.t 36) (.seq (.ops [⟨(some 4), none, (.mov (.c (.bool false)))⟩]) .ret) .skip)) (.ops [⟨(some 37), none, (.mov (.t 5))⟩, ⟨(some 38), none, (.fad (.t 7) 1)⟩, ⟨(some 39), none, (.ld (.t 38) none)⟩, ⟨(some 40), none, (.bin .add (.t 37) (.t 39))⟩, ⟨(some 5), none, (.mov (.t 40))⟩])))) (.ops [⟨(some 41), none, (.bin .add (.t 10) (.c (.int .i64 1)))⟩, ⟨(some 10), none, (.mov (.t 41))⟩]))))
def F_extmap_Check : F := ⟨(.seq (.ops [⟨(some 4), none, (.mov (.c (.bool false)))⟩]) (.seq (.ops [⟨(some 5), none, (.mov (.c (.int .i64 0)))⟩]) (.seq (.seq (.ops [⟨(some 8), none, (.mov (.t 1))⟩, ⟨(some 9), none, (.len (.t 8))⟩, ⟨(some 10), none, (.mov (.c (.int .i64 0)))⟩]) (.block 0 (.loop F_extmap_Check_L0))) (.seq (.ops [⟨(some 42), none, (.mov (.t 1))⟩, ⟨(some 43), none, (.len (.t 42))⟩, ⟨(some 44), none, (.bin .gtr (.t 43) (.c (.int .i64 0)))⟩, ⟨(some 45), none, (.mov (.t 44))⟩, ⟨(some 46), (some (45, true)), (.mov (.t 5))⟩, ⟨(some 47), (some (45, true)), (.mov (.t 0))⟩, ⟨(some 48), (some (45, true)), (.bin .eql (.t 46) (.t 47))⟩, ⟨(some 49), none, (.pick (.t 45) (.t 48) (.c (.bool false)))⟩, ⟨(some 4), none, (.mov (.t 49))⟩]) .ret)))), 50, [(.tmp 4)]⟩
theorem F_extmap_Check_ok : compF Try.prog (fun _ => true) 138 = some F_extmap_Check := by kernel_rfl
@[simp] abbrev n_r08_Check : FuncId := 172
def F_r08_Check_L0 : C := (.seq (.seq (.ops [⟨(some 15), none, (.mov (.t 6))⟩, ⟨(some 16), none, (.mov (.t 1))⟩, ⟨(some 17), none, (.len (.t 16))⟩, ⟨(some 18), none, (.bin .lss (.t 15) (.t 17))⟩]) (.cond (.t 18) .skip (.exit 0))) (.seq (.block 1 (.seq (.ops [⟨(some 21), none, (.mov (.t 1))⟩, ⟨(some 22), none, (.mov (.t 6))⟩, ⟨(some 23), none, (.ixs (.t 21) (.t 22) 5)⟩, ⟨(some 24), none, (.lde (.t 23) (some 5))⟩, ⟨(some 25), none, (.call 174 [(.t 24)])⟩, ⟨(some 7), none, (.mov (.t 25))⟩]) (.seq (.seq (.ops [⟨(some 26), none, (.mov (.t 7))⟩, ⟨(some 27), none, (.un .not (.t 26))⟩, ⟨(some 28), none, (.mov (.t 27))⟩, ⟨(some 29), (some (28, false)), (.mov (.t 1))⟩, ⟨(some 30), (some (28, false)), (.mov (.t 6))⟩, ⟨(some 31), (some (28, false)), (.ixs (.t 29) (.t 30) 5)⟩, ⟨(some 32), (some (28, false)), (.fad (.t 31) 0)⟩, ⟨(some 33), (some (28, false)), (.lde (.t 32) none)⟩, ⟨(some 34), (some (28, false)), (.mov (.t 5))⟩, ⟨(some 35), (some (28, false)), (.bin .neq (.t 33) (.t 34))⟩, ⟨(some 36), none, (.pick (.t 28) (.c (.bool true)) (.t 35))⟩]) (.cond (.t 36) (.seq (.ops [⟨(some 4), none, (.mov (.c (.bool false)))⟩]) .ret) .skip)) (.seq (.seq (.ops [⟨(some 37), none, (.mov (.t 6))⟩, ⟨(some 38), none, (.bin .gtr (.t 37) (.c (.int .i64 0)))⟩]) (.cond (.t 38) (.seq (.dops false [] [⟨(some 39), none, (.mov (.t 1))⟩, ⟨(some 40), none, (.mov (.t 6))⟩, ⟨(some 41), none, (.bin .sub (.t 40) (.c (.int .i64 1)))⟩, ⟨(some 42), none, (.ixs (.t 39) (.t 41) 5)⟩, ⟨(some 43), none, (.lde (.t 42) (some 5))⟩, ⟨(some 44), none, (.mov (.t 1))⟩, ⟨(some 45), none, (.mov (.t 6))⟩, ⟨(some 46), none, (.ixs (.t 44) (.t 45) 5)⟩, ⟨(some 47), none, (.lde (.t 46) (some 5))⟩, ⟨(some 48), none, (.call 200 [(.t 43), (.t 47)])⟩, ⟨(some 8), none, (.mov (.t 48))⟩]) (.seq (.ops [⟨(some 49), none, (.mov (.t 8))⟩]) (.cond (.t 49) (.seq (.ops [⟨(some 4), none, (.mov (.c (.bool false)))⟩]) .ret) .skip))) .skip)) (.ops [⟨(some 50), none, (.mov (.t 5))⟩, ⟨(some 51), none, (.mov (.t 1))⟩, ⟨(some 52), none, (.mov (.t 6))⟩, ⟨(some 53), none, (.ixs (.t 51) (.t 52) 5)⟩, ⟨(some 54), none, (.fad (.t 53) 1)⟩, ⟨(some 55), none, (.lde (.t 54) none)⟩, ⟨(some 56), none, (.bin .add (.t 50) (.t 55))⟩, ⟨(some 5), none, (.mov (.t 56))⟩]))))) (.ops [⟨(some 19), none, (.mov (.t 6))⟩, ⟨(some 20), none, (.bin .add (.t 19) (.c (.int .i64 1)))⟩, ⟨(some 6), none, (.mov (.t 20))⟩])))
def F_r08_Check : F := ⟨(.seq (.ops [⟨(some 4), none, (.mov (.c (.bool false)))⟩]) (.seq (.seq (.ops [⟨(some 9), none, (.mov (.t 0))⟩, ⟨(some 10), none, (.bin .lss (.t 9) (.c (.int .i64 1)))⟩, ⟨(some 11), none, (.mov (.t 10))⟩, ⟨(some 12), (some (11, false)), (.mov (.t 0))⟩, ⟨(some 13), (some (11, false)), (.bin .gtr (.t 12) (.c (.int .i64 64)))⟩, ⟨(some 14), none, (.pick (.t 11) (.c (.bool true)) (.t 13))⟩]) (.cond (.t 14) (.seq (.ops [⟨(some 4), none, (.mov (.c (.bool false)))⟩]) .ret) .skip)) (.seq (.ops [⟨(some 5), none, (.mov (.c (.int .i64 0)))⟩]) (.seq (.seq (.ops [⟨(some 6), none, (.mov (.c (.int .i64 0)))⟩]) (.block 0 (.loop F_r08_Check_L0))) (.seq (.ops [⟨(some 57), none, (.mov (.t 5))⟩, ⟨(some 58), none, (.mov (.t 0))⟩, ⟨(some 59), none, (.bin .eql (.t 57) (.t 58))⟩, ⟨(some 4), none, (.mov (.t 59))⟩]) .ret))))), 60, [(.tmp 4)]⟩
theorem F_r08_Check_ok : compF Try.prog (fun _ => true) 172 = some F_r08_Check := by kernel_rfl
@[simp] abbrev n_slices_ContainsFunc_Extent : FuncId := 139
def F_slices_ContainsFunc_Extent : F := ⟨(.seq (.ops [⟨(some 4), none, (.mov (.c (.bool false)))⟩]) (.seq (.ops [⟨(some 5), none, (.mov (.t 0))⟩, ⟨(some 6), none, (.mov (.t 1))⟩, ⟨(some 7), none, (.call 178 [(.t 5), (.t 6)])⟩, ⟨(some 8), none, (.bin .geq (.t 7) (.c (.int .i64 0)))⟩, ⟨(some 4), none, (.mov (.t 8))⟩]) .ret)), 9, [(.tmp 4)]⟩
theorem F_slices_ContainsFunc_Extent_ok : compF Try.prog (fun _ => true) 139 = some F_slices_ContainsFunc_Extent := by kernel_rfl
@[simp] abbrev n_slices_IndexFunc_Extent : FuncId := 178
def F_slices_IndexFunc_Extent_L0 : C := (.seq (.ops [⟨(some 9), none, (.bin .lss (.t 8) (.t 7))⟩]) (.seq (.cond (.t 9) .skip (.exit 0)) (.seq (.block 1 (.seq (.ops [⟨(some 10), none, (.mov (.t 8))⟩, ⟨(some 5), none, (.mov (.t 10))⟩]) (.seq (.ops [⟨(some 11), none, (.mov (.t 1))⟩, ⟨(some 12), none, (.mov (.t 0))⟩, ⟨(some 13), none, (.mov (.t 5))⟩, ⟨(some 14), none, (.ixs (.t 12) (.t 13) 5)⟩, ⟨(some 15), none, (.lde (.t 14) (some 5))⟩, ⟨(some 16), none, (.callv (.t 11) [(.t 15)])⟩]) (.cond (.t 16) (.seq (.ops [⟨(some 17), none, (.mov (.t 5))⟩, ⟨(some 4), none, (.mov (.t 17))⟩]) .ret) .skip)))) (.ops [⟨(some 18), none, (.bin .add (.t 8) (.c (.int .i64 1)))⟩, ⟨(some 8), none, (.mov (.t 18))⟩]))))
def F_slices_IndexFunc_Extent : F := ⟨(.seq (.ops [⟨(some 4), none, (.mov (.c (.int .i64 0)))⟩]) (.seq (.seq (.ops [⟨(some 6), none, (.mov (.t 0))⟩, ⟨(some 7), none, (.len (.t 6))⟩, ⟨(some 8), none, (.mov (.c (.int .i64 0)))⟩]) (.block 0 (.loop F_slices_IndexFunc_Extent_L0))) (.seq (.ops [⟨(some 4), none, (.mov (.c (.int .i64 (-1))))⟩]) .ret))), 19, [(.tmp 4)]⟩
theorem F_slices_IndexFunc_Extent_ok : compF Try.prog (fun _ => true) 178 = some F_slices_IndexFunc_Extent := by kernel_rfl
@[simp] abbrev n_state_within : FuncId := 93
def F_state_within : F := ⟨(.seq (.ops [⟨(some 6), none, (.mov (.c (.bool false)))⟩]) (.seq (.ops [⟨(some 7), none, (.mov (.t 0))⟩, ⟨(some 8), none, (.mov (.t 1))⟩, ⟨(some 9), none, (.bin .geq (.t 7) (.t 8))⟩, ⟨(some 10), none, (.mov (.t 9))⟩, ⟨(some 11), (some (10, true)), (.mov (.t 0))⟩, ⟨(some 12), (some (10, true)), (.mov (.t 2))⟩, ⟨(some 13), (some (10, true)), (.bin .leq (.t 11) (.t 12))⟩, ⟨(some 14), none, (.pick (.t 10) (.t 13) (.c (.bool false)))⟩, ⟨(some 6), none, (.mov (.t 14))⟩]) .ret)), 15, [(.tmp 6)]⟩
theorem F_state_within_ok : compF Try.prog (fun _ => true) 93 = some F_state_within := by kernel_rfl
@[simp] abbrev n_state_upto : FuncId := 92
def F_state_upto : F := ⟨(.seq (.ops [⟨(some 5), none, (.box (.t 2))⟩, ⟨(some 6), none, (.mov (.c (.bool false)))⟩]) (.seq (.ops [⟨(some 7), none, (.mov (.t 0))⟩, ⟨(some 8), none, (.mov (.t 1))⟩, ⟨(some 9), none, (.call 138 [(.t 7), (.t 8)])⟩, ⟨(some 10), none, (.mov (.t 9))⟩, ⟨(some 11), (some (10, true)), (.mov (.t 1))⟩, ⟨(some 12), (some (10, true)), (.mkf 140 [(.t 5)])⟩, ⟨(some 13), (some (10, true)), (.call 139 [(.t 11), (.t 12)])⟩, ⟨(some 14), (some (10, true)), (.un .not (.t 13))⟩, ⟨(some 15), none, (.pick (.t 10) (.t 14) (.c (.bool false)))⟩, ⟨(some 6), none, (.mov (.t 15))⟩]) .ret)), 16, [(.tmp 6)]⟩
theorem F_state_upto_ok : compF Try.prog (fun _ => true) 92 = some F_state_upto := by kernel_rfl
@[simp] abbrev n_state_upto_1 : FuncId := 140
def F_state_upto_1 : F := ⟨(.seq (.ops [⟨(some 2), none, (.box (.t 0))⟩, ⟨(some 3), none, (.mov (.c (.bool false)))⟩]) (.seq (.ops [⟨(some 4), none, (.fad (.t 2) 3)⟩, ⟨(some 5), none, (.ld (.t 4) none)⟩, ⟨(some 6), none, (.ld (.t 1) none)⟩, ⟨(some 7), none, (.bin .gtr (.t 5) (.t 6))⟩, ⟨(some 3), none, (.mov (.t 7))⟩]) .ret)), 8, [(.tmp 3)]⟩
theorem F_state_upto_1_ok : compF Try.prog (fun _ => true) 140 = some F_state_upto_1 := by kernel_rfl
@[simp] abbrev n_state_kept : FuncId := 94
def F_state_kept_L0 : C := (.seq (.ops [⟨(some 28), none, (.bin .lss (.t 27) (.t 26))⟩]) (.seq (.cond (.t 28) .skip (.exit 2)) (.seq (.block 3 (.seq (.ops [⟨(some 29), none, (.ixs (.t 25) (.t 27) 5)⟩, ⟨(some 30), none, (.lde (.t 29) (some 5))⟩, ⟨(some 10), none, (.alc [(.val (.int .i64 0)), (.val (.int .i64 0)), (.val (.int .i64 0)), (.val (.int .i64 0)), (.lit 1 [])])⟩, ⟨none, none, (.st (.t 10) 5 (.t 30))⟩]) (.seq (.ops [⟨(some 32), none, (.ld (.t 10) (some 5))⟩, ⟨(some 33), none, (.fad (.t 8) 0)⟩, ⟨(some 34), none, (.ld (.t 33) none)⟩, ⟨(some 35), none, (.fad (.t 8) 1)⟩, ⟨(some 36), none, (.ld (.t 35) none)⟩, ⟨(some 37), none, (.call 141 [(.t 32), (.t 34), (.t 36)])⟩, ⟨(some 31), none, (.mov (.t 37))⟩, ⟨(some 38), none, (.ext (.t 31) 0)⟩, ⟨(some 39), none, (.ext (.t 31) 1)⟩, ⟨(some 11), none, (.alc [(.val (.int .i64 0)), (.val (.int .i64 0)), (.val (.int .i64 0)), (.val (.int .i64 0)), (.lit 1 [])])⟩, ⟨none, none, (.st (.t 11) 5 (.t 38))⟩, ⟨(some 12), none, (.mov (.t 39))⟩]) (.seq (.seq (.ops [⟨(some 40), none, (.mov (.t 12))⟩, ⟨(some 41), none, (.un .not (.t 40))⟩]) (.cond (.t 41) (.exit 3) .skip)) (.seq (.ops [⟨(some 43), none, (.ld (.t 8) (some 5))⟩, ⟨(some 44), none, (.fad (.t 11) 0)⟩, ⟨(some 45), none, (.ld (.t 44) none)⟩, ⟨(some 46), none, (.fad (.t 11) 1)⟩, ⟨(some 47), none, (.ld (.t 46) none)⟩, ⟨(some 48), none, (.call 141 [(.t 43), (.t 45), (.t 47)])⟩, ⟨(some 42), none, (.mov (.t 48))⟩, ⟨(some 49), none, (.ext (.t 42) 0)⟩, ⟨(some 50), none, (.ext (.t 42) 1)⟩, ⟨(some 13), none, (.alc [(.val (.int .i64 0)), (.val (.int .i64 0)), (.val (.int .i64 0)), (.val (.int .i64 0)), (.lit 1 [])])⟩, ⟨none, none, (.st (.t 13) 5 (.t 49))⟩, ⟨(some 14), none, (.mov (.t 50))⟩]) (.seq (.ops [⟨(some 51), none, (.fad (.t 13) 2)⟩, ⟨(some 52), none, (.ld (.t 51) none)⟩, ⟨(some 53), none, (.fad (.t 11) 2)⟩, ⟨(some 54), none, (.ld (.t 53) none)⟩, ⟨(some 55), none, (.bin .neq (.t 52) (.t 54))⟩, ⟨(some 56), none, (.mov (.t 55))⟩, ⟨(some 57), (some (56, false)), (.fad (.t 13) 3)⟩, ⟨(some 58), (some (56, false)), (.ld (.t 57) none)⟩, ⟨(some 59), (some (56, false)), (.fad (.t 11) 3)⟩, ⟨(some 60), (some (56, false)), (.ld (.t 59) none)⟩, ⟨(some 61), (some (56, false)), (.bin .neq (.t 58) (.t 60))⟩, ⟨(some 62), none, (.pick (.t 56) (.c (.bool true)) (.t 61))⟩, ⟨(some 63), none, (.mov (.t 62))⟩, ⟨(some 64), (some (63, false)), (.fad (.t 13) 4)⟩, ⟨(some 65), (some (63, false)), (.ld (.t 64) none)⟩, ⟨(some 66), (some (63, false)), (.fad (.t 11) 4)⟩, ⟨(some 67), (some (63, false)), (.ld (.t 66) none)⟩, ⟨(some 68), (some (63, false)), (.call 130 [(.t 65), (.t 67)])⟩, ⟨(some 69), (some (63, false)), (.un .not (.t 68))⟩, ⟨(some 70), none, (.pick (.t 63) (.c (.bool true)) (.t 69))⟩]) (.cond (.t 70) (.seq (.ops [⟨(some 6), none, (.mov (.c (.bool false)))⟩]) .ret) .skip))))))) (.ops [⟨(some 71), none, (.bin .add (.t 27) (.c (.int .i64 1)))⟩, ⟨(some 27), none, (.mov (.t 71))⟩]))))
def F_state_kept_L1 : C := (.seq (.ops [⟨(some 18), none, (.bin .lss (.t 17) (.t 16))⟩]) (.seq (.cond (.t 18) .skip (.exit 0)) (.seq (.block 1 (.seq (.ops [⟨(some 19), none, (.ixs (.t 15) (.t 17) 5)⟩, ⟨(some 20), none, (.lde (.t 19) (some 5))⟩, ⟨(some 8), none, (.alc [(.val (.int .i64 0)), (.val (.int .i64 0)), (.val (.int .i64 0)), (.val (.int .i64 0)), (.lit 1 [])])⟩, ⟨none, none, (.st (.t 8) 5 (.t 20))⟩]) (.seq (.seq (.ops [⟨(some 21), none, (.fad (.t 8) 3)⟩, ⟨(some 22), none, (.ld (.t 21) none)⟩, ⟨(some 23), none, (.mov (.t 2))⟩, ⟨(some 24), none, (.bin .gtr (.t 22) (.t 23))⟩]) (.cond (.t 24) (.exit 1) .skip)) (.seq (.ops [⟨(some 25), none, (.mov (.t 0))⟩, ⟨(some 26), none, (.len (.t 25))⟩, ⟨(some 27), none, (.mov (.c (.int .i64 0)))⟩]) (.block 2 (.loop F_state_kept_L0)))))) (.ops [⟨(some 72), none, (.bin .add (.t 17) (.c (.int .i64 1)))⟩, ⟨(some 17), none, (.mov (.t 72))⟩]))))
def F_state_kept : F := ⟨(.seq (.ops [⟨(some 6), none, (.mov (.c (.bool false)))⟩]) (.seq (.seq (.ops [⟨(some 15), none, (.mov (.t 1))⟩, ⟨(some 16), none, (.len (.t 15))⟩, ⟨(some 17), none, (.mov (.c (.int .i64 0)))⟩]) (.block 0 (.loop F_state_kept_L1))) (.seq (.ops [⟨(some 6), none, (.mov (.c (.bool true)))⟩]) .ret))), 73, [(.tmp 6)]⟩
theorem F_state_kept_ok : compF Try.prog (fun _ => true) 94 = some F_state_kept := by kernel_rfl
@[simp] abbrev n_state_Check : FuncId := 34
def F_state_Check_L0 : C := (.seq (.ops [⟨(some 40), none, (.bin .lss (.t 39) (.t 38))⟩]) (.seq (.cond (.t 40) .skip (.exit 0)) (.seq (.block 1 (.seq (.ops [⟨(some 41), none, (.ixs (.t 37) (.t 39) 3)⟩, ⟨(some 42), none, (.lde (.t 41) (some 3))⟩, ⟨(some 6), none, (.alc [(.val (.int .i64 0)), (.val (.int .i64 0)), (.lit 5 [])])⟩, ⟨none, none, (.st (.t 6) 3 (.t 42))⟩]) (.seq (.ops [⟨(some 43), none, (.mov (.t 3))⟩, ⟨(some 44), none, (.mov (.t 43))⟩, ⟨(some 45), (some (44, true)), (.fad (.t 1) 0)⟩, ⟨(some 46), (some (44, true)), (.ld (.t 45) none)⟩, ⟨(some 47), (some (44, true)), (.fad (.t 6) 2)⟩, ⟨(some 48), (some (44, true)), (.ld (.t 47) none)⟩, ⟨(some 49), (some (44, true)), (.fad (.t 6) 1)⟩, ⟨(some 50), (some (44, true)), (.ld (.t 49) none)⟩, ⟨(some 51), (some (44, true)), (.call 92 [(.t 46), (.t 48), (.t 50)])⟩, ⟨(some 52), none, (.pick (.t 44) (.t 51) (.c (.bool false)))⟩, ⟨(some 53), none, (.mov (.t 52))⟩, ⟨(some 54), (some (53, true)), (.fad (.t 6) 0)⟩, ⟨(some 55), (some (53, true)), (.ld (.t 54) none)⟩, ⟨(some 56), (some (53, true)), (.fad (.t 4) 0)⟩, ⟨(some 57), (some (53, true)), (.ld (.t 56) none)⟩, ⟨(some 58), (some (53, true)), (.bin .gtr (.t 55) (.t 57))⟩, ⟨(some 59), none, (.pick (.t 53) (.t 58) (.c (.bool false)))⟩, ⟨(some 60), none, (.mov (.t 59))⟩, ⟨(some 61), (some (60, true)), (.fad (.t 6) 0)⟩, ⟨(some 62), (some (60, true)), (.ld (.t 61) none)⟩, ⟨(some 63), (some (60, true)), (.fad (.t 1) 4)⟩, ⟨(some 64), (some (60, true)), (.ld (.t 63) none)⟩, ⟨(some 65), (some (60, true)), (.bin .leq (.t 62) (.t 64))⟩, ⟨(some 66), none, (.pick (.t 60) (.t 65) (.c (.bool false)))⟩, ⟨(some 67), none, (.mov (.t 66))⟩, ⟨(some 68), (some (67, true)), (.fad (.t 6) 1)⟩, ⟨(some 69), (some (67, true)), (.ld (.t 68) none)⟩, ⟨(some 70), (some (67, true)), (.fad (.t 4) 1)⟩, ⟨(some 71), (some (67, true)), (.ld (.t 70) none)⟩, ⟨(some 72), (some (67, true)), (.bin .gtr (.t 69) (.t 71))⟩, ⟨(some 73), none, (.pick (.t 67) (.t 72) (.c (.bool false)))⟩, ⟨(some 74), none, (.mov (.t 73))⟩, ⟨(some 75), (some (74, true)), (.fad (.t 6) 1)⟩, ⟨(some 76), (some (74, true)), (.ld (.t 75) none)⟩, ⟨(some 77), (some (74, true)), (.fad (.t 1) 1)⟩, ⟨(some 78), (some (74, true)), (.ld (.t 77) none)⟩, ⟨(some 79), (some (74, true)), (.bin .lss (.t 76) (.t 78))⟩, ⟨(some 80), none, (.pick (.t 74) (.t 79) (.c (.bool false)))⟩, ⟨(some 81), none, (.mov (.t 80))⟩, ⟨(some 82), (some (81, true)), (.fad (.t 4) 2)⟩, ⟨(some 83), (some (81, true)), (.ld (.t 82) none)⟩, ⟨(some 84), (some (81, true)), (.fad (.t 6) 2)⟩, ⟨(some 85), (some (81, true)), (.ld (.t 84) none)⟩, ⟨(some 86), (some (81, true)), (.fad (.t 4) 1)⟩, ⟨(some 87), (some (81, true)), (.ld (.t 86) none)⟩, ⟨(some 88), (some (81, true)), (.call 94 [(.t 83), (.t 85), (.t 87)])⟩, ⟨(some 89), none, (.pick (.t 81) (.t 88) (.c (.bool false)))⟩, ⟨(some 3), none, (.mov (.t 89))⟩]) (.ops [⟨(some 90), none, (.ld (.t 6) (some 3))⟩, ⟨none, none, (.st (.t 4) 3 (.t 90))⟩])))) (.ops [⟨(some 91), none, (.bin .add (.t 39) (.c (.int .i64 1)))⟩, ⟨(some 39), none, (.mov (.t 91))⟩]))))
def F_state_Check : F := ⟨(.seq (.ops [⟨(some 1), none, (.box (.t 0))⟩, ⟨(some 2), none, (.mov (.c (.int .i64 0)))⟩]) (.seq (.ops [⟨(some 7), none, (.fad (.t 1) 0)⟩, ⟨(some 8), none, (.ld (.t 7) none)⟩, ⟨(some 9), none, (.fad (.t 1) 2)⟩, ⟨(some 10), none, (.ld (.t 9) none)⟩, ⟨(some 11), none, (.fad (.t 1) 1)⟩, ⟨(some 12), none, (.ld (.t 11) none)⟩, ⟨(some 13), none, (.call 92 [(.t 8), (.t 10), (.t 12)])⟩, ⟨(some 14), none, (.mov (.t 13))⟩, ⟨(some 15), (some (14, true)), (.fad (.t 1) 1)⟩, ⟨(some 16), (some (14, true)), (.ld (.t 15) none)⟩, ⟨(some 17), (some (14, true)), (.call 93 [(.t 16), (.c (.int .i64 1)), (.c (.int .i64 2147483647))])⟩, ⟨(some 18), none, (.pick (.t 14) (.t 17) (.c (.bool false)))⟩, ⟨(some 19), none, (.mov (.t 18))⟩, ⟨(some 20), (some (19, true)), (.fad (.t 1) 3)⟩, ⟨(some 21), (some (19, true)), (.ld (.t 20) none)⟩, ⟨(some 22), (some (19, true)), (.len (.t 21))⟩, ⟨(some 23), (some (19, true)), (.bin .leq (.t 22) (.c (.int .i64 4)))⟩, ⟨(some 24), none, (.pick (.t 19) (.t 23) (.c (.bool false)))⟩, ⟨(some 25), none, (.mov (.t 24))⟩, ⟨(some 26), (some (25, true)), (.fad (.t 1) 4)⟩, ⟨(some 27), (some (25, true)), (.ld (.t 26) none)⟩, ⟨(some 28), (some (25, true)), (.call 93 [(.t 27), (.c (.int .i64 0)), (.c (.int .i64 2147483647))])⟩, ⟨(some 29), none, (.pick (.t 25) (.t 28) (.c (.bool false)))⟩, ⟨(some 30), none, (.mov (.t 29))⟩, ⟨(some 31), (some (30, true)), (.fad (.t 1) 5)⟩, ⟨(some 32), (some (30, true)), (.ld (.t 31) none)⟩, ⟨(some 33), (some (30, true)), (.len (.t 32))⟩, ⟨(some 34), (some (30, true)), (.bin .leq (.t 33) (.c (.int .i64 4000)))⟩, ⟨(some 35), none, (.pick (.t 30) (.t 34) (.c (.bool false)))⟩, ⟨(some 3), none, (.mov (.t 35))⟩]) (.seq (.ops [⟨(some 4), none, (.alc [(.val (.int .i64 0)), (.val (.int .i64 0)), (.lit 5 [])])⟩]) (.seq (.seq (.ops [⟨(some 36), none, (.fad (.t 1) 3)⟩, ⟨(some 37), none, (.ld (.t 36) none)⟩, ⟨(some 38), none, (.len (.t 37))⟩, ⟨(some 39), none, (.mov (.c (.int .i64 0)))⟩]) (.block 0 (.loop F_state_Check_L0))) (.seq (.seq (.ops [⟨(some 92), none, (.mov (.t 3))⟩, ⟨(some 93), none, (.un .not (.t 92))⟩, ⟨(some 94), none, (.mov (.t 93))⟩, ⟨(some 95), (some (94, false)), (.fad (.t 4) 2)⟩, ⟨(some 96), (some (94, false)), (.ld (.t 95) none)⟩, ⟨(some 97), (some (94, false)), (.fad (.t 1) 2)⟩, ⟨(some 98), (some (94, false)), (.ld (.t 97) none)⟩, ⟨(some 99), (some (94, false)), (.fad (.t 4) 1)⟩, ⟨(some 100), (some (94, false)), (.ld (.t 99) none)⟩, ⟨(some 101), (some (94, false)), (.call 94 [(.t 96), (.t 98), (.t 100)])⟩, ⟨(some 102), (some (94, false)), (.un .not (.t 101))⟩, ⟨(some 103), none, (.pick (.t 94) (.c (.bool true)) (.t 102))⟩]) (.cond (.t 103) (.seq (.ops [⟨(some 2), none, (.mov (.c (.int .i64 110)))⟩]) .ret) .skip)) (.seq (.ops [⟨(some 2), none, (.mov (.c (.int .i64 0)))⟩]) .ret)))))), 104, [(.tmp 2)]⟩
theorem F_state_Check_ok : compF Try.prog (fun _ => true) 34 = some F_state_Check := by kernel_rfl
@[simp] abbrev n_state_New : FuncId := 64
def F_state_New : F := ⟨(.seq (.ops [⟨(some 2), none, (.alc [(.val (.int .i64 0)), (.val (.int .i64 0)), (.lit 5 []), (.lit 3 []), (.val (.int .i64 0)), (.lit 1 [])])⟩, ⟨(some 3), none, (.mov (.c (.int .i64 0)))⟩]) (.seq (.ops [⟨(some 7), none, (.mov (.t 0))⟩, ⟨(some 8), none, (.call 118 [(.t 7)])⟩, ⟨(some 6), none, (.mov (.t 8))⟩, ⟨(some 9), none, (.ext (.t 6) 0)⟩, ⟨(some 10), none, (.ext (.t 6) 1)⟩, ⟨(some 4), none, (.mov (.t 9))⟩, ⟨(some 5), none, (.mov (.t 10))⟩]) (.seq (.seq (.ops [⟨(some 11), none, (.mov (.t 5))⟩, ⟨(some 12), none, (.bin .neq (.t 11) (.c (.int .i64 0)))⟩]) (.cond (.t 12) (.seq (.ops [⟨(some 13), none, (.bld [(.val (.int .i64 0)), (.val (.int .i64 0)), (.lit 5 []), (.lit 3 []), (.val (.int .i64 0)), (.lit 1 [])] [])⟩, ⟨(some 14), none, (.mov (.t 5))⟩, ⟨none, none, (.st (.t 2) 6 (.t 13))⟩, ⟨(some 3), none, (.mov (.t 14))⟩]) .ret) .skip)) (.seq (.ops [⟨(some 15), none, (.mov (.t 0))⟩, ⟨(some 16), none, (.mov (.t 4))⟩, ⟨(some 17), none, (.bld [(.val (.int .i64 0)), (.val (.int .i64 0)), (.lit 5 []), (.lit 3 []), (.val (.int .i64 0)), (.lit 1 [])] [(0, (1, (.t 15))), (1, (1, (.c (.int .i64 1)))), (2, (1, (.t 16)))])⟩, ⟨none, none, (.st (.t 2) 6 (.t 17))⟩, ⟨(some 3), none, (.mov (.c (.int .i64 0)))⟩]) .ret)))), 18, [(.cell 2 (some 6)), (.tmp 3)]⟩
theorem F_state_New_ok : compF Try.prog (fun _ => true) 64 = some F_state_New := by kernel_rfl
@[simp] abbrev n_r11_upto : FuncId := 123
def F_r11_upto_L0 : C := (.seq (.seq (.ops [⟨(some 12), none, (.mov (.t 8))⟩, ⟨(some 13), none, (.mov (.t 1))⟩, ⟨(some 14), none, (.len (.t 13))⟩, ⟨(some 15), none, (.bin .lss (.t 12) (.t 14))⟩]) (.cond (.t 15) .skip (.exit 0))) (.seq (.block 1 (.seq (.ops [⟨(some 18), none, (.mov (.t 1))⟩, ⟨(some 19), none, (.mov (.t 8))⟩, ⟨(some 20), none, (.ixs (.t 18) (.t 19) 5)⟩, ⟨(some 21), none, (.fad (.t 20) 3)⟩, ⟨(some 22), none, (.lde (.t 21) none)⟩, ⟨(some 23), none, (.mov (.t 2))⟩, ⟨(some 24), none, (.bin .gtr (.t 22) (.t 23))⟩]) (.cond (.t 24) (.seq (.ops [⟨(some 6), none, (.mov (.c (.bool false)))⟩]) .ret) .skip))) (.ops [⟨(some 16), none, (.mov (.t 8))⟩, ⟨(some 17), none, (.bin .add (.t 16) (.c (.int .i64 1)))⟩, ⟨(some 8), none, (.mov (.t 17))⟩])))
def F_r11_upto : F := ⟨(.seq (.ops [⟨(some 6), none, (.mov (.c (.bool false)))⟩]) (.seq (.ops [⟨(some 9), none, (.mov (.t 0))⟩, ⟨(some 10), none, (.mov (.t 1))⟩, ⟨(some 11), none, (.call 172 [(.t 9), (.t 10)])⟩, ⟨(some 7), none, (.mov (.t 11))⟩]) (.seq (.seq (.ops [⟨(some 8), none, (.mov (.c (.int .i64 0)))⟩]) (.block 0 (.loop F_r11_upto_L0))) (.seq (.ops [⟨(some 25), none, (.mov (.t 7))⟩, ⟨(some 6), none, (.mov (.t 25))⟩]) .ret)))), 26, [(.tmp 6)]⟩
theorem F_r11_upto_ok : compF Try.prog (fun _ => true) 123 = some F_r11_upto := by kernel_rfl
@[simp] abbrev n_r11_kept : FuncId := 124
def F_r11_kept_L0 : C := (.seq (.seq (.ops [⟨(some 18), none, (.mov (.t 11))⟩, ⟨(some 19), none, (.mov (.t 0))⟩, ⟨(some 20), none, (.bin .lss (.t 18) (.t 19))⟩]) (.cond (.t 20) .skip (.exit 0))) (.seq (.block 1 (.seq (.dops false [] [⟨(some 23), none, (.mov (.t 10))⟩, ⟨(some 24), none, (.mov (.t 11))⟩, ⟨(some 25), none, (.ixs (.t 23) (.t 24) 34)⟩, ⟨(some 26), none, (.fad (.t 25) 1)⟩, ⟨(some 27), none, (.lde (.t 26) none)⟩, ⟨(some 28), none, (.mov (.t 3))⟩, ⟨(some 29), none, (.bin .leq (.t 27) (.t 28))⟩, ⟨(some 30), none, (.mov (.t 29))⟩, ⟨(some 31), (some (30, true)), (.mov (.t 9))⟩, ⟨(some 32), (some (30, true)), (.mov (.t 11))⟩, ⟨(some 33), (some (30, true)), (.ixs (.t 31) (.t 32) 34)⟩, ⟨(some 34), (some (30, true)), (.lde (.t 33) (some 34))⟩, ⟨(some 35), (some (30, true)), (.mov (.t 10))⟩, ⟨(some 36), (some (30, true)), (.mov (.t 11))⟩, ⟨(some 37), (some (30, true)), (.ixs (.t 35) (.t 36) 34)⟩, ⟨(some 38), (some (30, true)), (.lde (.t 37) (some 34))⟩, ⟨(some 39), (some (30, true)), (.mem (.aeq true [.i64, .i64, .u8, .u8, .u8, .u8, .u8, .u8, .u8, .u8, .u8, .u8, .u8, .u8, .u8, .u8, .u8, .u8, .u8, .u8, .u8, .u8, .u8, .u8, .u8, .u8, .u8, .u8, .u8, .u8, .u8, .u8, .u8, .u8]) [(.t 34), (.t 38)])⟩, ⟨(some 40), none, (.pick (.t 30) (.t 39) (.c (.bool false)))⟩]) (.cond (.t 40) (.seq (.ops [⟨(some 8), none, (.mov (.c (.bool false)))⟩]) .ret) .skip))) (.ops [⟨(some 21), none, (.mov (.t 11))⟩, ⟨(some 22), none, (.bin .add (.t 21) (.c (.int .i64 1)))⟩, ⟨(some 11), none, (.mov (.t 22))⟩])))
def F_r11_kept : F := ⟨(.seq (.ops [⟨(some 8), none, (.mov (.c (.bool false)))⟩]) (.seq (.ops [⟨(some 12), none, (.mov (.t 0))⟩, ⟨(some 13), none, (.mov (.t 1))⟩, ⟨(some 14), none, (.call 173 [(.t 12), (.t 13)])⟩, ⟨(some 9), none, (.mov (.t 14))⟩]) (.seq (.ops [⟨(some 15), none, (.mov (.t 0))⟩, ⟨(some 16), none, (.mov (.t 2))⟩, ⟨(some 17), none, (.call 173 [(.t 15), (.t 16)])⟩, ⟨(some 10), none, (.mov (.t 17))⟩]) (.seq (.seq (.ops [⟨(some 11), none, (.mov (.c (.int .i64 0)))⟩]) (.block 0 (.loop F_r11_kept_L0))) (.seq (.ops [⟨(some 8), none, (.mov (.c (.bool true)))⟩]) .ret))))), 41, [(.tmp 8)]⟩
theorem F_r11_kept_ok : compF Try.prog (fun _ => true) 124 = some F_r11_kept := by kernel_rfl
@[simp] abbrev n_r11_Check : FuncId := 72
def F_r11_Check_L0 : C := (.seq (.seq (.ops [⟨(some 52), none, (.mov (.t 6))⟩, ⟨(some 53), none, (.fad (.t 1) 3)⟩, ⟨(some 54), none, (.ld (.t 53) none)⟩, ⟨(some 55), none, (.len (.t 54))⟩, ⟨(some 56), none, (.bin .lss (.t 52) (.t 55))⟩]) (.cond (.t 56) .skip (.exit 0))) (.seq (.block 1 (.seq (.ops [⟨(some 59), none, (.fad (.t 1) 3)⟩, ⟨(some 60), none, (.ld (.t 59) none)⟩, ⟨(some 61), none, (.mov (.t 6))⟩, ⟨(some 62), none, (.ixs (.t 60) (.t 61) 3)⟩, ⟨(some 63), none, (.lde (.t 62) (some 3))⟩, ⟨(some 7), none, (.alc [(.val (.int .i64 0)), (.val (.int .i64 0)), (.lit 5 [])])⟩, ⟨none, none, (.st (.t 7) 3 (.t 63))⟩]) (.seq (.ops [⟨(some 64), none, (.fad (.t 1) 0)⟩, ⟨(some 65), none, (.ld (.t 64) none)⟩, ⟨(some 66), none, (.fad (.t 7) 2)⟩, ⟨(some 67), none, (.ld (.t 66) none)⟩, ⟨(some 68), none, (.fad (.t 7) 1)⟩, ⟨(some 69), none, (.ld (.t 68) none)⟩, ⟨(some 70), none, (.call 123 [(.t 65), (.t 67), (.t 69)])⟩, ⟨(some 8), none, (.mov (.t 70))⟩]) (.seq (.seq (.ops [⟨(some 71), none, (.mov (.t 8))⟩, ⟨(some 72), none, (.un .not (.t 71))⟩, ⟨(some 73), none, (.mov (.t 72))⟩, ⟨(some 74), (some (73, false)), (.fad (.t 7) 0)⟩, ⟨(some 75), (some (73, false)), (.ld (.t 74) none)⟩, ⟨(some 76), (some (73, false)), (.mov (.t 4))⟩, ⟨(some 77), (some (73, false)), (.bin .leq (.t 75) (.t 76))⟩, ⟨(some 78), none, (.pick (.t 73) (.c (.bool true)) (.t 77))⟩, ⟨(some 79), none, (.mov (.t 78))⟩, ⟨(some 80), (some (79, false)), (.fad (.t 7) 0)⟩, ⟨(some 81), (some (79, false)), (.ld (.t 80) none)⟩, ⟨(some 82), (some (79, false)), (.fad (.t 1) 4)⟩, ⟨(some 83), (some (79, false)), (.ld (.t 82) none)⟩, ⟨(some 84), (some (79, false)), (.bin .gtr (.t 81) (.t 83))⟩, ⟨(some 85), none, (.pick (.t 79) (.c (.bool true)) (.t 84))⟩, ⟨(some 86), none, (.mov (.t 85))⟩, ⟨(some 87), (some (86, false)), (.fad (.t 7) 1)⟩, ⟨(some 88), (some (86, false)), (.ld (.t 87) none)⟩, ⟨(some 89), (some (86, false)), (.mov (.t 5))⟩, ⟨(some 90), (some (86, false)), (.bin .leq (.t 88) (.t 89))⟩, ⟨(some 91), none, (.pick (.t 86) (.c (.bool true)) (.t 90))⟩, ⟨(some 92), none, (.mov (.t 91))⟩, ⟨(some 93), (some (92, false)), (.fad (.t 7) 1)⟩, ⟨(some 94), (some (92, false)), (.ld (.t 93) none)⟩, ⟨(some 95), (some (92, false)), (.fad (.t 1) 1)⟩, ⟨(some 96), (some (92, false)), (.ld (.t 95) none)⟩, ⟨(some 97), (some (92, false)), (.bin .geq (.t 94) (.t 96))⟩, ⟨(some 98), none, (.pick (.t 92) (.c (.bool true)) (.t 97))⟩]) (.cond (.t 98) (.seq (.ops [⟨(some 2), none, (.mov (.c (.int .i64 110)))⟩]) .ret) .skip)) (.seq (.seq (.ops [⟨(some 99), none, (.mov (.t 6))⟩, ⟨(some 100), none, (.bin .gtr (.t 99) (.c (.int .i64 0)))⟩]) (.cond (.t 100) (.seq (.dops false [] [⟨(some 101), none, (.fad (.t 1) 0)⟩, ⟨(some 102), none, (.ld (.t 101) none)⟩, ⟨(some 103), none, (.fad (.t 1) 3)⟩, ⟨(some 104), none, (.ld (.t 103) none)⟩, ⟨(some 105), none, (.mov (.t 6))⟩, ⟨(some 106), none, (.bin .sub (.t 105) (.c (.int .i64 1)))⟩, ⟨(some 107), none, (.ixs (.t 104) (.t 106) 3)⟩, ⟨(some 108), none, (.fad (.t 107) 2)⟩, ⟨(some 109), none, (.lde (.t 108) none)⟩, ⟨(some 110), none, (.fad (.t 7) 2)⟩, ⟨(some 111), none, (.ld (.t 110) none)⟩, ⟨(some 112), none, (.mov (.t 5))⟩, ⟨(some 113), none, (.call 124 [(.t 102), (.t 109), (.t 111), (.t 112)])⟩, ⟨(some 9), none, (.mov (.t 113))⟩]) (.seq (.ops [⟨(some 114), none, (.mov (.t 9))⟩, ⟨(some 115), none, (.un .not (.t 114))⟩]) (.cond (.t 115) (.seq (.ops [⟨(some 2), none, (.mov (.c (.int .i64 110)))⟩]) .ret) .skip))) .skip)) (.seq (.ops [⟨(some 116), none, (.fad (.t 7) 0)⟩, ⟨(some 117), none, (.ld (.t 116) none)⟩, ⟨(some 4), none, (.mov (.t 117))⟩]) (.ops [⟨(some 118), none, (.fad (.t 7) 1)⟩, ⟨(some 119), none, (.ld (.t 118) none)⟩, ⟨(some 5), none, (.mov (.t 119))⟩]))))))) (.ops [⟨(some 57), none, (.mov (.t 6))⟩, ⟨(some 58), none, (.bin .add (.t 57) (.c (.int .i64 1)))⟩, ⟨(some 6), none, (.mov (.t 58))⟩])))
def F_r11_Check : F := ⟨(.seq (.ops [⟨(some 1), none, (.box (.t 0))⟩, ⟨(some 2), none, (.mov (.c (.int .i64 0)))⟩]) (.seq (.ops [⟨(some 11), none, (.fad (.t 1) 0)⟩, ⟨(some 12), none, (.ld (.t 11) none)⟩, ⟨(some 13), none, (.fad (.t 1) 2)⟩, ⟨(some 14), none, (.ld (.t 13) none)⟩, ⟨(some 15), none, (.fad (.t 1) 1)⟩, ⟨(some 16), none, (.ld (.t 15) none)⟩, ⟨(some 17), none, (.call 123 [(.t 12), (.t 14), (.t 16)])⟩, ⟨(some 3), none, (.mov (.t 17))⟩]) (.seq (.seq (.ops [⟨(some 18), none, (.mov (.t 3))⟩, ⟨(some 19), none, (.un .not (.t 18))⟩, ⟨(some 20), none, (.mov (.t 19))⟩, ⟨(some 21), (some (20, false)), (.fad (.t 1) 1)⟩, ⟨(some 22), (some (20, false)), (.ld (.t 21) none)⟩, ⟨(some 23), (some (20, false)), (.bin .lss (.t 22) (.c (.int .i64 1)))⟩, ⟨(some 24), none, (.pick (.t 20) (.c (.bool true)) (.t 23))⟩, ⟨(some 25), none, (.mov (.t 24))⟩, ⟨(some 26), (some (25, false)), (.fad (.t 1) 1)⟩, ⟨(some 27), (some (25, false)), (.ld (.t 26) none)⟩, ⟨(some 28), (some (25, false)), (.bin .geq (.t 27) (.c (.int .i64 2147483648)))⟩, ⟨(some 29), none, (.pick (.t 25) (.c (.bool true)) (.t 28))⟩, ⟨(some 30), none, (.mov (.t 29))⟩, ⟨(some 31), (some (30, false)), (.fad (.t 1) 3)⟩, ⟨(some 32), (some (30, false)), (.ld (.t 31) none)⟩, ⟨(some 33), (some (30, false)), (.len (.t 32))⟩, ⟨(some 34), (some (30, false)), (.bin .gtr (.t 33) (.c (.int .i64 4)))⟩, ⟨(some 35), none, (.pick (.t 30) (.c (.bool true)) (.t 34))⟩, ⟨(some 36), none, (.mov (.t 35))⟩, ⟨(some 37), (some (36, false)), (.fad (.t 1) 4)⟩, ⟨(some 38), (some (36, false)), (.ld (.t 37) none)⟩, ⟨(some 39), (some (36, false)), (.bin .lss (.t 38) (.c (.int .i64 0)))⟩, ⟨(some 40), none, (.pick (.t 36) (.c (.bool true)) (.t 39))⟩, ⟨(some 41), none, (.mov (.t 40))⟩, ⟨(some 42), (some (41, false)), (.fad (.t 1) 4)⟩, ⟨(some 43), (some (41, false)), (.ld (.t 42) none)⟩, ⟨(some 44), (some (41, false)), (.bin .geq (.t 43) (.c (.int .i64 2147483648)))⟩, ⟨(some 45), none, (.pick (.t 41) (.c (.bool true)) (.t 44))⟩, ⟨(some 46), none, (.mov (.t 45))⟩, ⟨(some 47), (some (46, false)), (.fad (.t 1) 5)⟩, ⟨(some 48), (some (46, false)), (.ld (.t 47) none)⟩, ⟨(some 49), (some (46, false)), (.len (.t 48))⟩, ⟨(some 50), (some (46, false)), (.bin .gtr (.t 49) (.c (.int .i64 4000)))⟩, ⟨(some 51), none, (.pick (.t 46) (.c (.bool true)) (.t 50))⟩]) (.cond (.t 51) (.seq (.ops [⟨(some 2), none, (.mov (.c (.int .i64 110)))⟩]) .ret) .skip)) (.seq (.ops [⟨(some 4), none, (.mov (.c (.int .i64 0)))⟩]) (.seq (.ops [⟨(some 5), none, (.mov (.c (.int .i64 0)))⟩]) (.seq (.seq (.ops [⟨(some 6), none, (.mov (.c (.int .i64 0)))⟩]) (.block 0 (.loop F_r11_Check_L0))) (.seq (.seq (.ops [⟨(some 120), none, (.fad (.t 1) 3)⟩, ⟨(some 121), none, (.ld (.t 120) none)⟩, ⟨(some 122), none, (.len (.t 121))⟩, ⟨(some 123), none, (.bin .gtr (.t 122) (.c (.int .i64 0)))⟩]) (.cond (.t 123) (.seq (.dops false [] [⟨(some 124), none, (.fad (.t 1) 0)⟩, ⟨(some 125), none, (.ld (.t 124) none)⟩, ⟨(some 126), none, (.fad (.t 1) 3)⟩, ⟨(some 127), none, (.ld (.t 126) none)⟩, ⟨(some 128), none, (.fad (.t 1) 3)⟩, ⟨(some 129), none, (.ld (.t 128) none)⟩, ⟨(some 130), none, (.len (.t 129))⟩, ⟨(some 131), none, (.bin .sub (.t 130) (.c (.int .i64 1)))⟩, ⟨(some 132), none, (.ixs (.t 127) (.t 131) 3)⟩, ⟨(some 133), none, (.fad (.t 132) 2)⟩, ⟨(some 134), none, (.lde (.t 133) none)⟩, ⟨(some 135), none, (.fad (.t 1) 2)⟩, ⟨(some 136), none, (.ld (.t 135) none)⟩, ⟨(some 137), none, (.mov (.t 5))⟩, ⟨(some 138), none, (.call 124 [(.t 125), (.t 134), (.t 136), (.t 137)])⟩, ⟨(some 10), none, (.mov (.t 138))⟩]) (.seq (.ops [⟨(some 139), none, (.mov (.t 10))⟩, ⟨(some 140), none, (.un .not (.t 139))⟩]) (.cond (.t 140) (.seq (.ops [⟨(some 2), none, (.mov (.c (.int .i64 110)))⟩]) .ret) .skip))) .skip)) (.seq (.ops [⟨(some 2), none, (.mov (.c (.int .i64 0)))⟩]) .ret)))))))), 141, [(.tmp 2)]⟩
theorem F_r11_Check_ok : compF Try.prog (fun _ => true) 72 = some F_r11_Check := by kernel_rfl
@[simp] abbrev n_r11_Points : FuncId := 88
def F_r11_Points : F := ⟨(.seq (.ops [⟨(some 2), none, (.box (.t 0))⟩, ⟨(some 3), none, (.box (.t 1))⟩, ⟨(some 4), none, (.mov (.c (.bool false)))⟩]) (.seq (.ops [⟨(some 6), none, (.fad (.t 2) 2)⟩, ⟨(some 7), none, (.ld (.t 6) none)⟩, ⟨(some 8), none, (.fad (.t 3) 2)⟩, ⟨(some 9), none, (.ld (.t 8) none)⟩, ⟨(some 10), none, (.call 87 [(.t 7), (.t 9)])⟩, ⟨(some 5), none, (.mov (.t 10))⟩]) (.seq (.ops [⟨(some 11), none, (.fad (.t 2) 0)⟩, ⟨(some 12), none, (.ld (.t 11) none)⟩, ⟨(some 13), none, (.fad (.t 3) 0)⟩, ⟨(some 14), none, (.ld (.t 13) none)⟩, ⟨(some 15), none, (.bin .eql (.t 12) (.t 14))⟩, ⟨(some 16), none, (.mov (.t 15))⟩, ⟨(some 17), (some (16, true)), (.fad (.t 2) 1)⟩, ⟨(some 18), (some (16, true)), (.ld (.t 17) none)⟩, ⟨(some 19), (some (16, true)), (.fad (.t 3) 1)⟩, ⟨(some 20), (some (16, true)), (.ld (.t 19) none)⟩, ⟨(some 21), (some (16, true)), (.bin .eql (.t 18) (.t 20))⟩, ⟨(some 22), none, (.pick (.t 16) (.t 21) (.c (.bool false)))⟩, ⟨(some 23), none, (.mov (.t 22))⟩, ⟨(some 24), (some (23, true)), (.mov (.t 5))⟩, ⟨(some 25), none, (.pick (.t 23) (.t 24) (.c (.bool false)))⟩, ⟨(some 4), none, (.mov (.t 25))⟩]) .ret))), 26, [(.tmp 4)]⟩
theorem F_r11_Points_ok : compF Try.prog (fun _ => true) 88 = some F_r11_Points := by kernel_rfl
@[simp] abbrev n_r11_Same : FuncId := 31
def F_r11_Same_L0 : C := (.seq (.seq (.ops [⟨(some 54), none, (.mov (.t 6))⟩, ⟨(some 55), none, (.fad (.t 2) 3)⟩, ⟨(some 56), none, (.ld (.t 55) none)⟩, ⟨(some 57), none, (.len (.t 56))⟩, ⟨(some 58), none, (.bin .lss (.t 54) (.t 57))⟩]) (.cond (.t 58) .skip (.exit 0))) (.seq (.block 1 (.seq (.dops false [] [⟨(some 61), none, (.fad (.t 2) 3)⟩, ⟨(some 62), none, (.ld (.t 61) none)⟩, ⟨(some 63), none, (.mov (.t 6))⟩, ⟨(some 64), none, (.ixs (.t 62) (.t 63) 3)⟩, ⟨(some 65), none, (.lde (.t 64) (some 3))⟩, ⟨(some 66), none, (.fad (.t 3) 3)⟩, ⟨(some 67), none, (.ld (.t 66) none)⟩, ⟨(some 68), none, (.mov (.t 6))⟩, ⟨(some 69), none, (.ixs (.t 67) (.t 68) 3)⟩, ⟨(some 70), none, (.lde (.t 69) (some 3))⟩, ⟨(some 71), none, (.call 88 [(.t 65), (.t 70)])⟩, ⟨(some 7), none, (.mov (.t 71))⟩]) (.seq (.ops [⟨(some 72), none, (.mov (.t 7))⟩, ⟨(some 73), none, (.un .not (.t 72))⟩]) (.cond (.t 73) (.seq (.ops [⟨(some 4), none, (.mov (.c (.bool false)))⟩]) .ret) .skip)))) (.ops [⟨(some 59), none, (.mov (.t 6))⟩, ⟨(some 60), none, (.bin .add (.t 59) (.c (.int .i64 1)))⟩, ⟨(some 6), none, (.mov (.t 60))⟩])))
def F_r11_Same : F := ⟨(.seq (.ops [⟨(some 2), none, (.box (.t 0))⟩, ⟨(some 3), none, (.box (.t 1))⟩, ⟨(some 4), none, (.mov (.c (.bool false)))⟩]) (.seq (.ops [⟨(some 8), none, (.fad (.t 2) 2)⟩, ⟨(some 9), none, (.ld (.t 8) none)⟩, ⟨(some 10), none, (.fad (.t 3) 2)⟩, ⟨(some 11), none, (.ld (.t 10) none)⟩, ⟨(some 12), none, (.call 87 [(.t 9), (.t 11)])⟩, ⟨(some 5), none, (.mov (.t 12))⟩]) (.seq (.seq (.ops [⟨(some 13), none, (.mov (.t 5))⟩, ⟨(some 14), none, (.un .not (.t 13))⟩, ⟨(some 15), none, (.mov (.t 14))⟩, ⟨(some 16), (some (15, false)), (.fad (.t 2) 0)⟩, ⟨(some 17), (some (15, false)), (.ld (.t 16) none)⟩, ⟨(some 18), (some (15, false)), (.fad (.t 3) 0)⟩, ⟨(some 19), (some (15, false)), (.ld (.t 18) none)⟩, ⟨(some 20), (some (15, false)), (.bin .neq (.t 17) (.t 19))⟩, ⟨(some 21), none, (.pick (.t 15) (.c (.bool true)) (.t 20))⟩, ⟨(some 22), none, (.mov (.t 21))⟩, ⟨(some 23), (some (22, false)), (.fad (.t 2) 1)⟩, ⟨(some 24), (some (22, false)), (.ld (.t 23) none)⟩, ⟨(some 25), (some (22, false)), (.fad (.t 3) 1)⟩, ⟨(some 26), (some (22, false)), (.ld (.t 25) none)⟩, ⟨(some 27), (some (22, false)), (.bin .neq (.t 24) (.t 26))⟩, ⟨(some 28), none, (.pick (.t 22) (.c (.bool true)) (.t 27))⟩, ⟨(some 29), none, (.mov (.t 28))⟩, ⟨(some 30), (some (29, false)), (.fad (.t 2) 4)⟩, ⟨(some 31), (some (29, false)), (.ld (.t 30) none)⟩, ⟨(some 32), (some (29, false)), (.fad (.t 3) 4)⟩, ⟨(some 33), (some (29, false)), (.ld (.t 32) none)⟩, ⟨(some 34), (some (29, false)), (.bin .neq (.t 31) (.t 33))⟩, ⟨(some 35), none, (.pick (.t 29) (.c (.bool true)) (.t 34))⟩, ⟨(some 36), none, (.mov (.t 35))⟩, ⟨(some 37), (some (36, false)), (.fad (.t 2) 5)⟩, ⟨(some 38), (some (36, false)), (.ld (.t 37) none)⟩, ⟨(some 39), (some (36, false)), (.b2s (.t 38))⟩, ⟨(some 40), (some (36, false)), (.fad (.t 3) 5)⟩, ⟨(some 41), (some (36, false)), (.ld (.t 40) none)⟩, ⟨(some 42), (some (36, false)), (.b2s (.t 41))⟩, ⟨(some 43), (some (36, false)), (.bin .neq (.t 39) (.t 42))⟩, ⟨(some 44), none, (.pick (.t 36) (.c (.bool true)) (.t 43))⟩, ⟨(some 45), none, (.mov (.t 44))⟩, ⟨(some 46), (some (45, false)), (.fad (.t 2) 3)⟩, ⟨(some 47), (some (45, false)), (.ld (.t 46) none)⟩, ⟨(some 48), (some (45, false)), (.len (.t 47))⟩, ⟨(some 49), (some (45, false)), (.fad (.t 3) 3)⟩, ⟨(some 50), (some (45, false)), (.ld (.t 49) none)⟩, ⟨(some 51), (some (45, false)), (.len (.t 50))⟩, ⟨(some 52), (some (45, false)), (.bin .neq (.t 48) (.t 51))⟩, ⟨(some 53), none, (.pick (.t 45) (.c (.bool true)) (.t 52))⟩]) (.cond (.t 53) (.seq (.ops [⟨(some 4), none, (.mov (.c (.bool false)))⟩]) .ret) .skip)) (.seq (.seq (.ops [⟨(some 6), none, (.mov (.c (.int .i64 0)))⟩]) (.block 0 (.loop F_r11_Same_L0))) (.seq (.ops [⟨(some 4), none, (.mov (.c (.bool true)))⟩]) .ret))))), 74, [(.tmp 4)]⟩
theorem F_r11_Same_ok : compF Try.prog (fun _ => true) 31 = some F_r11_Same := by kernel_rfl
@[simp] abbrev n_r05_Same : FuncId := 55
def F_r05_Same : F := ⟨(.seq (.ops [⟨(some 2), none, (.box (.t 0))⟩, ⟨(some 3), none, (.box (.t 1))⟩, ⟨(some 4), none, (.mov (.c (.bool false)))⟩]) (.seq (.ops [⟨(some 5), none, (.fad (.t 2) 0)⟩, ⟨(some 6), none, (.ld (.t 5) none)⟩, ⟨(some 7), none, (.fad (.t 3) 0)⟩, ⟨(some 8), none, (.ld (.t 7) none)⟩, ⟨(some 9), none, (.bin .eql (.t 6) (.t 8))⟩, ⟨(some 10), none, (.mov (.t 9))⟩, ⟨(some 11), (some (10, true)), (.fad (.t 2) 1)⟩, ⟨(some 12), (some (10, true)), (.ld (.t 11) none)⟩, ⟨(some 13), (some (10, true)), (.fad (.t 3) 1)⟩, ⟨(some 14), (some (10, true)), (.ld (.t 13) none)⟩, ⟨(some 15), (some (10, true)), (.bin .eql (.t 12) (.t 14))⟩, ⟨(some 16), none, (.pick (.t 10) (.t 15) (.c (.bool false)))⟩, ⟨(some 17), none, (.mov (.t 16))⟩, ⟨(some 18), (some (17, true)), (.fad (.t 2) 2)⟩, ⟨(some 19), (some (17, true)), (.ld (.t 18) none)⟩, ⟨(some 20), (some (17, true)), (.b2s (.t 19))⟩, ⟨(some 21), (some (17, true)), (.fad (.t 3) 2)⟩, ⟨(some 22), (some (17, true)), (.ld (.t 21) none)⟩, ⟨(some 23), (some (17, true)), (.b2s (.t 22))⟩, ⟨(some 24), (some (17, true)), (.bin .eql (.t 20) (.t 23))⟩, ⟨(some 25), none, (.pick (.t 17) (.t 24) (.c (.bool false)))⟩, ⟨(some 4), none, (.mov (.t 25))⟩]) .ret)), 26, [(.tmp 4)]⟩
theorem F_r05_Same_ok : compF Try.prog (fun _ => true) 55 = some F_r05_Same := by kernel_rfl
@[simp] abbrev n_r05_All : FuncId := 30
def F_r05_All_L0 : C := (.seq (.seq (.ops [⟨(some 12), none, (.mov (.t 5))⟩, ⟨(some 13), none, (.mov (.t 0))⟩, ⟨(some 14), none, (.len (.t 13))⟩, ⟨(some 15), none, (.bin .lss (.t 12) (.t 14))⟩]) (.cond (.t 15) .skip (.exit 0))) (.seq (.block 1 (.seq (.dops false [] [⟨(some 18), none, (.mov (.t 0))⟩, ⟨(some 19), none, (.mov (.t 5))⟩, ⟨(some 20), none, (.ixs (.t 18) (.t 19) 3)⟩, ⟨(some 21), none, (.lde (.t 20) (some 3))⟩, ⟨(some 22), none, (.mov (.t 1))⟩, ⟨(some 23), none, (.mov (.t 5))⟩, ⟨(some 24), none, (.ixs (.t 22) (.t 23) 3)⟩, ⟨(some 25), none, (.lde (.t 24) (some 3))⟩, ⟨(some 26), none, (.call 55 [(.t 21), (.t 25)])⟩, ⟨(some 6), none, (.mov (.t 26))⟩]) (.seq (.ops [⟨(some 27), none, (.mov (.t 6))⟩, ⟨(some 28), none, (.un .not (.t 27))⟩]) (.cond (.t 28) (.seq (.ops [⟨(some 4), none, (.mov (.c (.bool false)))⟩]) .ret) .skip)))) (.ops [⟨(some 16), none, (.mov (.t 5))⟩, ⟨(some 17), none, (.bin .add (.t 16) (.c (.int .i64 1)))⟩, ⟨(some 5), none, (.mov (.t 17))⟩])))
def F_r05_All : F := ⟨(.seq (.ops [⟨(some 4), none, (.mov (.c (.bool false)))⟩]) (.seq (.seq (.ops [⟨(some 7), none, (.mov (.t 0))⟩, ⟨(some 8), none, (.len (.t 7))⟩, ⟨(some 9), none, (.mov (.t 1))⟩, ⟨(some 10), none, (.len (.t 9))⟩, ⟨(some 11), none, (.bin .neq (.t 8) (.t 10))⟩]) (.cond (.t 11) (.seq (.ops [⟨(some 4), none, (.mov (.c (.bool false)))⟩]) .ret) .skip)) (.seq (.seq (.ops [⟨(some 5), none, (.mov (.c (.int .i64 0)))⟩]) (.block 0 (.loop F_r05_All_L0))) (.seq (.ops [⟨(some 4), none, (.mov (.c (.bool true)))⟩]) .ret)))), 29, [(.tmp 4)]⟩
theorem F_r05_All_ok : compF Try.prog (fun _ => true) 30 = some F_r05_All := by kernel_rfl
end Go.Av

namespace Go.Av
open Enc (enc dec)
open Cel (cs dc)
open Go.Proofs Pl

/-- Extents one behind the other, from a block on; where they end. -/
def mapFrom (a : Int) (prev : Option Xt) : List Xt → Option Int
  | [] => some a
  | x :: l => if extOk x = true ∧ x.lba = a ∧ (prev.map fun y => joins y x) ≠ some true then mapFrom (a + x.len) (some x) l else none
def mapOk (n : Int) (l : List Xt) : Bool := decide (l ≠ []) && decide (mapFrom 0 none l = some n)
theorem mapFrom_le : ∀ {l : List Xt} {a b : Int} {p : Option Xt}, mapFrom a p l = some b → 0 ≤ a → l ≠ [] → 1 ≤ b ∧ b ≤ 64
  | [], _, _, _, _, _, h => absurd rfl h
  | x :: l, a, b, p, h, ha, _ => by
    simp only [mapFrom] at h
    split at h
    · rename_i hc
      have hx := extOk_iff.1 hc.1
      cases l with
      | nil => simp only [mapFrom, Option.some.injEq] at h; omega
      | cons y l => exact mapFrom_le h (by omega) (by simp)
    · cases h
theorem mapOk_le {n : Int} {l : List Xt} (h : mapOk n l = true) : 1 ≤ n ∧ n ≤ 64 := by
  simp only [mapOk, Bool.and_eq_true, decide_eq_true_eq] at h
  exact mapFrom_le h.2 (Int.le_refl _) h.1
def prevOf (l : List Xt) (i : Nat) : Option Xt := if i = 0 then none else l[i - 1]?
@[simp] theorem prevOf_succ (l : List Xt) (i : Nat) : prevOf l (i + 1) = l[i]? := by simp [prevOf]

@[simp] def sp_joins (x y : Xt) : Option (V × List Tip) := some (enc (joins x y), [])
theorem sp_joins_ok : EOk Try.prog n_extent_Joins (sp2 sp_joins) := sp2_ok fun x y r h => by cases h; exact c_ext_Joins x y
theorem sp_rjoins_ok : EOk Try.prog n_r07_Joins (sp2 sp_joins) := sp2_ok fun x y r h => by cases h; exact c_r07_Joins x y
def D21 : Orc := (Orc.nil.add n_extent_Check (sp1 sp_extOk)).add n_extent_Joins (sp2 sp_joins)
theorem D21_ok : OOk Try.prog D21 := (OOk.nil.add sp_extOk_ok).add sp_joins_ok
def MCheckI (n : Int) (l : List Xt) (k : Nat) (s : Nat → V) (m : Mem) : Prop :=
  ∃ (i : Nat) (a : Int), i + k = l.length ∧ 0 ≤ a ∧ a ≤ 64 ∧ mapFrom 0 none l = mapFrom a (prevOf l i) (l.drop i) ∧ s 0 = .val (.int .i64 n) ∧ s 1 = .lit 5 (l.map cs) ∧ s 5 = .val (.int .i64 a) ∧ s 8 = .lit 5 (l.map cs) ∧ s 9 = .val (.int .i64 l.length) ∧ s 10 = .val (.int .i64 i)
theorem c_map_Check (n : Int) (l : List Xt) (hl : l.length ≤ 2 ^ 40) : Pure Try.prog n_extmap_Check [enc n, enc l] (enc (mapOk n l)) [] := by
  refine Pure.ofC D21_ok hm F_extmap_Check_ok (by simp [F_extmap_Check]) rfl ?_
  simp [F_extmap_Check]
  refine wp_loop (MCheckI n l) l.length (IW.of ⟨0, 0, by omega, by omega, by omega, rfl, by simp, by simp, by simp, by simp, by simp, by simp⟩) fun k s m ⟨i, a, hik, ha1, ha2, hr, h0, h1, h5, h8, h9, h10⟩ => ?_
  by_cases hi : i < l.length
  · have hg : l[i]? = some l[i] := List.getElem?_eq_getElem hi
    have w1 := IntWalk.i64_in ((i : Int) + 1) (by omega)
    rw [List.drop_eq_getElem_cons hi, mapFrom] at hr
    obtain ⟨x, hxe⟩ : ∃ x, x = l[i] := ⟨_, rfl⟩
    rw [← hxe] at hr
    cases hx : extOk x with
    | false =>
      have e : mapOk n l = false := by simp [mapOk, hr, hx]
      simp [F_extmap_Check_L0, D21, h0, h1, h5, h8, h9, h10, hi, hg, ← hxe, hx, e]
    | true =>
      have hxb := extOk_iff.1 hx
      have w2 := IntWalk.i64_in (a + x.len) (by omega)
      by_cases hla : x.lba = a
      · subst hla
        by_cases h0i : i = 0
        · subst h0i
          simp [hx, prevOf] at hr
          simp [F_extmap_Check_L0, D21, h0, h1, h5, h8, h9, h10, hi, hg, ← hxe, hx, w2]
          refine ⟨k - 1, by omega, IW.of (show MCheckI n l _ _ _ from ⟨1, x.lba + x.len, by omega, by omega, by omega, ?_, by simpa using h0, by simpa using h1, by simp [w2], by simpa using h8, by simpa using h9, by simp; decide⟩)⟩
          rw [hr, prevOf, if_neg (by omega), hg, ← hxe, List.drop_one]
        · have hi1 : i - 1 < l.length := by omega
          have hg1 : l[i - 1]? = some l[i - 1] := List.getElem?_eq_getElem hi1
          have w3 := IntWalk.i64_in ((i : Int) - 1) (by omega)
          have w4 : ((i : Int) - 1).toNat = i - 1 := by omega
          have w5 : (1 : Int) ≤ i := by omega
          have w6 : (0 : Int) < i := by omega
          simp only [prevOf, if_neg h0i, hg1] at hr
          obtain ⟨y, hye⟩ : ∃ y, y = l[i - 1] := ⟨_, rfl⟩
          rw [← hye] at hr
          cases hj : joins y x with
          | true =>
            have e : mapOk n l = false := by simp [mapOk, hr, hj]
            simp [F_extmap_Check_L0, D21, h0, h1, h5, h8, h9, h10, hi, hg, ← hxe, hx, hg1, ← hye, w3, w4, w5, w6, h0i, hj, e]
          | false =>
            simp [hx, hj] at hr
            simp [F_extmap_Check_L0, D21, h0, h1, h5, h8, h9, h10, hi, hg, ← hxe, hx, hg1, ← hye, w2, w3, w4, w5, w6, h0i, hj]
            refine fun _ => ⟨k - 1, by omega, IW.of (show MCheckI n l _ _ _ from ⟨i + 1, x.lba + x.len, by omega, by omega, by omega, ?_, by simpa using h0, by simpa using h1, by simp [w2], by simpa using h8, by simpa using h9, by simp [w1]⟩)⟩
            rw [hr, prevOf_succ, hg, ← hxe]
      · have e : mapOk n l = false := by simp [mapOk, hr, hla]
        simp [F_extmap_Check_L0, D21, h0, h1, h5, h8, h9, h10, hi, hg, ← hxe, hx, hla, e]
  · have hil : i = l.length := by omega
    rw [hil, List.drop_length, mapFrom] at hr
    have e : mapOk n l = (decide (0 < l.length) && decide (a = n)) := by
      rw [mapOk, hr]
      cases l <;> simp
    simp [F_extmap_Check_L0, D21, h0, h1, h5, h8, h9, h10, hi, e]
    exact ⟨fun h _ => h, fun h h' => by simp [h] at h'⟩
def D22 : Orc := (Orc.nil.add n_r07_Check (sp1 sp_extOk)).add n_r07_Joins (sp2 sp_joins)
theorem D22_ok : OOk Try.prog D22 := (OOk.nil.add sp_rextOk_ok).add sp_rjoins_ok
def RMCheckI (n : Int) (l : List Xt) (k : Nat) (s : Nat → V) (m : Mem) : Prop :=
  ∃ (i : Nat) (a : Int), i + k = l.length ∧ 0 ≤ a ∧ a ≤ 64 ∧ mapFrom 0 none l = mapFrom a (prevOf l i) (l.drop i) ∧ s 0 = .val (.int .i64 n) ∧ s 1 = .lit 5 (l.map cs) ∧ s 5 = .val (.int .i64 a) ∧ s 6 = .val (.int .i64 i)
theorem c_r08_Check (n : Int) (l : List Xt) (hl : l.length ≤ 2 ^ 40) : Pure Try.prog n_r08_Check [enc n, enc l] (enc (mapOk n l)) [] := by
  refine Pure.ofC D22_ok hm F_r08_Check_ok (by simp [F_r08_Check]) rfl ?_
  by_cases hn : 1 ≤ n ∧ n ≤ 64
  · have hn1 : ¬ n < 1 := by omega
    have hn2 : ¬ 64 < n := by omega
    simp [F_r08_Check, hn1, hn2]
    refine wp_loop (RMCheckI n l) l.length (IW.of ⟨0, 0, by omega, by omega, by omega, rfl, by simp, by simp, by simp, by simp⟩) fun k s m ⟨i, a, hik, ha1, ha2, hr, h0, h1, h5, h6⟩ => ?_
    by_cases hi : i < l.length
    · have hg : l[i]? = some l[i] := List.getElem?_eq_getElem hi
      have w1 := IntWalk.i64_in ((i : Int) + 1) (by omega)
      rw [List.drop_eq_getElem_cons hi, mapFrom] at hr
      obtain ⟨x, hxe⟩ : ∃ x, x = l[i] := ⟨_, rfl⟩
      rw [← hxe] at hr
      cases hx : extOk x with
      | false =>
        have e : mapOk n l = false := by simp [mapOk, hr, hx]
        simp [F_r08_Check_L0, D22, h0, h1, h5, h6, hi, hg, ← hxe, hx, e]
      | true =>
        have hxb := extOk_iff.1 hx
        have w2 := IntWalk.i64_in (a + x.len) (by omega)
        by_cases hla : x.lba = a
        · subst hla
          by_cases h0i : i = 0
          · subst h0i
            simp [hx, prevOf] at hr
            simp [F_r08_Check_L0, D22, h0, h1, h5, h6, hi, hg, ← hxe, hx, w2]
            refine ⟨k - 1, by omega, IW.of (show RMCheckI n l _ _ _ from ⟨1, x.lba + x.len, by omega, by omega, by omega, ?_, by simpa using h0, by simpa using h1, by simp [w2], by simp; decide⟩)⟩
            rw [hr, prevOf, if_neg (by omega), hg, ← hxe, List.drop_one]
          · have hi1 : i - 1 < l.length := by omega
            have hg1 : l[i - 1]? = some l[i - 1] := List.getElem?_eq_getElem hi1
            have w3 := IntWalk.i64_in ((i : Int) - 1) (by omega)
            have w4 : ((i : Int) - 1).toNat = i - 1 := by omega
            have w5 : (1 : Int) ≤ i := by omega
            have w6 : (0 : Int) < i := by omega
            simp only [prevOf, if_neg h0i, hg1] at hr
            obtain ⟨y, hye⟩ : ∃ y, y = l[i - 1] := ⟨_, rfl⟩
            rw [← hye] at hr
            cases hj : joins y x with
            | true =>
              have e : mapOk n l = false := by simp [mapOk, hr, hj]
              simp [F_r08_Check_L0, D22, h0, h1, h5, h6, hi, hg, ← hxe, hx, hg1, ← hye, w3, w4, w5, w6, h0i, hj, e]
            | false =>
              simp [hx, hj] at hr
              simp [F_r08_Check_L0, D22, h0, h1, h5, h6, hi, hg, ← hxe, hx, hg1, ← hye, w2, w3, w4, w5, w6, h0i, hj]
              refine fun _ => ⟨k - 1, by omega, IW.of (show RMCheckI n l _ _ _ from ⟨i + 1, x.lba + x.len, by omega, by omega, by omega, ?_, by simpa using h0, by simpa using h1, by simp [w2], by simp [w1]⟩)⟩
              rw [hr, prevOf_succ, hg, ← hxe]
        · have e : mapOk n l = false := by simp [mapOk, hr, hla]
          simp [F_r08_Check_L0, D22, h0, h1, h5, h6, hi, hg, ← hxe, hx, hla, e]
    · have hil : i = l.length := by omega
      rw [hil, List.drop_length, mapFrom] at hr
      have e : mapOk n l = decide (a = n) := by
        rw [mapOk, hr]
        cases l with
        | nil =>
          simp only [mapFrom, Option.some.injEq] at hr
          have : ¬ a = n := by omega
          simp [this]
        | cons => simp
      simp [F_r08_Check_L0, D22, h0, h1, h5, h6, hi, e]
  · have e : mapOk n l = false := by
      cases h : mapOk n l with
      | false => rfl
      | true => exact absurd (mapOk_le h) hn
    simp [F_r08_Check, e]
    omega
end Go.Av

namespace Go.Av
open Enc (enc dec)
open Cel (cs dc)
open Go.Proofs Pl

def newL (n : Int) : List Xt := if 1 ≤ n ∧ n ≤ 64 then [⟨0, n, 0, 0, []⟩] else []
def newE (n : Int) : Int := if 1 ≤ n ∧ n ≤ 64 then 0 else 81
theorem c_map_New (n : Int) : Pure Try.prog n_extmap_New [enc n] (.tuple [.row 0 5 ((newL n).map cs), enc (newE n)]) [(174, 5, (newL n).length)] := by
  refine Pure.ofR OOk.nil hm F_extmap_New_ok (by simp [F_extmap_New]) (by simp [V.res, V.res1]) ?_
  by_cases h1 : 1 ≤ n
  · have h1' : ¬ n < 1 := by omega
    by_cases h2 : n ≤ 64
    · have h2' : ¬ 64 < n := by omega
      simp [F_extmap_New, newL, newE, h1, h2, h1', h2']
    · have h2' : 64 < n := by omega
      simp [F_extmap_New, newL, newE, h1, h2, h1', h2']
  · have h1' : n < 1 := by omega
    simp [F_extmap_New, newL, newE, h1, h1']
theorem c_st_within (n a b : Int) : Pure Try.prog n_state_within [enc n, enc a, enc b] (enc (decide (a ≤ n ∧ n ≤ b))) [] := by
  refine Pure.ofC OOk.nil hm F_state_within_ok (by simp [F_state_within]) rfl ?_
  simp [F_state_within]
  by_cases h : a ≤ n
  · simp [h]
    try omega
  · simp [h]
    try omega

/-- A box of a number. -/
def boxI (m : Mem) (p : Nat) : Option Int := match m.boxes[p]? with
  | some [.val (.int .i64 n)] => some n
  | _ => none
theorem boxI_some {m : Mem} {p : Nat} {b : Int} (h : boxI m p = some b) : m.boxes[p]? = some [.val (.int .i64 b)] := by
  unfold boxI at h
  split at h
  · cases h; assumption
  · cases h
@[simp] theorem boxI_of {m : Mem} {p : Nat} {b : Int} (h : m.boxes[p]? = some [.val (.int .i64 b)]) : boxI m p = some b := by simp [boxI, h]
theorem c_upto1 (m : Mem) (p : Nat) (g : Int) (x : Xt) (hp : m.boxes[p]? = some [.val (.int .i64 g)]) : Loc Try.prog n_state_upto_1 [enc x, .ptr p 0] m (enc (decide (g < x.gen))) m := by
  refine Loc.ofC OOk.nil hm F_state_upto_1_ok (by simp [F_state_upto_1]) (.inl rfl) m.boxes.length m.tips.length (Nat.le_refl _) (Nat.le_refl _) fun hu => ?_
  have hpl : p < m.boxes.length := lt_of_some hp
  have f1 : ∀ (b : List (List V)), (m.boxes ++ b)[p]? = m.boxes[p]? := fun b => List.getElem?_append_left hpl
  clear hpl
  simp [F_state_upto_1, f1, hp, hu]
def sp_upto1 : List V → Mem → Option (V × Mem)
  | [a, .ptr p 0], m => (dec a : Option Xt).bind fun x => (boxI m p).map fun g => (enc (decide (g < x.gen)), m)
  | _, _ => none
theorem sp_upto1_ok : EOkL Try.prog n_state_upto_1 sp_upto1 := by
  intro args m v m' h
  unfold sp_upto1 at h
  split at h
  · simp only [Option.bind_eq_some_iff, Option.map_eq_some_iff] at h
    obtain ⟨x, hx, g, hg, h⟩ := h
    cases h
    exact (c_upto1 m _ g x (boxI_some hg)).wk (wk_dec (WkL.refl _) hx)
  · cases h
/-- The first one that is later. -/
def gtIdx (g : Int) (l : List Xt) : Int := match l.findIdx? (fun x => decide (g < x.gen)) with
  | some i => i
  | none => -1
def anyGt (g : Int) (l : List Xt) : Bool := l.any (fun x => decide (g < x.gen))
theorem gtIdx_nonneg (g : Int) (l : List Xt) : decide (0 ≤ gtIdx g l) = anyGt g l := by
  unfold gtIdx anyGt
  cases h : l.findIdx? (fun x => decide (g < x.gen)) with
  | none =>
    have h1 := List.findIdx?_eq_none_iff.1 h
    have : l.any (fun x => decide (g < x.gen)) = false := by
      rw [List.any_eq_false]
      intro x hx
      simpa using h1 x hx
    rw [this]; rfl
  | some i =>
    have h1 := List.findIdx?_eq_some_iff_getElem.1 h
    obtain ⟨hi, hp, _⟩ := h1
    have : l.any (fun x => decide (g < x.gen)) = true := List.any_eq_true.2 ⟨l[i], List.getElem_mem hi, hp⟩
    rw [this]
    simp
def D23 : Orc := Orc.nil.addL n_state_upto_1 sp_upto1
theorem D23_ok : OOk Try.prog D23 := OOk.nil.addL sp_upto1_ok
def IndexFI (m0 : Mem) (l : List Xt) (p : Nat) (g : Int) (k : Nat) (s : Nat → V) (m : Mem) : Prop :=
  ∃ (i : Nat), i + k = l.length ∧ (∀ j (hj : j < l.length), j < i → ¬ g < l[j].gen) ∧ s 0 = .lit 5 (l.map cs) ∧ s 1 = .func n_state_upto_1 [.ptr p 0] ∧ s 7 = .val (.int .i64 l.length) ∧ s 8 = .val (.int .i64 i) ∧ m = m0
theorem c_indexF (m : Mem) (p : Nat) (g : Int) (l : List Xt) (hl : l.length ≤ 2 ^ 40) (hp : m.boxes[p]? = some [.val (.int .i64 g)]) : Loc Try.prog n_slices_IndexFunc_Extent [enc l, .func n_state_upto_1 [.ptr p 0]] m (enc (gtIdx g l)) m := by
  refine Loc.ofC D23_ok hm F_slices_IndexFunc_Extent_ok (by simp [F_slices_IndexFunc_Extent]) (.inl rfl) m.boxes.length m.tips.length (Nat.le_refl _) (Nat.le_refl _) fun hu => ?_
  have hb := boxI_of hp
  simp [F_slices_IndexFunc_Extent]
  refine wp_loop (IndexFI m l p g) l.length (IW.of ⟨0, by omega, by simp, by simp, by simp, by simp, by simp, rfl⟩) fun k s m' ⟨i, hik, hno, h0, h1, h7, h8, hm'⟩ => ?_
  subst hm'
  by_cases hi : i < l.length
  · have hg : l[i]? = some l[i] := List.getElem?_eq_getElem hi
    have w1 := IntWalk.i64_in ((i : Int) + 1) (by omega)
    by_cases hx : g < l[i].gen
    · have e : gtIdx g l = i := by
        unfold gtIdx
        rw [List.findIdx?_eq_some_iff_getElem.2 ⟨hi, by simpa using hx, fun j hj => by simpa using hno j (by omega) hj⟩]
      simp [F_slices_IndexFunc_Extent_L0, D23, h0, h1, h7, h8, hi, hg, sp_upto1, hb, hx, hu, e]
    · simp [F_slices_IndexFunc_Extent_L0, D23, h0, h1, h7, h8, hi, hg, sp_upto1, hb, hx, w1]
      refine ⟨k - 1, by omega, IW.of (show IndexFI m' l p g _ _ _ from ⟨i + 1, by omega, fun j hj hji => ?_, by simpa using h0, by simpa using h1, by simpa using h7, by simp, rfl⟩)⟩
      by_cases hj' : j = i
      · subst hj'; exact hx
      · exact hno j hj (by omega)
  · have e : gtIdx g l = -1 := by
      unfold gtIdx
      rw [List.findIdx?_eq_none_iff.2]
      intro x hx
      obtain ⟨j, hj, rfl⟩ := List.getElem_of_mem hx
      simpa using hno j hj (by omega)
    simp [F_slices_IndexFunc_Extent_L0, D23, h0, h1, h7, h8, hi, hu, e]
def sp_indexF : List V → Mem → Option (V × Mem)
  | [a, .func 140 [.ptr p 0]], m => (dec a : Option (List Xt)).bind fun l => (boxI m p).bind fun g => if l.length ≤ 2 ^ 40 then some (enc (gtIdx g l), m) else none
  | _, _ => none
theorem sp_indexF_ok : EOkL Try.prog n_slices_IndexFunc_Extent sp_indexF := by
  intro args m v m' h
  unfold sp_indexF at h
  split at h
  · simp only [Option.bind_eq_some_iff] at h
    obtain ⟨x, hx, g, hg, h⟩ := h
    split at h <;> cases h
    exact (c_indexF m _ g x (by assumption) (boxI_some hg)).wk (wk_dec (WkL.refl _) hx)
  · cases h
def D24 : Orc := Orc.nil.addL n_slices_IndexFunc_Extent sp_indexF
theorem D24_ok : OOk Try.prog D24 := OOk.nil.addL sp_indexF_ok
theorem c_containsF (m : Mem) (p : Nat) (g : Int) (l : List Xt) (hl : l.length ≤ 2 ^ 40) (hp : m.boxes[p]? = some [.val (.int .i64 g)]) : Loc Try.prog n_slices_ContainsFunc_Extent [enc l, .func n_state_upto_1 [.ptr p 0]] m (enc (anyGt g l)) m := by
  refine Loc.ofC D24_ok hm F_slices_ContainsFunc_Extent_ok (by simp [F_slices_ContainsFunc_Extent]) (.inl rfl) m.boxes.length m.tips.length (Nat.le_refl _) (Nat.le_refl _) fun hu => ?_
  have hb := boxI_of hp
  have e := gtIdx_nonneg g l
  simp [F_slices_ContainsFunc_Extent, D24, sp_indexF, hb, decX_map, hl, hu, e]
def sp_containsF : List V → Mem → Option (V × Mem)
  | [a, .func 140 [.ptr p 0]], m => (dec a : Option (List Xt)).bind fun l => (boxI m p).bind fun g => if l.length ≤ 2 ^ 40 then some (enc (anyGt g l), m) else none
  | _, _ => none
theorem sp_containsF_ok : EOkL Try.prog n_slices_ContainsFunc_Extent sp_containsF := by
  intro args m v m' h
  unfold sp_containsF at h
  split at h
  · simp only [Option.bind_eq_some_iff] at h
    obtain ⟨x, hx, g, hg, h⟩ := h
    split at h <;> cases h
    exact (c_containsF m _ g x (by assumption) (boxI_some hg)).wk (wk_dec (WkL.refl _) hx)
  · cases h
def uptoOk (n : Int) (l : List Xt) (g : Int) : Bool := mapOk n l && !anyGt g l
@[simp] def sp_mapOk (n : Int) (l : List Xt) : Option (V × List Tip) := if l.length ≤ 2 ^ 40 then some (enc (mapOk n l), []) else none
theorem sp_mapOk_ok : EOk Try.prog n_extmap_Check (sp2 sp_mapOk) := sp2_ok fun n l r h => by
  simp only [sp_mapOk] at h
  split at h <;> cases h
  exact c_map_Check n l (by assumption)
theorem sp_rmapOk_ok : EOk Try.prog n_r08_Check (sp2 sp_mapOk) := sp2_ok fun n l r h => by
  simp only [sp_mapOk] at h
  split at h <;> cases h
  exact c_r08_Check n l (by assumption)
def D25 : Orc := (Orc.nil.add n_extmap_Check (sp2 sp_mapOk)).addL n_slices_ContainsFunc_Extent sp_containsF
theorem D25_ok : OOk Try.prog D25 := (OOk.nil.add sp_mapOk_ok).addL sp_containsF_ok
theorem c_upto (n : Int) (l : List Xt) (g : Int) (hl : l.length ≤ 2 ^ 40) : Pure Try.prog n_state_upto [enc n, enc l, enc g] (enc (uptoOk n l g)) [] := by
  refine Pure.ofC D25_ok hm F_state_upto_ok (by simp [F_state_upto]) rfl ?_
  cases h : mapOk n l <;> simp [F_state_upto, D25, sp_containsF, hl, h, uptoOk, decX_map, boxI]
end Go.Av

namespace Go.Av
open Enc (enc dec)
open Cel (cs dc)
open Go.Proofs Pl

/-- Is what two extents share alike? -/
def keptOne (x y : Xt) : Bool := !cutOk y x.lba x.len ||
  (decide ((cutX x (cutX y x.lba x.len).lba (cutX y x.lba x.len).len).kind = (cutX y x.lba x.len).kind) && decide ((cutX x (cutX y x.lba x.len).lba (cutX y x.lba x.len).len).gen = (cutX y x.lba x.len).gen) && decide ((cutX x (cutX y x.lba x.len).lba (cutX y x.lba x.len).len).data = (cutX y x.lba x.len).data))
def keptX (was l : List Xt) (g : Int) : Bool := l.all fun x => decide (g < x.gen) || was.all (keptOne x)
@[simp] def sp_cut (x : Xt) (lba n : Int) : Option (V × List Tip) := some (.tuple [enc (cutX x lba n), enc (cutOk x lba n)], [])
theorem sp_cut_ok : EOk Try.prog n_extent_Cut (sp3 sp_cut) := sp3_ok fun x a b r h => by cases h; exact c_ext_Cut x a b
theorem sp_Equal_ok : EOk Try.prog n_bytes_Equal (sp2 sp_Equal) := sp2_ok fun a b r h => by cases h; exact c_bytes_Equal a b
def D26 : Orc := (Orc.nil.add n_extent_Cut (sp3 sp_cut)).add n_bytes_Equal (sp2 sp_Equal)
theorem D26_ok : OOk Try.prog D26 := (OOk.nil.add sp_cut_ok).add sp_Equal_ok
def KeptI (was l : List Xt) (g : Int) (k : Nat) (s : Nat → V) (m : Mem) : Prop :=
  ∃ (i : Nat), i + k = l.length ∧ (l.take i).all (fun x => decide (g < x.gen) || was.all (keptOne x)) = true ∧ s 0 = .lit 5 (was.map cs) ∧ s 2 = .val (.int .i64 g) ∧ s 15 = .lit 5 (l.map cs) ∧ s 16 = .val (.int .i64 l.length) ∧ s 17 = .val (.int .i64 i)
def KeptJ (was l : List Xt) (g : Int) (i : Nat) (x : Xt) (k : Nat) (s : Nat → V) (m : Mem) : Prop :=
  ∃ (j p : Nat), j + k = was.length ∧ (was.take j).all (keptOne x) = true ∧ s 0 = .lit 5 (was.map cs) ∧ s 2 = .val (.int .i64 g) ∧ s 15 = .lit 5 (l.map cs) ∧ s 16 = .val (.int .i64 l.length) ∧ s 17 = .val (.int .i64 i) ∧
    s 25 = .lit 5 (was.map cs) ∧ s 26 = .val (.int .i64 was.length) ∧ s 27 = .val (.int .i64 j) ∧ s 8 = .ptr p 0 ∧ m.boxes[p]? = some (cs x)
set_option maxRecDepth 4000 in
theorem c_kept (was l : List Xt) (g : Int) (hw : was.length ≤ 2 ^ 40) (hl : l.length ≤ 2 ^ 40) : Pure Try.prog n_state_kept [enc was, enc l, enc g] (enc (keptX was l g)) [] := by
  refine Pure.ofC D26_ok hm F_state_kept_ok (by simp [F_state_kept]) rfl ?_
  simp [F_state_kept]
  refine wp_loop (KeptI was l g) l.length (IW.of ⟨0, by omega, by simp, by simp, by simp, by simp, by simp, by simp⟩) fun k s m ⟨i, hik, hall, h0, h2, h15, h16, h17⟩ => ?_
  by_cases hi : i < l.length
  · have hg : l[i]? = some l[i] := List.getElem?_eq_getElem hi
    have ht1 : l.take (i + 1) = l.take i ++ [l[i]] := by rw [List.take_add_one, hg]; rfl
    have w1 := IntWalk.i64_in ((i : Int) + 1) (by omega)
    by_cases hx : g < l[i].gen
    · simp [F_state_kept_L1, D26, h0, h2, h15, h16, h17, hi, hg, hx, w1]
      refine ⟨k - 1, by omega, IW.of (show KeptI was l g _ _ _ from ⟨i + 1, by omega, ?_, by simpa using h0, by simpa using h2, by simpa using h15, by simpa using h16, by simp⟩)⟩
      rw [ht1, List.all_append, hall]
      simp [hx]
    · simp [F_state_kept_L1, D26, h0, h2, h15, h16, h17, hi, hg, hx]
      refine wp_loop (KeptJ was l g i l[i]) was.length (IW.of ⟨0, m.boxes.length, by omega, by simp, by simpa using h0, by simpa using h2, by simpa using h15, by simpa using h16, by simpa using h17, by simp, by simp, by simp, by simp, by simp⟩) fun k' s' m' ⟨j, p, hjk, hall', h0, h2, h15, h16, h17, h25, h26, h27, h8, hp⟩ => ?_
      by_cases hj : j < was.length
      · have hg' : was[j]? = some was[j] := List.getElem?_eq_getElem hj
        have ht2 : was.take (j + 1) = was.take j ++ [was[j]] := by rw [List.take_add_one, hg']; rfl
        have w2 := IntWalk.i64_in ((j : Int) + 1) (by omega)
        have hpl : p < m'.boxes.length := lt_of_some hp
        have f1 : ∀ (b : List (List V)), (m'.boxes ++ b)[p]? = m'.boxes[p]? := fun b => List.getElem?_append_left hpl
        simp only [cs_ext] at hp
        cases hc : cutOk was[j] l[i].lba l[i].len with
        | false =>
          simp [F_state_kept_L0, D26, h0, h2, h15, h16, h17, h25, h26, h27, h8, hj, hg', f1, hp, hc, w2]
          have e1 : keptOne l[i] was[j] = true := by simp [keptOne, hc]
          refine ⟨k' - 1, by omega, IW.of (show KeptJ was l g i l[i] _ _ _ from ⟨j + 1, p, by omega, ?_, by simpa using h0, by simpa using h2, by simpa using h15, by simpa using h16, by simpa using h17, by simpa using h25, by simpa using h26, by simp, by simpa using h8, by simp [f1, hp]⟩)⟩
          rw [ht2, List.all_append, hall']
          simp [e1]
        | true =>
          cases e1 : keptOne l[i] was[j] with
          | true =>
            have e2 := e1
            simp only [keptOne, hc, Bool.not_true, Bool.false_or, Bool.and_eq_true, decide_eq_true_eq] at e2
            obtain ⟨⟨q1, q2⟩, q3⟩ := e2
            simp [F_state_kept_L0, D26, h0, h2, h15, h16, h17, h25, h26, h27, h8, hj, hg', f1, hp, hc, w2, q1, q2, q3]
            refine ⟨k' - 1, by omega, IW.of (show KeptJ was l g i l[i] _ _ _ from ⟨j + 1, p, by omega, ?_, by simpa using h0, by simpa using h2, by simpa using h15, by simpa using h16, by simpa using h17, by simpa using h25, by simpa using h26, by simp, by simpa using h8, by simp [f1, hp]⟩)⟩
            rw [ht2, List.all_append, hall']
            simp [e1]
          | false =>
            have e2 := e1
            simp only [keptOne, hc, Bool.not_true, Bool.false_or, Bool.and_eq_false_iff, decide_eq_false_iff_not] at e2
            have e3 : keptX was l g = false := by
              rw [keptX, List.all_eq_false]
              refine ⟨l[i], List.getElem_mem hi, ?_⟩
              have : was.all (keptOne l[i]) = false := List.all_eq_false.2 ⟨was[j], List.getElem_mem hj, by simp [e1]⟩
              simp [hx, this]
            simp [F_state_kept_L0, D26, h0, h2, h15, h16, h17, h25, h26, h27, h8, hj, hg', f1, hp, hc, e3]
            intro a b c
            rcases e2 with (e2 | e2) | e2
            · exact absurd a e2
            · exact absurd b e2
            · exact absurd c e2
      · have hjl : j = was.length := by omega
        rw [hjl, List.take_length] at hall'
        simp [F_state_kept_L0, D26, h0, h2, h15, h16, h17, h25, h26, h27, hj, w1]
        refine ⟨k - 1, by omega, IW.of (show KeptI was l g _ _ _ from ⟨i + 1, by omega, ?_, by simpa using h0, by simpa using h2, by simpa using h15, by simpa using h16, by simp⟩)⟩
        rw [ht1, List.all_append, hall]
        simp [hall']
  · have hil : i = l.length := by omega
    rw [hil, List.take_length] at hall
    have e : keptX was l g = true := hall
    simp [F_state_kept_L1, D26, h0, h2, h15, h16, h17, hi, e]
end Go.Av

namespace Go.Av.Pl
structure Pt where
  id : Int
  gen : Int
  map : List Xt
deriving DecidableEq
structure Sta where
  blocks : Int
  gen : Int
  map : List Xt
  pts : List Pt
  last : Int
  staged : List UInt8
deriving DecidableEq
def Pt.zero : Pt := ⟨0, 0, []⟩
def Sta.zero : Sta := ⟨0, 0, [], [], 0, []⟩
def lastPt (w : Pt) : List Pt → Pt
  | [] => w
  | p :: l => lastPt p l
end Go.Av.Pl

namespace Go.Av
open Enc (enc dec)
open Cel (cs dc)
open Go.Proofs Pl

instance : Cel Pt where
  sz := 3
  cs x := [enc x.id, enc x.gen, enc x.map]
  dc l := match l with
    | [a, b, c] => (dec a).bind fun a => (dec b).bind fun b => (dec c).bind fun c => some ⟨a, b, c⟩
    | _ => none
  len _ := rfl
  ok l x h := by
    split at h
    · simp only [Option.bind_eq_some_iff] at h
      obtain ⟨a, ha, b, hb, c, hc, h⟩ := h
      cases h
      exact wk_dec (wk_dec (wk_dec wk_nil hc) hb) ha
    · cases h
  cl x := by simp [clean_cs]
  de x := by simp [decX_map]
instance : Enc Pt := encC
@[simp] theorem sz_pt : Cel.sz Pt = 3 := rfl
@[simp] theorem cs_pt (x : Pt) : cs x = [.val (.int .i64 x.id), .val (.int .i64 x.gen), .lit 5 (x.map.map cs)] := rfl
@[simp] theorem enc_pt (x : Pt) : (enc x : V) = .agg [.val (.int .i64 x.id), .val (.int .i64 x.gen), .lit 5 (x.map.map cs)] := rfl
@[simp] theorem dc_pt (a b c : V) : (dc [a, b, c] : Option Pt) = (dec a).bind fun a => (dec b).bind fun b => (dec c).bind fun c => some ⟨a, b, c⟩ := rfl
@[simp] theorem dec_pt (l : List V) : (dec (.agg l) : Option Pt) = dc l := rfl
instance : Cel Sta where
  sz := 6
  cs x := [enc x.blocks, enc x.gen, enc x.map, enc x.pts, enc x.last, enc x.staged]
  dc l := match l with
    | [a, b, c, d, e, f] => (dec a).bind fun a => (dec b).bind fun b => (dec c).bind fun c => (dec d).bind fun d => (dec e).bind fun e => (dec f).bind fun f => some ⟨a, b, c, d, e, f⟩
    | _ => none
  len _ := rfl
  ok l x h := by
    split at h
    · simp only [Option.bind_eq_some_iff] at h
      obtain ⟨a, ha, b, hb, c, hc, d, hd, e, he, f, hf, h⟩ := h
      cases h
      exact wk_dec (wk_dec (wk_dec (wk_dec (wk_dec (wk_dec wk_nil hf) he) hd) hc) hb) ha
    · cases h
  cl x := by simp [clean_cs]
  de x := by simp [decX_map]
instance : Enc Sta := encC
@[simp] theorem sz_sta : Cel.sz Sta = 6 := rfl
@[simp] theorem cs_sta (x : Sta) : cs x = [.val (.int .i64 x.blocks), .val (.int .i64 x.gen), .lit 5 (x.map.map cs), .lit 3 (x.pts.map cs), .val (.int .i64 x.last), .lit 1 (x.staged.map cs)] := rfl
@[simp] theorem enc_sta (x : Sta) : (enc x : V) = .agg [.val (.int .i64 x.blocks), .val (.int .i64 x.gen), .lit 5 (x.map.map cs), .lit 3 (x.pts.map cs), .val (.int .i64 x.last), .lit 1 (x.staged.map cs)] := rfl
@[simp] theorem dc_sta (a b c d e f : V) : (dc [a, b, c, d, e, f] : Option Sta) = (dec a).bind fun a => (dec b).bind fun b => (dec c).bind fun c => (dec d).bind fun d => (dec e).bind fun e => (dec f).bind fun f => some ⟨a, b, c, d, e, f⟩ := rfl
@[simp] theorem dec_sta (l : List V) : (dec (.agg l) : Option Sta) = dc l := rfl

def ptOk (s : Sta) (w p : Pt) : Bool := uptoOk s.blocks p.map p.gen && decide (w.id < p.id) && decide (p.id ≤ s.last) && decide (w.gen < p.gen) && decide (p.gen < s.gen) && keptX w.map p.map w.gen
def ptsOk (s : Sta) (w : Pt) : List Pt → Bool
  | [] => true
  | p :: l => ptOk s w p && ptsOk s p l
def staMay (s : Sta) : Bool := uptoOk s.blocks s.map s.gen && decide (1 ≤ s.gen ∧ s.gen ≤ 2147483647) && decide (s.pts.length ≤ 4) && decide (0 ≤ s.last ∧ s.last ≤ 2147483647) && decide (s.staged.length ≤ 4000)
def staOk (s : Sta) : Bool := (staMay s && ptsOk s Pt.zero s.pts) && keptX (lastPt Pt.zero s.pts).map s.map (lastPt Pt.zero s.pts).gen
def staE (s : Sta) : Int := if staOk s = true then 0 else 110
/-- Lists of a length that may be. -/
def staLen (s : Sta) : Prop := s.map.length ≤ 2 ^ 30 ∧ s.pts.length ≤ 2 ^ 30 ∧ (∀ p ∈ s.pts, p.map.length ≤ 2 ^ 30) ∧ s.staged.length ≤ 2 ^ 30
@[simp] def sp_upto (n : Int) (l : List Xt) (g : Int) : Option (V × List Tip) := if l.length ≤ 2 ^ 40 then some (enc (uptoOk n l g), []) else none
@[simp] def sp_kept (a b : List Xt) (g : Int) : Option (V × List Tip) := if a.length ≤ 2 ^ 40 ∧ b.length ≤ 2 ^ 40 then some (enc (keptX a b g), []) else none
def D27 : Orc := ((Orc.nil.add n_state_upto (sp3 sp_upto)).add n_state_kept (sp3 sp_kept)).add n_state_within (sp3 sp_within)
theorem D27_ok : OOk Try.prog D27 := by
  refine ((OOk.nil.add (sp3_ok fun n l g r h => ?_)).add (sp3_ok fun a b g r h => ?_)).add (sp3_ok fun a b c r h => by cases h; exact c_st_within a b c)
  · simp only [sp_upto] at h
    split at h <;> cases h
    exact c_upto n l g (by assumption)
  · simp only [sp_kept] at h
    split at h <;> cases h
    rename_i h
    exact c_kept a b g h.1 h.2
def StaI (q : Sta) (k : Nat) (s : Nat → V) (m : Mem) : Prop :=
  ∃ (i : Nat) (w : Pt) (may : Bool) (bx : List (List V)) (tips : List Tip), i + k = q.pts.length ∧ s 1 = .ptr 0 0 ∧ s 4 = .ptr 1 0 ∧ s 3 = .val (.bool may) ∧ s 37 = .lit 3 (q.pts.map cs) ∧ s 38 = .val (.int .i64 q.pts.length) ∧ s 39 = .val (.int .i64 i) ∧
    (staMay q && ptsOk q Pt.zero q.pts) = (may && ptsOk q w (q.pts.drop i)) ∧ lastPt Pt.zero q.pts = lastPt w (q.pts.drop i) ∧ w.map.length ≤ 2 ^ 30 ∧ m = ⟨cs q :: cs w :: bx, tips⟩
set_option maxRecDepth 4000 in
theorem c_st_Check (q : Sta) (hq : staLen q) : Pure Try.prog n_state_Check [enc q] (enc (staE q)) [] := by
  obtain ⟨hq1, hq2, hq3, hq4⟩ := hq
  refine Pure.ofC D27_ok hm F_state_Check_ok (by simp [F_state_Check]) rfl ?_
  have b1 : q.map.length ≤ 1099511627776 := by omega
  refine wp_seqC (fun s m => s 1 = .ptr 0 0 ∧ m = ⟨[cs q], []⟩) (by simp) fun s m ⟨h1, hm⟩ => ?_
  subst hm
  refine wp_seqC (fun s m => s 1 = .ptr 0 0 ∧ s 3 = .val (.bool (staMay q)) ∧ m = ⟨[cs q], []⟩) ?_ fun s m ⟨h1, h3, hm⟩ => ?_
  · simp [D27, h1, b1]
    have e4 : ((q.pts.length : Int) ≤ 4) ↔ q.pts.length ≤ 4 := by omega
    have e5 : ((q.staged.length : Int) ≤ 4000) ↔ q.staged.length ≤ 4000 := by omega
    simp only [e4, e5]
    by_cases c1 : uptoOk q.blocks q.map q.gen = true <;> by_cases c2 : 1 ≤ q.gen <;> by_cases c3 : q.gen ≤ 2147483647 <;> by_cases c4 : q.pts.length ≤ 4 <;> by_cases c5 : 0 ≤ q.last <;> by_cases c6 : q.last ≤ 2147483647 <;> simp [staMay, c1, c2, c3, c4, c5, c6] <;> try omega
  subst hm
  simp [D27, h1, h3]
  refine wp_loop (StaI q) q.pts.length (IW.of ⟨0, Pt.zero, staMay q, [], [], by omega, by simpa using h1, by simp, by simpa using h3, by simp, by simp, by simp, by simp, by simp, by simp [Pt.zero], by simp [Pt.zero]⟩) fun k s m ⟨i, w, may, bx, tips, hik, h1, h4, h3, h37, h38, h39, hmay, hlast, hw, hm⟩ => ?_
  subst hm
  by_cases hi : i < q.pts.length
  · have hg : q.pts[i]? = some q.pts[i] := List.getElem?_eq_getElem hi
    have w1 := IntWalk.i64_in ((i : Int) + 1) (by omega)
    have hpl := hq3 q.pts[i] (List.getElem_mem hi)
    rw [List.drop_eq_getElem_cons hi, ptsOk] at hmay
    rw [List.drop_eq_getElem_cons hi, lastPt] at hlast
    obtain ⟨p, hpe⟩ : ∃ p, p = q.pts[i] := ⟨_, rfl⟩
    rw [← hpe] at hmay hlast hpl
    have b2 : w.map.length ≤ 1099511627776 := by omega
    have b3 : p.map.length ≤ 1099511627776 := by omega
    have leaf : ∀ (may' : Bool) (s' : Nat → V) (m' : Mem) (bx' : List (List V)) (tips' : List Tip), s' 1 = .ptr 0 0 ∧ s' 4 = .ptr 1 0 ∧ s' 3 = .val (.bool may') ∧ s' 37 = .lit 3 (q.pts.map cs) ∧ s' 38 = .val (.int .i64 q.pts.length) ∧ s' 39 = .val (.int .i64 ((i : Int) + 1)) ∧ m' = ⟨cs q :: cs p :: bx', tips'⟩ → may' = (may && ptOk q w p) → ∃ j, j < k ∧ IW (StaI q j) s' m' := by
      intro may' s' m' bx' tips' ⟨k1, k2, k3, k4, k5, k6, k7⟩ hm'
      refine ⟨k - 1, by omega, IW.of (show StaI q _ _ _ from ⟨i + 1, p, may', bx', tips', by omega, k1, k2, k3, k4, k5, by simpa using k6, ?_, hlast, by omega, k7⟩)⟩
      rw [hmay, hm', Bool.and_assoc]
    simp [F_state_Check_L0, D27, h1, h4, h3, h37, h38, h39, hi, hg, ← hpe, w1, b2, b3]
    repeat' first
      | apply And.intro
      | intro _
    all_goals
      refine leaf _ _ _ _ _ ⟨by simpa using h1, by simpa using h4, by simp; rfl, by simpa using h37, by simpa using h38, by simp, rfl⟩ ?_
      simp_all [ptOk] <;> try (intros; omega)
  · have hil : i = q.pts.length := by omega
    rw [hil, List.drop_length] at hmay hlast
    simp [ptsOk] at hmay
    have e : staOk q = (may && keptX w.map q.map w.gen) := by rw [staOk, hmay, hlast]; rfl
    have b2 : w.map.length ≤ 1099511627776 := by omega
    cases may <;> cases hkx : keptX w.map q.map w.gen <;> simp [F_state_Check, hkx, F_state_Check_L0, D27, h1, h4, h3, h37, h38, h39, hi, b1, b2, staE, e]
end Go.Av

namespace Go.Av
open Enc (enc dec)
open Cel (cs dc)
open Go.Proofs Pl

def newS (n : Int) : Sta := if 1 ≤ n ∧ n ≤ 64 then ⟨n, 1, newL n, [], 0, []⟩ else Sta.zero
@[simp] def sp_mnew (n : Int) : Option (V × List Tip) := some (.tuple [.row 0 5 ((newL n).map cs), enc (newE n)], [(174, 5, (newL n).length)])
theorem sp_mnew_ok : EOk Try.prog n_extmap_New (sp1 sp_mnew) := sp1_ok fun n r h => by cases h; exact c_map_New n
def D28 : Orc := Orc.nil.add n_extmap_New (sp1 sp_mnew)
theorem D28_ok : OOk Try.prog D28 := OOk.nil.add sp_mnew_ok
theorem c_st_New (n : Int) : Pure Try.prog n_state_New [enc n] (.tuple [enc (newS n), enc (newE n)]) [] := by
  refine Pure.ofC D28_ok hm F_state_New_ok (by simp [F_state_New]) (by simp [V.res, V.res1]) ?_
  by_cases h : 1 ≤ n ∧ n ≤ 64
  · simp [F_state_New, D28, newE, newS, h]
  · simp [F_state_New, D28, newE, newS, h, Sta.zero]

@[simp] def sp_all (a b : List Xt) : Option (V × List Tip) := if a.length ≤ 2 ^ 40 then some (enc (decide (a = b)), []) else none
theorem sp_all_ok : EOk Try.prog n_r07_All (sp2 sp_all) := sp2_ok fun a b r h => by
  simp only [sp_all] at h
  split at h <;> cases h
  exact c_r07_All a b (by assumption)
def D29 : Orc := Orc.nil.add n_r07_All (sp2 sp_all)
theorem D29_ok : OOk Try.prog D29 := OOk.nil.add sp_all_ok
theorem c_r11_Points (a b : Pt) (ha : a.map.length ≤ 2 ^ 40) : Pure Try.prog n_r11_Points [enc a, enc b] (enc (decide (a = b))) [] := by
  refine Pure.ofC D29_ok hm F_r11_Points_ok (by simp [F_r11_Points]) rfl ?_
  obtain ⟨a1, a2, a3⟩ := a
  obtain ⟨b1, b2, b3⟩ := b
  simp only at ha
  by_cases h1 : a1 = b1 <;> by_cases h2 : a2 = b2 <;> simp [F_r11_Points, D29, ha, h1, h2]
@[simp] def sp_points (a b : Pt) : Option (V × List Tip) := if a.map.length ≤ 2 ^ 40 then some (enc (decide (a = b)), []) else none
theorem sp_points_ok : EOk Try.prog n_r11_Points (sp2 sp_points) := sp2_ok fun a b r h => by
  simp only [sp_points] at h
  split at h <;> cases h
  exact c_r11_Points a b (by assumption)
def D30 : Orc := (Orc.nil.add n_r07_All (sp2 sp_all)).add n_r11_Points (sp2 sp_points)
theorem D30_ok : OOk Try.prog D30 := (OOk.nil.add sp_all_ok).add sp_points_ok
def SameI (a b : Sta) (k : Nat) (s : Nat → V) (m : Mem) : Prop :=
  ∃ (i : Nat) (bx : List (List V)) (tips : List Tip), i + k = a.pts.length ∧ a.pts.take i = b.pts.take i ∧ s 2 = .ptr 0 0 ∧ s 3 = .ptr 1 0 ∧ s 6 = .val (.int .i64 i) ∧ m = ⟨cs a :: cs b :: bx, tips⟩
set_option maxRecDepth 4000 in
theorem c_r11_Same (a b : Sta) (ha : staLen a) : Pure Try.prog n_r11_Same [enc a, enc b] (enc (decide (a = b))) [] := by
  obtain ⟨ha1, ha2, ha3, ha4⟩ := ha
  refine Pure.ofC D30_ok hm F_r11_Same_ok (by simp [F_r11_Same]) rfl ?_
  have b1 : a.map.length ≤ 1099511627776 := by omega
  obtain ⟨a1, a2, a3, a4, a5, a6⟩ := a
  obtain ⟨c1, c2, c3, c4, c5, c6⟩ := b
  simp only at ha1 ha2 ha3 ha4 b1
  by_cases h3 : ¬ a3 = c3
  · simp [F_r11_Same, D30, b1, h3]
  replace h3 := Decidable.not_not.1 h3
  subst h3
  by_cases h1 : ¬ a1 = c1
  · simp [F_r11_Same, D30, b1, h1]
  replace h1 := Decidable.not_not.1 h1
  subst h1
  by_cases h2 : ¬ a2 = c2
  · simp [F_r11_Same, D30, b1, h2]
  replace h2 := Decidable.not_not.1 h2
  subst h2
  by_cases h5 : ¬ a5 = c5
  · simp [F_r11_Same, D30, b1, h5]
  replace h5 := Decidable.not_not.1 h5
  subst h5
  by_cases h6 : ¬ a6 = c6
  · simp [F_r11_Same, D30, b1, h6]
  replace h6 := Decidable.not_not.1 h6
  subst h6
  by_cases h4 : ¬ a4.length = c4.length
  · have e : ¬ a4 = c4 := fun e => h4 (by rw [e])
    have h4' : ¬ (a4.length : Int) = c4.length := by omega
    simp [F_r11_Same, D30, b1, h4', e]
  replace h4 := Decidable.not_not.1 h4
  simp [F_r11_Same, D30, b1, h4]
  refine wp_loop (SameI ⟨a1, a2, a3, a4, a5, a6⟩ ⟨a1, a2, a3, c4, a5, a6⟩) a4.length (IW.of ⟨0, [], [], by simp, by simp, by simp, by simp, by simp, rfl⟩) fun k s m ⟨i, bx, tips, hik, heq, s2, s3, s6, hm⟩ => ?_
  subst hm
  simp only at hik heq
  by_cases hi : i < a4.length
  · have hg : a4[i]? = some a4[i] := List.getElem?_eq_getElem hi
    have hic : i < c4.length := by omega
    have hg' : c4[i]? = some c4[i] := List.getElem?_eq_getElem hic
    have w1 := IntWalk.i64_in ((i : Int) + 1) (by omega)
    have hpl := ha3 a4[i] (List.getElem_mem hi)
    have b2 : a4[i].map.length ≤ 1099511627776 := by omega
    have t1 : a4.take (i + 1) = a4.take i ++ [a4[i]] := by rw [List.take_add_one, hg]; rfl
    have t2 : c4.take (i + 1) = c4.take i ++ [c4[i]] := by rw [List.take_add_one, hg']; rfl
    by_cases hx : a4[i] = c4[i]
    · simp [F_r11_Same_L0, D30, s2, s3, s6, hi, hic, hg, hg', w1, b2, ← hx, ← h4]
      refine ⟨k - 1, by omega, IW.of (show SameI _ _ _ _ _ from ⟨i + 1, _, _, by simp; omega, by simp only; rw [t1, t2, heq, hx], by simpa using s2, by simpa using s3, by simp, rfl⟩)⟩
    · have e : ¬ a4 = c4 := by
        rintro rfl
        exact hx rfl
      simp [F_r11_Same_L0, D30, s2, s3, s6, hi, hic, hg, hg', w1, b2, hx, ← h4, e]
  · have e : a4 = c4 := by
      rw [List.take_of_length_le (by omega), List.take_of_length_le (by omega)] at heq
      exact heq
    subst e
    simp [F_r11_Same_L0, D30, s2, s3, s6, hi]
end Go.Av
