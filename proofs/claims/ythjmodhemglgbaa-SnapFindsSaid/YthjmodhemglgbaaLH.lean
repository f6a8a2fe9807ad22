/-
  ToR: Contracts of the reference of chapter 12: counted, Write, take.
  SnPb: Numbers and compact codes of functions.
  ToS: Contracts of the reference of chapter 12: Read.
  ToT: Contracts of the reference of chapter 12: Records, at, whole, Found.
  ToU: The laws: what the document says of snapshots.
  ToX: What the rows hand in: records as they are found.
-/
import Derived.Test.YthjmodhemglgbaaLG
import Derived.Test.YthjmodhemglgbaaRows
set_option linter.unusedSimpArgs false
set_option linter.unusedVariables false

namespace Go.Av
open Enc (enc dec)
open Cel (cs dc)
open Go.Proofs Pl

theorem sp_rPut_ok : EOk Try.prog n_r01_Put (sp3 sp_Put) := sp3_ok fun b v w r h => by
  simp only [sp_Put] at h
  split at h <;> cases h
  exact c_r01_Put b v w (by assumption)
theorem sp_rTake_ok : EOk Try.prog n_r01_Take (sp2 sp_Take) := sp2_ok fun b w r h => by
  simp only [sp_Take] at h
  split at h <;> cases h
  exact c_r01_Take b w (by assumption)
def D48 : Orc := (Orc.nil.add n_r07_Write (sp1 sp_write)).add n_r01_Put (sp3 sp_Put)
theorem D48_ok : OOk Try.prog D48 := (OOk.nil.add sp_rwrite_ok).add sp_rPut_ok
theorem c_r12_counted (l : List Xt) : Pure Try.prog n_r12_counted [enc l] (enc (cntB l)) [] := by
  refine Pure.ofC D48_ok hm F_r12_counted_ok (by simp [F_r12_counted]) (by simp [V.res, V.res1]) ?_
  have hwl := writeB_length l
  have w1 : IntKind.u64.wrap ((writeB l).length : Int) = (writeB l).length := IntWalk.u64_in _ (by omega)
  have hbp : (bytesPut [] (writeB l).length 2).length ≤ 2 := by
    unfold bytesPut
    split <;> simp [leB_length]
  simp [F_r12_counted, D48, w1, cntB]
  omega
@[simp] def sp_rcounted (l : List Xt) : Option (V × List Tip) := some (enc (cntB l), [])
theorem sp_rcounted_ok : EOk Try.prog n_r12_counted (sp1 sp_rcounted) := sp1_ok fun l r h => by cases h; exact c_r12_counted l
@[simp] def sp_rCheck (q : Sta) : Option (V × List Tip) := if q.map.length ≤ 2 ^ 30 ∧ q.pts.length ≤ 2 ^ 30 ∧ (∀ p ∈ q.pts, p.map.length ≤ 2 ^ 30) ∧ q.staged.length ≤ 2 ^ 30 then some (enc (staE q), []) else none
theorem sp_rCheck_ok : EOk Try.prog n_r11_Check (sp1 sp_rCheck) := sp1_ok fun q r h => by
  simp only [sp_rCheck] at h
  split at h <;> cases h
  exact c_r11_Check q (by assumption)
theorem sp_rSeal_ok : EOk Try.prog n_r02_Seal (sp1 sp_Seal) := sp1_ok fun l r h => by
  simp only [sp_Seal] at h
  split at h <;> cases h
  exact c_r02_Seal l (by assumption)
def D49 : Orc := (((Orc.nil.add n_r11_Check (sp1 sp_rCheck)).add n_r01_Pack (sp2 sp_pack)).add n_r02_Seal (sp1 sp_Seal)).add n_r12_counted (sp1 sp_rcounted)
theorem D49_ok : OOk Try.prog D49 := (((OOk.nil.add sp_rCheck_ok).add sp_rpack_ok).add sp_rSeal_ok).add sp_rcounted_ok
def RWriteI (q : Sta) (k : Nat) (s : Nat → V) (m : Mem) : Prop :=
  ∃ (i t o : Nat) (acc : List UInt8), i + k = q.pts.length ∧ s 1 = .ptr o 0 ∧ s 6 = .val (.int .i64 i) ∧ s 4 = .row t 1 (acc.map cs) ∧ m.boxes[o]? = some (cs q) ∧
    acc = ((headB q ++ q.staged) ++ mapB q.map) ++ (q.pts.take i).flatMap ptB ∧ acc.length ≤ 10000 + 2520 * i ∧ m.tips[t]? = some (5, 1, acc.length)
set_option maxRecDepth 4000 in
theorem c_r12_Write (q : Sta) (hq : staLen q) : Pure Try.prog n_r12_Write [enc q] (.tuple [.row 0 1 ((snapB q).map cs), enc (staE q)]) [(5, 1, (snapB q).length)] := by
  have hq' := hq
  unfold staLen at hq'
  have q1 : q.map.length ≤ 1073741824 := hq'.1
  have q2 : q.pts.length ≤ 1073741824 := hq'.2.1
  have q3 : ∀ p ∈ q.pts, p.map.length ≤ 1073741824 := hq'.2.2.1
  have q4 : q.staged.length ≤ 1073741824 := hq'.2.2.2
  refine Pure.ofR D49_ok hm F_r12_Write_ok (by simp [F_r12_Write]) (by simp [V.res, V.res1]) ?_
  cases hok : staOk q with
  | false =>
    have e : staE q = 110 := by simp [staE, hok]
    have e2 : snapB q = [] := by simp [snapB, hok]
    simp [F_r12_Write, D49, q1, q2, eq_true q3, q4, e, e2]
  | true =>
    have e : staE q = 0 := by simp [staE, hok]
    obtain ⟨f1, f2, f3, f4, f5, f6, f7, f8⟩ := staOk_fine hok
    have hb := mapOk_le f1
    have v1 : IntKind.u64.wrap q.blocks = q.blocks := IntWalk.u64_in _ (by omega)
    have v2 : IntKind.u64.wrap q.gen = q.gen := IntWalk.u64_in _ (by omega)
    have v3 : IntKind.u64.wrap q.last = q.last := IntWalk.u64_in _ (by omega)
    have v4 : IntKind.u64.wrap (q.pts.length : Int) = q.pts.length := IntWalk.u64_in _ (by omega)
    have v5 : IntKind.u64.wrap (q.staged.length : Int) = q.staged.length := IntWalk.u64_in _ (by omega)
    have hp : packS [98, 119, 119, 98, 104] [q.blocks.toNat, q.gen.toNat, q.last.toNat, q.pts.length, q.staged.length] = some (headB q) := by
      have m1 : mayB q.blocks.toNat 1 = true := by simp [mayB]; omega
      have m2 : mayB q.gen.toNat 4 = true := by simp [mayB]; omega
      have m3 : mayB q.last.toNat 4 = true := by simp [mayB]; omega
      have m4 : mayB q.pts.length 1 = true := by simp [mayB]; omega
      have m5 : mayB q.staged.length 2 = true := by simp [mayB]; omega
      simp [packS, sizeL, m1, m2, m3, m4, m5, headB]
    have hp1 : packB [98, 119, 119, 98, 104] [q.blocks.toNat, q.gen.toNat, q.last.toNat, q.pts.length, q.staged.length] = headB q := by simp [packB, hp]
    have hp2 : packE [98, 119, 119, 98, 104] [q.blocks.toNat, q.gen.toNat, q.last.toNat, q.pts.length, q.staged.length] = 0 := by simp [packE, hp]
    have hhl : (headB q).length = 12 := by simp [headB, leB_length]
    obtain ⟨c1, c2⟩ := cnt_ok f1
    have c3 := mapB_length f1
    have f2' : (0 : Int) ≤ q.gen := by omega
    have fb' : (0 : Int) ≤ q.blocks := by omega
    simp [F_r12_Write, D49, q1, q2, eq_true q3, q4, e, v1, v2, v3, v4, v5, f_bwwbh, hp1, hp2, hhl, decX_map, c1, f2', fb', f5]
    refine ⟨by omega, by omega, ?_⟩
    refine wp_loop (RWriteI q) q.pts.length (IW.of ⟨0, 2, 0, (headB q ++ q.staged) ++ mapB q.map, by omega, by simp, by simp, by simp, by simp, by simp, by simp [hhl]; omega, by simp [hhl, Nat.add_assoc]⟩) fun k s m ⟨i, t, o, acc, hik, h1, h6, h4, ho, hacc, hal, ht⟩ => ?_
    simp only [cs_sta] at ho
    have htl : t < m.tips.length := lt_of_some ht
    by_cases hi : i < q.pts.length
    · have hg : q.pts[i]? = some q.pts[i] := List.getElem?_eq_getElem hi
      have w1 := IntWalk.i64_in ((i : Int) + 1) (by omega)
      have ht1 : q.pts.take (i + 1) = q.pts.take i ++ [q.pts[i]] := by rw [List.take_add_one, hg]; rfl
      obtain ⟨p, hpe⟩ : ∃ p, p = q.pts[i] := ⟨_, rfl⟩
      obtain ⟨g1, g2, g3, g4, g5⟩ := f8 q.pts[i] (List.getElem_mem hi)
      rw [← hpe] at ht1 g1 g2 g3 g4 g5
      have u1 : IntKind.u64.wrap p.id = p.id := IntWalk.u64_in _ (by omega)
      have u2 : IntKind.u64.wrap p.gen = p.gen := IntWalk.u64_in _ (by omega)
      have hpp : packS [119, 119] [p.id.toNat, p.gen.toNat] = some (leB p.id.toNat 4 ++ leB p.gen.toNat 4) := by
        have m1 : mayB p.id.toNat 4 = true := by simp [mayB]; omega
        have m2 : mayB p.gen.toNat 4 = true := by simp [mayB]; omega
        simp [packS, sizeL, m1, m2]
      have hpp1 : packB [119, 119] [p.id.toNat, p.gen.toNat] = leB p.id.toNat 4 ++ leB p.gen.toNat 4 := by simp [packB, hpp]
      have hpp2 : packE [119, 119] [p.id.toNat, p.gen.toNat] = 0 := by simp [packE, hpp]
      obtain ⟨d1, d2⟩ := cnt_ok g1
      have d3 := mapB_length g1
      have g2' : (0 : Int) ≤ p.id := by omega
      have g4' : (0 : Int) ≤ p.gen := by omega
      simp [F_r12_Write_L0, D49, h1, h4, h6, hi, hg, ho, ← hpe, w1, u1, u2, f_ww, hpp1, hpp2, decX_map, d1, g2', g4', leB_length, List.getElem?_append_left htl, ht]
      refine ⟨by omega, ⟨List.getElem?_set_self (by simp; omega), by omega⟩, k - 1, by omega, IW.of (show RWriteI q _ _ _ from ⟨i + 1, t, o, acc ++ ptB p, by omega, by simpa using h1, by simp, by simp [ptB], by simpa using ho, ?_, ?_, ?_⟩)⟩
      · rw [hacc, ht1, List.flatMap_append]; simp
      · simp [ptB, leB_length]; omega
      · show (List.set _ _ _)[t]? = _
        rw [List.getElem?_set_self (by simp; omega)]
        simp [ptB, leB_length, Nat.add_assoc]
    · have hil : i = q.pts.length := by omega
      rw [hil, List.take_length] at hacc
      have e2 : snapB q = sealS acc := by simp [snapB, hok, bodyS, hacc]
      have hal2 : acc.length ≤ 1099511627776 := by omega
      simp [F_r12_Write_L0, F_r12_Write, D49, h1, h4, h6, hi, ho, decX_map, e2, hal2]
/-- A map that bytes begin with; what is behind it; is it one? -/
def takeF (b : List UInt8) : List Xt × List UInt8 × Bool :=
  if takeE b 2 ≠ 0 ∨ (takeR b 2).length < takeV b 2 then ([], [], false)
  else (readL ((takeR b 2).take (takeV b 2)), (takeR b 2).drop (takeV b 2), decide (readE ((takeR b 2).take (takeV b 2)) = 0))
theorem sp_rread_ok : EOk Try.prog n_r07_Read (sp1 sp_xread) := sp1_ok fun b r h => by
  simp only [sp_xread] at h
  split at h <;> cases h
  exact c_r07_Read b (by assumption)
def D50 : Orc := (Orc.nil.add n_r01_Take (sp2 sp_Take)).add n_r07_Read (sp1 sp_xread)
theorem D50_ok : OOk Try.prog D50 := (OOk.nil.add sp_rTake_ok).add sp_rread_ok
theorem takeV_lt (b : List UInt8) : takeV b 2 < 65536 := by
  unfold takeV
  split
  · exact leN_lt' b 2
  · decide
theorem takeR_length (b : List UInt8) : (takeR b 2).length ≤ b.length := by
  unfold takeR
  split
  · simp
  · simp
theorem c_r12_take (b : List UInt8) (hb : b.length ≤ 2 ^ 40) : Pure Try.prog n_r12_take [enc b] (.tuple [enc (takeF b).1, enc (takeF b).2.1, enc (takeF b).2.2]) [] := by
  refine Pure.ofC D50_ok hm F_r12_take_ok (by simp [F_r12_take]) (by simp [V.res, V.res1]) ?_
  have b1 : b.length ≤ 1099511627776 := by omega
  have hv := takeV_lt b
  have hr := takeR_length b
  have w1 := IntWalk.i64_in (takeV b 2 : Int) (by omega)
  have b2 : (takeR b 2).length ≤ 1099511627776 := by omega
  by_cases h1 : takeE b 2 = 0
  · by_cases h2 : (takeR b 2).length < takeV b 2
    · simp [F_r12_take, D50, b1, h1, h2, w1, takeF]
    · have h3 : takeV b 2 ≤ (takeR b 2).length := by omega
      have h4 : min (takeV b 2) (takeR b 2).length ≤ 1099511627776 := by omega
      simp [F_r12_take, D50, b1, b2, h1, h2, h3, h4, w1, takeF]
      omega
  · simp [F_r12_take, D50, b1, h1, takeF]
theorem takeF_fwd {n : Int} {M : List Xt} (h : mapOk n M = true) (r : List UInt8) : takeF (mapB M ++ r) = (M, r, true) := by
  obtain ⟨h1, h2, h3, h4⟩ := mapOk_wr h
  rw [h3] at h2
  have e : mapB M ++ r = leB (wrB M).length 2 ++ (wrB M ++ r) := by simp [mapB]
  have hok : okT (mapB M ++ r) 2 = true := by
    rw [e]
    simp [okT, mayB, leB_length]
    omega
  have hV : takeV (mapB M ++ r) 2 = (wrB M).length := by
    rw [takeV, if_pos hok, e]
    have : (2 : Int).toNat = 2 := rfl
    rw [this, List.take_left' (leB_length _ _), leN_leB_lt (by omega)]
  have hR : takeR (mapB M ++ r) 2 = wrB M ++ r := by
    rw [takeR, if_pos hok, e]
    have : (2 : Int).toNat = 2 := rfl
    rw [this, List.drop_left' (leB_length _ _)]
  have hE : takeE (mapB M ++ r) 2 = 0 := by rw [takeE, if_pos hok]
  have hX := readX_some.2 ⟨h1, rfl⟩
  rw [takeF, hV, hR, hE, if_neg (by simp)]
  simp [readL, readE, hX]
end Go.Av

namespace Go.Av
open Go.Proofs

@[simp] abbrev n_r12z_Read : FuncId := 29
def F_r12z_Read_L0 : C := (.seq (.seq (.ops [⟨(some 76), none, (.mov (.t 10))⟩, ⟨(some 77), none, (.mov (.t 76))⟩, ⟨(some 78), (some (77, true)), (.mov (.t 11))⟩, ⟨(some 79), (some (77, true)), (.mov (.t 4))⟩, ⟨(some 80), (some (77, true)), (.ixs (.t 79) (.c (.int .i64 3)) 1)⟩, ⟨(some 81), (some (77, true)), (.lde (.t 80) none)⟩, ⟨(some 82), (some (77, true)), (.conv .i64 (.t 81))⟩, ⟨(some 83), (some (77, true)), (.bin .lss (.t 78) (.t 82))⟩, ⟨(some 84), none, (.pick (.t 77) (.t 83) (.c (.bool false)))⟩]) (.cond (.t 84) .skip (.exit 0))) (.seq (.block 1 (.seq (.seq (.ops [⟨(some 87), none, (.mov (.t 9))⟩, ⟨(some 88), none, (.len (.t 87))⟩, ⟨(some 89), none, (.bin .lss (.t 88) (.c (.int .i64 8)))⟩]) (.cond (.t 89) (.seq (.ops [⟨(some 90), none, (.bld [(.val (.int .i64 0)), (.val (.int .i64 0)), (.lit 5 []), (.lit 3 []), (.val (.int .i64 0)), (.lit 1 [])] [])⟩, ⟨none, none, (.st (.t 2) 6 (.t 90))⟩, ⟨(some 3), none, (.mov (.c (.int .i64 120)))⟩]) .ret) .skip)) (.seq (.ops [⟨(some 92), none, (.mov (.t 9))⟩, ⟨(some 93), none, (.slc (.t 92) none (some (.c (.int .i64 8))) none 1)⟩, ⟨(some 94), none, (.call 85 [(.c (.string ⟨#[119, 119]⟩)), (.t 93)])⟩, ⟨(some 91), none, (.mov (.t 94))⟩, ⟨(some 95), none, (.ext (.t 91) 0)⟩, ⟨(some 96), none, (.ext (.t 91) 1)⟩, ⟨(some 12), none, (.mov (.t 95))⟩, ⟨(some 13), none, (.mov (.t 96))⟩]) (.seq (.ops [⟨(some 98), none, (.mov (.t 9))⟩, ⟨(some 99), none, (.slc (.t 98) (some (.c (.int .i64 8))) none none 1)⟩, ⟨(some 100), none, (.call 86 [(.t 99)])⟩, ⟨(some 97), none, (.mov (.t 100))⟩, ⟨(some 101), none, (.ext (.t 97) 0)⟩, ⟨(some 102), none, (.ext (.t 97) 1)⟩, ⟨(some 103), none, (.ext (.t 97) 2)⟩, ⟨(some 14), none, (.mov (.t 101))⟩, ⟨(some 15), none, (.mov (.t 102))⟩, ⟨(some 16), none, (.mov (.t 103))⟩]) (.seq (.dops false [] [⟨(some 104), none, (.fad (.t 6) 3)⟩, ⟨(some 105), none, (.ld (.t 104) none)⟩, ⟨(some 106), none, (.mov (.t 12))⟩, ⟨(some 107), none, (.ixs (.t 106) (.c (.int .i64 0)) 1)⟩, ⟨(some 108), none, (.lde (.t 107) none)⟩, ⟨(some 109), none, (.conv .i64 (.t 108))⟩, ⟨(some 110), none, (.mov (.t 12))⟩, ⟨(some 111), none, (.ixs (.t 110) (.c (.int .i64 1)) 1)⟩, ⟨(some 112), none, (.lde (.t 111) none)⟩, ⟨(some 113), none, (.conv .i64 (.t 112))⟩, ⟨(some 114), none, (.mov (.t 14))⟩, ⟨(some 115), none, (.bld [(.val (.int .i64 0)), (.val (.int .i64 0)), (.lit 5 [])] [(0, (1, (.t 109))), (1, (1, (.t 113))), (2, (1, (.t 114)))])⟩, ⟨(some 116), none, (.mkl 110 3 [(.t 115)] false)⟩, ⟨(some 117), none, (.app (.t 105) (.t 116) 110 3 40 true)⟩, ⟨(some 118), none, (.fad (.t 6) 3)⟩, ⟨none, none, (.st (.t 118) 1 (.t 117))⟩]) (.seq (.ops [⟨(some 119), none, (.mov (.t 15))⟩, ⟨(some 9), none, (.mov (.t 119))⟩]) (.ops [⟨(some 120), none, (.mov (.t 16))⟩, ⟨(some 10), none, (.mov (.t 120))⟩]))))))) (.ops [⟨(some 85), none, (.mov (.t 11))⟩, ⟨(some 86), none, (.bin .add (.t 85) (.c (.int .i64 1)))⟩, ⟨(some 11), none, (.mov (.t 86))⟩])))
def F_r12z_Read : F := ⟨(.seq (.ops [⟨(some 2), none, (.alc [(.val (.int .i64 0)), (.val (.int .i64 0)), (.lit 5 []), (.lit 3 []), (.val (.int .i64 0)), (.lit 1 [])])⟩, ⟨(some 3), none, (.mov (.c (.int .i64 0)))⟩]) (.seq (.seq (.ops [⟨(some 19), none, (.mov (.t 0))⟩, ⟨(some 20), none, (.len (.t 19))⟩, ⟨(some 21), none, (.bin .lss (.t 20) (.c (.int .i64 16)))⟩]) (.cond (.t 21) (.seq (.ops [⟨(some 22), none, (.bld [(.val (.int .i64 0)), (.val (.int .i64 0)), (.lit 5 []), (.lit 3 []), (.val (.int .i64 0)), (.lit 1 [])] [])⟩, ⟨none, none, (.st (.t 2) 6 (.t 22))⟩, ⟨(some 3), none, (.mov (.c (.int .i64 120)))⟩]) .ret) .skip)) (.seq (.ops [⟨(some 24), none, (.mov (.t 0))⟩, ⟨(some 25), none, (.slc (.t 24) none (some (.c (.int .i64 12))) none 1)⟩, ⟨(some 26), none, (.call 85 [(.c (.string ⟨#[98, 119, 119, 98, 104]⟩)), (.t 25)])⟩, ⟨(some 23), none, (.mov (.t 26))⟩, ⟨(some 27), none, (.ext (.t 23) 0)⟩, ⟨(some 28), none, (.ext (.t 23) 1)⟩, ⟨(some 4), none, (.mov (.t 27))⟩, ⟨(some 5), none, (.mov (.t 28))⟩]) (.seq (.dops false [] [⟨(some 29), none, (.mov (.t 4))⟩, ⟨(some 30), none, (.ixs (.t 29) (.c (.int .i64 0)) 1)⟩, ⟨(some 31), none, (.lde (.t 30) none)⟩, ⟨(some 32), none, (.conv .i64 (.t 31))⟩, ⟨(some 33), none, (.mov (.t 4))⟩, ⟨(some 34), none, (.ixs (.t 33) (.c (.int .i64 1)) 1)⟩, ⟨(some 35), none, (.lde (.t 34) none)⟩, ⟨(some 36), none, (.conv .i64 (.t 35))⟩, ⟨(some 37), none, (.mov (.t 4))⟩, ⟨(some 38), none, (.ixs (.t 37) (.c (.int .i64 2)) 1)⟩, ⟨(some 39), none, (.lde (.t 38) none)⟩, ⟨(some 40), none, (.conv .i64 (.t 39))⟩, ⟨(some 41), none, (.bld [(.val (.int .i64 0)), (.val (.int .i64 0)), (.val (.slice none 0 0)), (.val (.slice none 0 0)), (.val (.int .i64 0)), (.val (.slice none 0 0))] [(0, (1, (.t 32))), (1, (1, (.t 36))), (4, (1, (.t 40)))])⟩, ⟨(some 6), none, (.alc [(.val (.int .i64 0)), (.val (.int .i64 0)), (.val (.slice none 0 0)), (.val (.slice none 0 0)), (.val (.int .i64 0)), (.val (.slice none 0 0))])⟩, ⟨none, none, (.st (.t 6) 6 (.t 41))⟩]) (.seq (.ops [⟨(some 42), none, (.mov (.t 0))⟩, ⟨(some 43), none, (.mov (.t 0))⟩, ⟨(some 44), none, (.len (.t 43))⟩, ⟨(some 45), none, (.bin .sub (.t 44) (.c (.int .i64 4)))⟩, ⟨(some 46), none, (.slc (.t 42) (some (.c (.int .i64 12))) (some (.t 45)) none 1)⟩, ⟨(some 7), none, (.mov (.t 46))⟩]) (.seq (.seq (.ops [⟨(some 47), none, (.mov (.t 7))⟩, ⟨(some 48), none, (.len (.t 47))⟩, ⟨(some 49), none, (.mov (.t 4))⟩, ⟨(some 50), none, (.ixs (.t 49) (.c (.int .i64 4)) 1)⟩, ⟨(some 51), none, (.lde (.t 50) none)⟩, ⟨(some 52), none, (.conv .i64 (.t 51))⟩, ⟨(some 53), none, (.bin .lss (.t 48) (.t 52))⟩]) (.cond (.t 53) (.seq (.ops [⟨(some 54), none, (.bld [(.val (.int .i64 0)), (.val (.int .i64 0)), (.lit 5 []), (.lit 3 []), (.val (.int .i64 0)), (.lit 1 [])] [])⟩, ⟨none, none, (.st (.t 2) 6 (.t 54))⟩, ⟨(some 3), none, (.mov (.c (.int .i64 120)))⟩]) .ret) .skip)) (.seq (.dops false [] [⟨(some 55), none, (.fad (.t 6) 5)⟩, ⟨(some 56), none, (.ld (.t 55) none)⟩, ⟨(some 57), none, (.mov (.t 7))⟩, ⟨(some 58), none, (.mov (.t 4))⟩, ⟨(some 59), none, (.ixs (.t 58) (.c (.int .i64 4)) 1)⟩, ⟨(some 60), none, (.lde (.t 59) none)⟩, ⟨(some 61), none, (.slc (.t 57) none (some (.t 60)) none 1)⟩, ⟨(some 62), none, (.app (.t 56) (.t 61) 5 1 1 true)⟩, ⟨(some 63), none, (.fad (.t 6) 5)⟩, ⟨none, none, (.st (.t 63) 1 (.t 62))⟩]) (.seq (.ops [⟨(some 65), none, (.mov (.t 7))⟩, ⟨(some 66), none, (.mov (.t 4))⟩, ⟨(some 67), none, (.ixs (.t 66) (.c (.int .i64 4)) 1)⟩, ⟨(some 68), none, (.lde (.t 67) none)⟩, ⟨(some 69), none, (.slc (.t 65) (some (.t 68)) none none 1)⟩, ⟨(some 70), none, (.call 86 [(.t 69)])⟩, ⟨(some 64), none, (.mov (.t 70))⟩, ⟨(some 71), none, (.ext (.t 64) 0)⟩, ⟨(some 72), none, (.ext (.t 64) 1)⟩, ⟨(some 73), none, (.ext (.t 64) 2)⟩, ⟨(some 8), none, (.mov (.t 71))⟩, ⟨(some 9), none, (.mov (.t 72))⟩, ⟨(some 10), none, (.mov (.t 73))⟩]) (.seq (.ops [⟨(some 74), none, (.mov (.t 8))⟩, ⟨(some 75), none, (.fad (.t 6) 2)⟩, ⟨none, none, (.st (.t 75) 1 (.t 74))⟩]) (.seq (.seq (.ops [⟨(some 11), none, (.mov (.c (.int .i64 0)))⟩]) (.block 0 (.loop F_r12z_Read_L0))) (.seq (.ops [⟨(some 122), none, (.ld (.t 6) (some 6))⟩, ⟨(some 123), none, (.call 25 [(.t 122)])⟩, ⟨(some 121), none, (.mov (.t 123))⟩, ⟨(some 124), none, (.ext (.t 121) 0)⟩, ⟨(some 125), none, (.ext (.t 121) 1)⟩, ⟨(some 17), none, (.mov (.t 124))⟩, ⟨(some 18), none, (.mov (.t 125))⟩]) (.seq (.seq (.ops [⟨(some 126), none, (.mov (.t 10))⟩, ⟨(some 127), none, (.un .not (.t 126))⟩, ⟨(some 128), none, (.mov (.t 127))⟩, ⟨(some 129), (some (128, false)), (.mov (.t 18))⟩, ⟨(some 130), (some (128, false)), (.bin .neq (.t 129) (.c (.int .i64 0)))⟩, ⟨(some 131), none, (.pick (.t 128) (.c (.bool true)) (.t 130))⟩, ⟨(some 132), none, (.mov (.t 131))⟩, ⟨(some 133), (some (132, false)), (.mov (.t 17))⟩, ⟨(some 134), (some (132, false)), (.b2s (.t 133))⟩, ⟨(some 135), (some (132, false)), (.mov (.t 0))⟩, ⟨(some 136), (some (132, false)), (.b2s (.t 135))⟩, ⟨(some 137), (some (132, false)), (.bin .neq (.t 134) (.t 136))⟩, ⟨(some 138), none, (.pick (.t 132) (.c (.bool true)) (.t 137))⟩]) (.cond (.t 138) (.seq (.ops [⟨(some 139), none, (.bld [(.val (.int .i64 0)), (.val (.int .i64 0)), (.lit 5 []), (.lit 3 []), (.val (.int .i64 0)), (.lit 1 [])] [])⟩, ⟨none, none, (.st (.t 2) 6 (.t 139))⟩, ⟨(some 3), none, (.mov (.c (.int .i64 120)))⟩]) .ret) .skip)) (.seq (.ops [⟨(some 140), none, (.ld (.t 6) (some 6))⟩, ⟨none, none, (.st (.t 2) 6 (.t 140))⟩, ⟨(some 3), none, (.mov (.c (.int .i64 0)))⟩]) .ret))))))))))))), 141, [(.cell 2 (some 6)), (.tmp 3)]⟩
theorem F_r12z_Read_ok : compF Try.prog (fun d => !([116, 2097158, 2097193].contains d)) 29 = some F_r12z_Read := by kernel_rfl
end Go.Av

namespace Go.Av
open Enc (enc dec)
open Cel (cs dc)
open Go.Proofs Pl

theorem snapB_split {q : Sta} (h : staOk q = true) : snapB q = headB q ++ (q.staged ++ (mapB q.map ++ q.pts.flatMap ptB)) ++ leB (crcN 0 (bodyS q)) 4 := by
  rw [snapB, if_pos h, sealS, bodyS]
  simp only [List.append_assoc]
theorem headB_length (q : Sta) : (headB q).length = 12 := by simp [headB, leB_length]
theorem readS_long {b : List UInt8} {q : Sta} (h : readS b = some q) : 16 ≤ b.length := by
  obtain ⟨h1, rfl⟩ := readS_some.1 h
  rw [snapB_split h1]
  simp [headB_length, leB_length]
  omega
theorem unpack_head {q : Sta} (h : staOk q = true) : unpackN [98, 119, 119, 98, 104] (headB q) = [q.blocks.toNat, q.gen.toNat, q.last.toNat, q.pts.length, q.staged.length] := by
  obtain ⟨f1, f2, f3, f4, f5, f6, f7, f8⟩ := staOk_fine h
  have hb := mapOk_le f1
  obtain ⟨v1, v2, v3, v4, v5⟩ := five (leB_length q.blocks.toNat 1) (leB_length q.gen.toNat 4) (leB_length q.last.toNat 4) (leB_length q.pts.length 1) (leB_length q.staged.length 2)
  rw [unpack_bwwbh (headB_length q), headB, v1, v2, v3, v4, v5, leN_leB_lt (by omega), leN_leB_lt (by omega), leN_leB_lt (by omega), leN_leB_lt (by omega), leN_leB_lt (by omega)]
theorem read_head {b : List UInt8} {q : Sta} (h : readS b = some q) : unpackN [98, 119, 119, 98, 104] (b.take 12) = [q.blocks.toNat, q.gen.toNat, q.last.toNat, q.pts.length, q.staged.length] ∧
    (b.take (b.length - 4)).drop 12 = q.staged ++ (mapB q.map ++ q.pts.flatMap ptB) := by
  obtain ⟨h1, rfl⟩ := readS_some.1 h
  have e := snapB_split h1
  have e1 : (snapB q).take 12 = headB q := by rw [e, List.append_assoc, List.take_left' (headB_length q)]
  have e2 : (snapB q).length - 4 = (headB q ++ (q.staged ++ (mapB q.map ++ q.pts.flatMap ptB))).length := by
    rw [e, List.length_append, leB_length]; omega
  refine ⟨by rw [e1]; exact unpack_head h1, ?_⟩
  rw [e2, e, List.take_left' rfl, List.drop_left' (headB_length q)]
@[simp] def sp_rWrite (q : Sta) : Option (V × List Tip) := if q.map.length ≤ 2 ^ 30 ∧ q.pts.length ≤ 2 ^ 30 ∧ (∀ p ∈ q.pts, p.map.length ≤ 2 ^ 30) ∧ q.staged.length ≤ 2 ^ 30 then some (.tuple [.row 0 1 ((snapB q).map cs), enc (staE q)], [(5, 1, (snapB q).length)]) else none
theorem sp_rWrite_ok : EOk Try.prog n_r12_Write (sp1 sp_rWrite) := sp1_ok fun q r h => by
  simp only [sp_rWrite] at h
  split at h <;> cases h
  exact c_r12_Write q (by assumption)
@[simp] def sp_rtake (b : List UInt8) : Option (V × List Tip) := if b.length ≤ 2 ^ 40 then some (.tuple [enc (takeF b).1, enc (takeF b).2.1, enc (takeF b).2.2], []) else none
theorem sp_rtake_ok : EOk Try.prog n_r12_take (sp1 sp_rtake) := sp1_ok fun b r h => by
  simp only [sp_rtake] at h
  split at h <;> cases h
  exact c_r12_take b (by assumption)
def D51 : Orc := ((Orc.nil.add n_r01_Unpack (sp2 sp_unpack)).add n_r12_take (sp1 sp_rtake)).add n_r12_Write (sp1 sp_rWrite)
theorem D51_ok : OOk Try.prog D51 := ((OOk.nil.add sp_runpack_ok).add sp_rtake_ok).add sp_rWrite_ok
theorem takeF_lens (b : List UInt8) : (takeF b).1.length ≤ 64 ∧ (takeF b).2.1.length ≤ b.length := by
  unfold takeF
  split
  · simp
  · refine ⟨readL_length _, ?_⟩
    have := takeR_length b
    simp only [List.length_drop]
    omega
theorem num_five {b : List UInt8} (h : b.length = 12) : ∃ n0 n1 n2 n3 n4, unpackN [98, 119, 119, 98, 104] b = [n0, n1, n2, n3, n4] ∧ n0 < 256 ∧ n1 < 2 ^ 32 ∧ n2 < 2 ^ 32 ∧ n3 < 256 ∧ n4 < 65536 := by
  rw [unpack_bwwbh h]
  exact ⟨_, _, _, _, _, rfl, leN_lt' _ 1, leN_lt' _ 4, leN_lt' _ 4, leN_lt' _ 1, leN_lt' _ 2⟩
theorem num_two {b : List UInt8} (h : b.length = 8) : ∃ n0 n1, unpackN [119, 119] b = [n0, n1] ∧ n0 < 2 ^ 32 ∧ n1 < 2 ^ 32 := by
  rw [unpack_ww h]
  exact ⟨_, _, rfl, leN_lt' _ 4, leN_lt' _ 4⟩
/-- What is known where the bytes are a state's. -/
def fwdR (b : List UInt8) (n0 n1 n2 n3 : Nat) (M : List Xt) (sg : List UInt8) (i : Nat) (ok : Bool) (behind : List UInt8) (acc : List Pt) : Prop :=
  ∀ q, readS b = some q → n3 = q.pts.length ∧ (⟨n0, n1, M, q.pts, n2, sg⟩ : Sta) = q ∧ ok = true ∧ behind = (q.pts.drop i).flatMap ptB ∧ acc = q.pts.take i
def RReadI (b : List UInt8) (n0 n1 n2 n3 n4 : Nat) (M : List Xt) (sg : List UInt8) (k : Nat) (s : Nat → V) (m : Mem) : Prop :=
  ∃ (i t t4 : Nat) (sv : V) (ok : Bool) (behind : List UInt8) (acc : List Pt) (tips : List Tip), i + k = n3 ∧ s 0 = .lit 1 (b.map cs) ∧ s 2 = .ptr 0 0 ∧ s 6 = .ptr 1 0 ∧ s 4 = .row t4 1 [[.val (.int .u64 n0)], [.val (.int .u64 n1)], [.val (.int .u64 n2)], [.val (.int .u64 n3)], [.val (.int .u64 n4)]] ∧
    s 9 = .lit 1 (behind.map cs) ∧ s 10 = .val (.bool ok) ∧ s 11 = .val (.int .i64 i) ∧ (sv = .val (.slice none 0 0) ∧ sg = [] ∨ ∃ tx, sv = .row tx 1 (sg.map cs)) ∧ behind.length ≤ 2 ^ 40 ∧ acc.length = i ∧ (∀ p ∈ acc, p.map.length ≤ 64) ∧
    m = ⟨[[.val (.int .i64 0), .val (.int .i64 0), .lit 5 [], .lit 3 [], .val (.int .i64 0), .lit 1 []], [.val (.int .i64 n0), .val (.int .i64 n1), .lit 5 (M.map cs), .row t 3 (acc.map cs), .val (.int .i64 n2), sv]], tips⟩ ∧ tips[t]? = some (110, 3, acc.length) ∧
    fwdR b n0 n1 n2 n3 M sg i ok behind acc
set_option maxRecDepth 4000 in
theorem c_r12_Read (b : List UInt8) (hb : b.length ≤ 2 ^ 40) : Pure Try.prog n_r12z_Read [enc b] (.tuple [enc (rdQ b), enc (rdE b)]) [] := by
  refine Pure.ofC D51_ok hm F_r12z_Read_ok (by simp [F_r12z_Read]) (by simp [V.res, V.res1]) ?_
  have b1 : b.length ≤ 1099511627776 := by omega
  have none_q : readS b = none → rdQ b = Sta.zero ∧ rdE b = 120 := fun h => ⟨by simp [rdQ, h], by simp [rdE, h]⟩
  by_cases h16 : b.length < 16
  · have hn : readS b = none := by
      cases h : readS b with
      | none => rfl
      | some q => have := readS_long h; omega
    obtain ⟨e1, e2⟩ := none_q hn
    have h16' : (b.length : Int) < 16 := by omega
    simp [F_r12z_Read, D51, h16, h16', e1, e2, Sta.zero]
  have h16' : ¬ (b.length : Int) < 16 := by omega
  have l12 : (b.take 12).length = 12 := by simp; omega
  obtain ⟨n0, n1, n2, n3, n4, hN, hn0, hn1, hn2, hn3, hn4⟩ := num_five l12
  have v0 := IntWalk.i64_in (n0 : Int) (by omega)
  have v1 := IntWalk.i64_in (n1 : Int) (by omega)
  have v2 := IntWalk.i64_in (n2 : Int) (by omega)
  have v3 := IntWalk.i64_in (n3 : Int) (by omega)
  have v4 := IntWalk.i64_in (n4 : Int) (by omega)
  have v5 := IntWalk.i64_in ((b.length : Int) - 4) (by omega)
  have v6 : ((b.length : Int) - 4).toNat = b.length - 4 := by omega
  have v7 : (12 : Int) ≤ (b.length : Int) - 4 := by omega
  have v8 : (b.length : Int) - 4 ≤ b.length := by omega
  have v9 : (12 : Int) ≤ b.length := by omega
  have v10 : min 12 b.length ≤ 1099511627776 := by omega
  obtain ⟨rest, hrest⟩ : ∃ rest, rest = (b.take (b.length - 4)).drop 12 := ⟨_, rfl⟩
  have hrl : rest.length ≤ 1099511627776 := by rw [hrest]; simp; omega
  have hrm : List.drop 12 (List.take (b.length - 4) (b.map cs)) = rest.map cs := by rw [hrest, List.map_drop, List.map_take]
  have hfw : ∀ q, readS b = some q → n3 = q.pts.length ∧ n4 = q.staged.length ∧ (n0 : Int) = q.blocks ∧ (n1 : Int) = q.gen ∧ (n2 : Int) = q.last ∧ rest = q.staged ++ (mapB q.map ++ q.pts.flatMap ptB) := by
    intro q hq
    obtain ⟨g1, g2⟩ := read_head hq
    rw [hN] at g1
    simp only [List.cons.injEq, and_true] at g1
    obtain ⟨r1, r2, r3, r4, r5⟩ := g1
    obtain ⟨f1, f2, f3, f4, f5, f6, f7, f8⟩ := staOk_fine (readS_some.1 hq).1
    have := mapOk_le f1
    exact ⟨r4, r5, by omega, by omega, by omega, by rw [hrest]; exact g2⟩
  have hlen : b.length - 4 - 12 = rest.length := by rw [hrest]; simp
  have hlen3 : b.length ≤ 1099511627776 + (12 + n4) + 4 := by omega
  by_cases hsh : rest.length < n4
  · have hn : readS b = none := by
      cases h : readS b with
      | none => rfl
      | some q =>
        obtain ⟨r1, r2, r3, r4, r5, r6⟩ := hfw q h
        rw [r6, List.length_append] at hsh
        omega
    obtain ⟨e1, e2⟩ := none_q hn
    have hshn : ¬ n4 ≤ rest.length := by omega
    simp [F_r12z_Read, D51, h16, h16', f_bwwbh, hN, v0, v1, v2, v3, v4, v5, v6, v7, v8, v9, v10, hrm, hlen, hsh, hshn, e1, e2, Sta.zero]
  have hsh' : n4 ≤ rest.length := by omega
  have hdl : rest.length - n4 ≤ 1099511627776 := by omega
  obtain ⟨sg, hsg⟩ : ∃ sg, sg = rest.take n4 := ⟨_, rfl⟩
  have hsm : List.take n4 (rest.map cs) = sg.map cs := by rw [hsg, List.map_take]
  obtain ⟨dr, hdr⟩ : ∃ dr, dr = rest.drop n4 := ⟨_, rfl⟩
  have hdm : List.drop n4 (rest.map cs) = dr.map cs := by rw [hdr, List.map_drop]
  obtain ⟨T, hT⟩ : ∃ T, T = takeF dr := ⟨_, rfl⟩
  have hTl := takeF_lens dr
  rw [← hT] at hTl
  obtain ⟨M, bh, ok⟩ := T
  dsimp only at hTl
  have hdl2 : dr.length ≤ 1099511627776 := by rw [hdr]; simp; omega
  have hdr2 : List.drop (12 + n4) (List.take (b.length - 4) b) = dr := by rw [hdr, hrest, List.drop_drop]
  have hsl : sg.length = n4 := by rw [hsg]; simp; omega
  have hfw0 : fwdR b n0 n1 n2 n3 M sg 0 ok bh [] := by
    intro q hq
    obtain ⟨r1, r2, r3, r4, r5, r6⟩ := hfw q hq
    have f1 := (staOk_fine (readS_some.1 hq).1).1
    have e1 : sg = q.staged := by rw [hsg, r6, r2, List.take_left' rfl]
    have e2 : rest.drop n4 = mapB q.map ++ q.pts.flatMap ptB := by rw [r6, r2, List.drop_left' rfl]
    rw [hdr, e2, takeF_fwd f1] at hT
    cases hT
    exact ⟨r1, by rw [e1, r3, r4, r5], rfl, rfl, rfl⟩
  by_cases hs0 : sg = []
  have hor : n4 = 0 ∨ b.length ≤ 16 := .inl (by rw [← hsl, hs0]; rfl)
  simp [F_r12z_Read, D51, h16, h16', f_bwwbh, hN, v0, v1, v2, v3, v4, v5, v6, v7, v8, v9, v10, hrm, hlen, hsh, hsh', hsm, hdm, hdr2, hlen3, hor, hs0, ← hT, hdl2, decX_map]
  have h40 : n4 = 0 := by rw [← hsl, hs0]; rfl
  refine ⟨wp_loop (RReadI b n0 n1 n2 n3 n4 M sg) n3 ?_ fun k s m hI => ?_, fun h1 => ?_⟩
  rotate_left 2
  · exfalso; omega
  rotate_left
  exact ⟨_, _, Wkn.boxRow 1 3 110 3 rfl rfl, ⟨0, 1, 0, .val (.slice none 0 0), ok, bh, [], _, by omega, by simp, by simp, by simp, by simp, by simp, by simp, by simp, (.inl ⟨rfl, hs0⟩), by omega, rfl, by simp, rfl, rfl, hfw0⟩⟩
  rotate_left
  have hne1 : ¬ n4 = 0 := fun e => hs0 (List.length_eq_zero_iff.1 (by rw [hsl, e]))
  have hne2 : ¬ b.length ≤ 16 := by omega
  simp [F_r12z_Read, D51, h16, h16', f_bwwbh, hN, v0, v1, v2, v3, v4, v5, v6, v7, v8, v9, v10, hrm, hlen, hsh, hsh', hsm, hdm, hdr2, hlen3, hne1, hne2, hs0, ← hT, hdl2, decX_map]
  intro _
  refine ⟨by omega, wp_loop (RReadI b n0 n1 n2 n3 n4 M sg) n3 ?_ fun k s m hI => ?_⟩
  exact ⟨_, _, Wkn.boxRow 1 3 110 3 rfl rfl, ⟨0, 2, 0, .row 1 1 (sg.map cs), ok, bh, [], _, by omega, by simp, by simp, by simp, by simp, by simp, by simp, by simp, (.inr ⟨1, rfl⟩), by omega, rfl, by simp, rfl, rfl, hfw0⟩⟩
  all_goals
    obtain ⟨i, t, t4, sv, ok, bh, acc, tips, hik, s0, s2, s6, s4, s9, s10, s11, hsv, hbl, hacc, hml, hm, ht, hfw⟩ := hI
    subst hm
    have hbl2 : bh.length ≤ 1099511627776 := by omega
    have y2 := IntWalk.i64_in ((i : Int) + 1) (by omega)
    by_cases hgo : i < n3 ∧ ok = true
    · obtain ⟨hi, rfl⟩ := hgo
      by_cases h8 : bh.length < 8
      · have hn : readS b = none := by
          cases h : readS b with
          | none => rfl
          | some q =>
            obtain ⟨r1, r2, r3, r4, r5⟩ := hfw q h
            rw [List.drop_eq_getElem_cons (by omega), List.flatMap_cons, ptB] at r4
            rw [r4] at h8
            simp [leB_length] at h8
            omega
        obtain ⟨e1, e2⟩ := none_q hn
        have h8' : (bh.length : Int) < 8 := by omega
        simp [F_r12z_Read_L0, D51, s0, s2, s4, s6, s9, s10, s11, v3, hi, h8, h8', e1, e2, Sta.zero]
      · have l8 : (bh.take 8).length = 8 := by simp; omega
        obtain ⟨p0, p1, hp, hp0, hp1⟩ := num_two l8
        have y0 := IntWalk.i64_in (p0 : Int) (by omega)
        have y1 := IntWalk.i64_in (p1 : Int) (by omega)
        have h8' : ¬ (bh.length : Int) < 8 := by omega
        have h8n : 8 ≤ bh.length := by omega
        have h8i : (8 : Int) ≤ bh.length := by omega
        have h8m : min 8 bh.length ≤ 1099511627776 := by omega
        have h8d : bh.length - 8 ≤ 1099511627776 := by omega
        have h8d2 : bh.length ≤ 1099511627776 + 8 := by omega
        obtain ⟨T, hT⟩ : ∃ T, T = takeF (bh.drop 8) := ⟨_, rfl⟩
        have hTl := takeF_lens (bh.drop 8)
        rw [← hT] at hTl
        obtain ⟨M1, bh1, ok1⟩ := T
        simp only [List.length_drop] at hTl
        have hfw1 : fwdR b n0 n1 n2 n3 M sg (i + 1) ok1 bh1 (acc ++ [⟨p0, p1, M1⟩]) := by
          intro q hq
          obtain ⟨r1, r2, r3, r4, r5⟩ := hfw q hq
          have hip : i < q.pts.length := by omega
          obtain ⟨f1, f2, f3, f4, f5, f6, f7, f8⟩ := staOk_fine (readS_some.1 hq).1
          obtain ⟨g1, g2, g3, g4, g5⟩ := f8 q.pts[i] (List.getElem_mem hip)
          rw [List.drop_eq_getElem_cons hip, List.flatMap_cons, ptB, List.append_assoc] at r4
          have l8' : (leB q.pts[i].id.toNat 4 ++ leB q.pts[i].gen.toNat 4).length = 8 := by simp [leB_length]
          rw [r4, List.take_left' l8', unpack_ww l8'] at hp
          rw [r4, List.drop_left' l8', takeF_fwd g1] at hT
          cases hT
          have t1 : (leB q.pts[i].id.toNat 4 ++ leB q.pts[i].gen.toNat 4).take 4 = leB q.pts[i].id.toNat 4 := List.take_left' (leB_length _ _)
          have t2 : (leB q.pts[i].id.toNat 4 ++ leB q.pts[i].gen.toNat 4).drop 4 = leB q.pts[i].gen.toNat 4 := List.drop_left' (leB_length _ _)
          have t3 : (leB q.pts[i].gen.toNat 4).take 4 = leB q.pts[i].gen.toNat 4 := List.take_of_length_le (by simp [leB_length])
          rw [t1, t2, t3, leN_leB_lt (by omega), leN_leB_lt (by omega)] at hp
          simp only [List.cons.injEq, and_true] at hp
          have hpt : (⟨p0, p1, q.pts[i].map⟩ : Pt) = q.pts[i] := by
            have i1 : (p0 : Int) = q.pts[i].id := by omega
            have i2 : (p1 : Int) = q.pts[i].gen := by omega
            rw [i1, i2]
          refine ⟨r1, r2, rfl, rfl, ?_⟩
          rw [r5, hpt, List.take_add_one, List.getElem?_eq_getElem hip]
          rfl
        have htl : t < tips.length := lt_of_some ht
        simp [F_r12z_Read_L0, D51, s0, s2, s4, s6, s9, s10, s11, v3, hi, h8, h8', h8n, h8i, h8m, h8d, h8d2, f_ww, hp, y0, y1, y2, ← hT, decX_map, List.getElem?_append_left htl, ht]
        exact ⟨by omega, k - 1, by omega, IW.of (show RReadI b n0 n1 n2 n3 n4 M sg _ _ _ from ⟨i + 1, t, t4, sv, ok1, bh1, acc ++ [⟨p0, p1, M1⟩], _, by omega, by simpa using s0, by simpa using s2, by simpa using s6, by simpa using s4, by simp, by simp, by simp, hsv, by omega, by simp [hacc],
          fun p hp => by
            rcases List.mem_append.1 hp with hp | hp
            · exact hml p hp
            · rw [List.mem_singleton] at hp
              subst hp
              exact hTl.1,
          by rw [List.map_append]; rfl, by rw [List.getElem?_set_self (by simp; omega)]; simp, hfw1⟩)⟩
    · obtain ⟨S, hS⟩ : ∃ S : Sta, S = ⟨n0, n1, M, acc, n2, sg⟩ := ⟨_, rfl⟩
      have g1 : M.length ≤ 1073741824 := by omega
      have g2 : acc.length ≤ 1073741824 := by omega
      have g3 : ∀ p ∈ acc, p.map.length ≤ 1073741824 := fun p hp => by have := hml p hp; omega
      have g4 : sg.length ≤ 1073741824 := by omega
      have hSl : S.map.length ≤ 1073741824 ∧ S.pts.length ≤ 1073741824 ∧ (∀ p : Pt, p ∈ S.pts → p.map.length ≤ 1073741824) ∧ S.staged.length ≤ 1073741824 := by rw [hS]; exact ⟨g1, g2, g3, g4⟩
      have hq3 : (ok = true ∧ staE S = 0 ∧ snapB S = b ∧ readS b = some S) ∨ (readS b = none ∧ ¬ (ok = true ∧ staE S = 0 ∧ snapB S = b)) := by
        cases h : readS b with
        | none =>
          refine .inr ⟨rfl, fun ⟨_, h2, h3⟩ => ?_⟩
          have hso : staOk S = true := by
            cases hh : staOk S with
            | true => rfl
            | false => simp [staE, hh] at h2
          rw [readS_some.2 ⟨hso, h3⟩] at h
          cases h
        | some q =>
          obtain ⟨r1, r2, r3, r4, r5⟩ := hfw q h
          have hin : q.pts.length ≤ i := by
            rcases Nat.lt_or_ge i n3 with h5 | h5
            · exact absurd ⟨h5, r3⟩ hgo
            · omega
          rw [List.take_of_length_le hin] at r5
          have e : S = q := by rw [hS, r5]; exact r2
          obtain ⟨h1, h2⟩ := readS_some.1 h
          exact .inl ⟨r3, by rw [e]; simp [staE, h1], by rw [e]; exact h2, by rw [e]⟩
      cases ok with
      | false =>
        have hn : readS b = none := by
          rcases hq3 with ⟨h1, _⟩ | ⟨h1, _⟩
          · cases h1
          · exact h1
        obtain ⟨e1, e2⟩ := none_q hn
        rcases hsv with ⟨rfl, hsg0⟩ | ⟨tx, rfl⟩
        · have hS2 : (⟨n0, n1, M, acc, n2, []⟩ : Sta) = S := by rw [hS, hsg0]
          simp [F_r12z_Read_L0, D51, s0, s2, s4, s6, s9, s10, s11, v3, decX_map, hSl.1, hSl.2.1, eq_true hSl.2.2.1, hSl.2.2.2, hS2, e1, e2, Sta.zero]
        · simp [F_r12z_Read_L0, D51, s0, s2, s4, s6, s9, s10, s11, v3, decX_map, hSl.1, hSl.2.1, eq_true hSl.2.2.1, hSl.2.2.2, ← hS, e1, e2, Sta.zero]
      | true =>
        have hni : ¬ i < n3 := fun h => hgo ⟨h, rfl⟩
        rcases hq3 with ⟨_, h2, h3, h4⟩ | ⟨hn, hno⟩
        · have e1 : rdQ b = S := by simp [rdQ, h4]
          have e2 : rdE b = 0 := by simp [rdE, h4]
          rcases hsv with ⟨rfl, hsg0⟩ | ⟨tx, rfl⟩
          · have hS2 : (⟨n0, n1, M, acc, n2, []⟩ : Sta) = S := by rw [hS, hsg0]
            simp [F_r12z_Read_L0, D51, s0, s2, s4, s6, s9, s10, s11, v3, hni, decX_map, hSl.1, hSl.2.1, eq_true hSl.2.2.1, hSl.2.2.2, hS2, h2, h3, e1, e2]
            rw [hS, hsg0]
            exact ⟨rfl, rfl, rfl, rfl, rfl, rfl⟩
          · simp [F_r12z_Read_L0, D51, s0, s2, s4, s6, s9, s10, s11, v3, hni, decX_map, hSl.1, hSl.2.1, eq_true hSl.2.2.1, hSl.2.2.2, ← hS, h2, h3, e1, e2]
            rw [hS]
            exact ⟨rfl, rfl, rfl, rfl, rfl, rfl⟩
        · obtain ⟨e1, e2⟩ := none_q hn
          by_cases h2 : staE S = 0
          · have h3 : ¬ snapB S = b := fun h => hno ⟨rfl, h2, h⟩
            rcases hsv with ⟨rfl, hsg0⟩ | ⟨tx, rfl⟩
            · have hS2 : (⟨n0, n1, M, acc, n2, []⟩ : Sta) = S := by rw [hS, hsg0]
              simp [F_r12z_Read_L0, D51, s0, s2, s4, s6, s9, s10, s11, v3, hni, decX_map, hSl.1, hSl.2.1, eq_true hSl.2.2.1, hSl.2.2.2, hS2, h2, h3, e1, e2, Sta.zero]
            · simp [F_r12z_Read_L0, D51, s0, s2, s4, s6, s9, s10, s11, v3, hni, decX_map, hSl.1, hSl.2.1, eq_true hSl.2.2.1, hSl.2.2.2, ← hS, h2, h3, e1, e2, Sta.zero]
          · rcases hsv with ⟨rfl, hsg0⟩ | ⟨tx, rfl⟩
            · have hS2 : (⟨n0, n1, M, acc, n2, []⟩ : Sta) = S := by rw [hS, hsg0]
              simp [F_r12z_Read_L0, D51, s0, s2, s4, s6, s9, s10, s11, v3, hni, decX_map, hSl.1, hSl.2.1, eq_true hSl.2.2.1, hSl.2.2.2, hS2, h2, e1, e2, Sta.zero]
            · simp [F_r12z_Read_L0, D51, s0, s2, s4, s6, s9, s10, s11, v3, hni, decX_map, hSl.1, hSl.2.1, eq_true hSl.2.2.1, hSl.2.2.2, ← hS, h2, e1, e2, Sta.zero]
end Go.Av

namespace Go.Av
open Enc (enc dec)
open Cel (cs dc)
open Go.Proofs Pl

def D52 : Orc := (Orc.nil.add n_r12_Write (sp1 sp_rWrite)).add n_r01_Put (sp3 sp_Put)
theorem D52_ok : OOk Try.prog D52 := (OOk.nil.add sp_rWrite_ok).add sp_rPut_ok
def RRecsI (seq : Int) (B : List UInt8) (parts : List (List UInt8)) (k : Nat) (s : Nat → V) (m : Mem) : Prop :=
  ∃ (a t tb : Nat) (pre : List (List UInt8)), parts = pre ++ chunks 4096 (B.drop a) ∧ (chunks 4096 (B.drop a)).length = k ∧ a = 4096 * pre.length ∧ s 1 = .val (.int .i64 seq) ∧ s 6 = .row tb 1 (B.map cs) ∧ s 8 = .row t 3 ((partsR seq pre).map cs) ∧ s 9 = .val (.int .i64 a) ∧ m.tips[t]? = some (36, 3, pre.length)
set_option maxRecDepth 4000 in
theorem c_r12_Records (q : Sta) (seq : Int) (hq : staLen q) : Pure Try.prog n_r12_Records [enc q, enc seq] (.tuple [.row 0 3 ((recsL q seq).map cs), enc (recsE q seq)]) [(36, 3, (recsL q seq).length)] := by
  have hq' := hq
  unfold staLen at hq'
  have g1' : q.map.length ≤ 1073741824 := hq'.1
  have g2' : q.pts.length ≤ 1073741824 := hq'.2.1
  have g3' : ∀ p ∈ q.pts, p.map.length ≤ 1073741824 := hq'.2.2.1
  have g4' : q.staged.length ≤ 1073741824 := hq'.2.2.2
  refine Pure.ofRW (α := Rec) D52_ok hm F_r12_Records_ok (by simp [F_r12_Records]) rfl ?_
  have hsl := snapB_length q
  have hpl : (snapParts q).length ≤ 20000 := Nat.le_trans (chunksF_length _ _ _) hsl
  cases hok : staOk q with
  | false =>
    have e : staE q = 110 := by simp [staE, hok]
    simp [F_r12_Records, D52, g1', g2', eq_true g3', g4', e, recsL, recsE, hok]
    exact ⟨2, ⟨[], ⟨rfl, rfl⟩, rfl⟩, rfl⟩
  | true =>
    have e : staE q = 0 := by simp [staE, hok]
    cases hseq : seqOk seq with
    | false =>
      have h1 : seq < 0 ∨ (0 ≤ seq ∧ 2305843009213693952 < seq) := by
        simp [seqOk] at hseq; omega
      rcases h1 with h1 | ⟨h1, h2⟩
      · simp [F_r12_Records, D52, g1', g2', eq_true g3', g4', e, recsL, recsE, hok, hseq, h1]
        exact ⟨2, ⟨[], ⟨rfl, rfl⟩, rfl⟩, rfl⟩
      · have h3 : ¬ seq < 0 := by omega
        simp [F_r12_Records, D52, g1', g2', eq_true g3', g4', e, recsL, recsE, hok, hseq, h2, h3]
        exact ⟨2, ⟨[], ⟨rfl, rfl⟩, rfl⟩, rfl⟩
    | true =>
      have h1 : ¬ seq < 0 ∧ ¬ 2305843009213693952 < seq := by
        simp [seqOk] at hseq; omega
      simp [F_r12_Records, D52, g1', g2', eq_true g3', g4', e, recsL, recsE, hok, hseq, h1.1, h1.2]
      obtain ⟨B, hB⟩ : ∃ B, B = snapB q := ⟨_, rfl⟩
      rw [← hB]
      rw [← hB] at hsl
      have hpe : snapParts q = chunks 4096 B := by rw [hB]; rfl
      refine wp_loop (RRecsI seq B (snapParts q)) (snapParts q).length (IW.of ⟨0, 2, 1, [], by rw [hpe]; rfl, by rw [hpe]; rfl, rfl, by simp, by simp, by simp [partsR], by simp, by simp⟩) fun k s m ⟨a, t, tb, pre, hp, hk, ha, s1, s6, s8, s9, ht⟩ => ?_
      have htl : t < m.tips.length := lt_of_some ht
      have hpre : pre.length ≤ 20000 := by rw [hp, List.length_append] at hpl; omega
      by_cases hi : a < B.length
      · have hne : B.drop a ≠ [] := by
          intro e
          have := congrArg List.length e
          simp at this
          omega
        obtain ⟨c, hc⟩ : ∃ c, c = (B.drop a).take 4096 := ⟨_, rfl⟩
        have hcc := chunks_cons (n := 4096) (by decide) hne
        rw [← hc, List.drop_drop] at hcc
        rw [hcc] at hp hk
        obtain ⟨h', hh⟩ : ∃ h' : Nat, min ((a : Int) + 4096) (B.length : Int) = h' := ⟨min (a + 4096) B.length, by omega⟩
        have hh1 : a ≤ h' := by omega
        have hh2 : h' ≤ B.length := by omega
        have hh3 : h' - a ≤ 4096 := by omega
        have hcm : List.drop a (List.take h' (B.map cs)) = c.map cs := by
          rw [hc, List.map_take, List.map_drop, List.drop_take]
          have : h' - a = min 4096 (B.length - a) := by omega
          rw [this, ← List.take_take, List.take_of_length_le (i := B.length - a) (by simp)]
        have hcl : c.length ≤ 4096 := by rw [hc]; simp; omega
        have w1 := IntWalk.i64_in ((a : Int) + 4096) (by omega)
        have w2 := IntWalk.i64_in (seq + (pre.length : Int)) (by omega)
        simp [F_r12_Records_L0, D52, s1, s6, s8, s9, hi, w1, w2, hh, hh1, hh2, hcm, partsR_length, List.getElem?_append_left htl, ht]
        refine ⟨by omega, by omega, k - 1, by simp only [List.length_cons] at hk; omega, IW.rowSlot (d := 8) (t := t) (xs := (partsR seq pre).map cs ++ [[.val (.int .i64 2), .val (.int .i64 (seq + (pre.length : Int))), .row m.tips.length 1 (c.map cs)]]) (partsR seq (pre ++ [c])) (by simp) (by simp [decX_append, decX_map, partsR_append]) rfl ⟨a + 4096, t, tb, pre ++ [c], by rw [hp, List.append_assoc]; rfl, by simp only [List.length_cons] at hk; omega, by simp; omega, by simp [s1], by simp [s6], by simp, by simp, ?_⟩⟩
        show (List.set _ _ _)[t]? = _
        rw [List.getElem?_set_self (by simp; omega)]
        simp
      · have hde : B.drop a = [] := List.drop_eq_nil_of_le (by omega)
        rw [hde, chunks_nil, List.append_nil] at hp
        have w1 := IntWalk.u64_in (pre.length : Int) (by omega)
        have w2 := IntWalk.i64_in (seq + (pre.length : Int)) (by omega)
        simp [F_r12_Records_L0, F_r12_Records, D52, s1, s6, s8, s9, hi, w1, w2, partsR_length, ht, List.getElem?_append_left htl]
        have he0 : errPut pre.length 2 = 0 := by
          have : mayB pre.length 2 = true := by simp [mayB]; omega
          simp [errPut, this]
        rw [hp]
        exact ⟨by omega, t, ⟨_, ⟨⟨rfl, rfl⟩, by rw [he0]⟩, by simp [decX_append, decX_map]⟩, by rw [List.getElem?_set_self (by simp; omega)]⟩
/-- The place of the first record of a number, from a place on. -/
def atF : List Fnd → Int → Nat → Int
  | [], _, _ => -1
  | f :: l, q, i => if f.rcd.seq = q then (i : Int) else atF l q (i + 1)
theorem atF_look (q : Int) : ∀ (l : List Fnd) (i : Nat), (atF l q i = -1 ∧ lookF l q = none) ∨ ∃ (j : Nat) (f : Fnd), atF l q i = ((i + j : Nat) : Int) ∧ l[j]? = some f ∧ lookF l q = some f.rcd
  | [], i => .inl ⟨rfl, rfl⟩
  | f :: l, i => by
    by_cases h : f.rcd.seq = q
    · exact .inr ⟨0, f, by simp [atF, h], rfl, by simp [lookF, h]⟩
    · have h2 : (f.rcd.seq == q) = false := by simpa using h
      have e : lookF (f :: l) q = lookF l q := by simp [lookF, List.find?_cons, h2]
      rw [atF, if_neg h, e]
      rcases atF_look q l (i + 1) with ⟨h3, h4⟩ | ⟨j, g, h3, h4, h5⟩
      · exact .inl ⟨h3, h4⟩
      · exact .inr ⟨j + 1, g, by rw [h3]; omega, by simpa using h4, h5⟩
def RAtI (l : List Fnd) (q : Int) (k : Nat) (s : Nat → V) (m : Mem) : Prop :=
  ∃ i : Nat, i + k = l.length ∧ atF l q 0 = atF (l.drop i) q i ∧ s 0 = .lit 5 (l.map cs) ∧ s 1 = .val (.int .i64 q) ∧ s 5 = .val (.int .i64 i)
theorem c_r12_at (l : List Fnd) (q : Int) (hl : l.length ≤ 2 ^ 40) : Pure Try.prog n_r12_at [enc l, enc q] (enc (atF l q 0)) [] := by
  refine Pure.ofC OOk.nil hm F_r12_at_ok (by simp [F_r12_at]) rfl ?_
  simp [F_r12_at]
  refine wp_loop (RAtI l q) l.length (IW.of ⟨0, by omega, by simp, by simp, by simp, by simp⟩) fun k s m ⟨i, hik, ha, s0, s1, s5⟩ => ?_
  by_cases hi : i < l.length
  · have hg : l[i]? = some l[i] := List.getElem?_eq_getElem hi
    have w1 := IntWalk.i64_in ((i : Int) + 1) (by omega)
    rw [List.drop_eq_getElem_cons hi, atF] at ha
    by_cases he : l[i].rcd.seq = q
    · rw [if_pos he] at ha
      simp [F_r12_at_L0, s0, s1, s5, hi, hg, he, ha]
    · rw [if_neg he] at ha
      simp [F_r12_at_L0, s0, s1, s5, hi, hg, he, w1]
      exact ⟨k - 1, by omega, IW.of (show RAtI l q _ _ _ from ⟨i + 1, by omega, ha, by simpa using s0, by simpa using s1, by simp⟩)⟩
  · have hil : i = l.length := by omega
    rw [hil, List.drop_length, atF] at ha
    simp [F_r12_at_L0, F_r12_at, s0, s1, s5, hi, ha]
@[simp] def sp_rat (l : List Fnd) (q : Int) : Option (V × List Tip) := if l.length ≤ 2 ^ 40 then some (enc (atF l q 0), []) else none
theorem sp_rat_ok : EOk Try.prog n_r12_at (sp2 sp_rat) := sp2_ok fun l q r h => by
  simp only [sp_rat] at h
  split at h <;> cases h
  exact c_r12_at l q (by assumption)
@[simp] def sp_rRead (b : List UInt8) : Option (V × List Tip) := if b.length ≤ 2 ^ 40 then some (.tuple [enc (rdQ b), enc (rdE b)], []) else none
theorem sp_rRead_ok : EOk Try.prog n_r12_Read (sp1 sp_rRead) := sp1_ok fun b r h => by
  simp only [sp_rRead] at h
  split at h <;> cases h
  exact c_r12_Read b (by assumption)
def D53 : Orc := ((Orc.nil.add n_r01_Take (sp2 sp_Take)).add n_r12_at (sp2 sp_rat)).add n_r12_Read (sp1 sp_rRead)
theorem D53_ok : OOk Try.prog D53 := ((OOk.nil.add sp_rTake_ok).add sp_rat_ok).add sp_rRead_ok
def wholeG (first : Int) (G : Option (List UInt8)) : Sta × Int × Bool := match G with
  | some b => (rdQ b, first, decide (rdE b = 0))
  | none => (Sta.zero, 0, false)
/-- The snapshot that ends with a record; is it one? -/
def wholeF (l : List Fnd) (r : Rec) : Sta × Int × Bool :=
  if takeE r.body 2 ≠ 0 ∨ takeR r.body 2 ≠ [] ∨ r.seq < (takeV r.body 2 : Int) then (Sta.zero, 0, false)
  else wholeG (r.seq - takeV r.body 2) (gather (lookF l) (r.seq - takeV r.body 2) (takeV r.body 2))
def RWholeI (l : List Fnd) (r : Rec) (G : Option (List UInt8)) (k : Nat) (s : Nat → V) (m : Mem) : Prop :=
  ∃ (acc : List UInt8) (t : Nat) (tips : List Tip), s 0 = .lit 5 (l.map cs) ∧ s 3 = .ptr 0 0 ∧ s 4 = .ptr 1 0 ∧ s 10 = .val (.int .i64 (r.seq - takeV r.body 2)) ∧ s 11 = .row t 1 (acc.map cs) ∧ s 12 = .val (.int .i64 (r.seq - k)) ∧ k ≤ takeV r.body 2 ∧
    G = (gather (lookF l) (r.seq - k) k).map (acc ++ ·) ∧ acc.length ≤ (65536 - k) * 2 ^ 20 ∧ m = ⟨[cs r, fnd0], tips⟩ ∧ tips[t]? = some (5, 1, acc.length)
set_option maxRecDepth 4000 in
theorem c_r12_whole (l : List Fnd) (r : Rec) (hl : fndLen l) (hr : r.body.length ≤ 2 ^ 20) (hs : r.seq < 2 ^ 63) : Pure Try.prog n_r12_whole [enc l, enc r] (.tuple [enc (wholeF l r).1, enc (wholeF l r).2.1, enc (wholeF l r).2.2]) [] := by
  refine Pure.ofC D53_ok hm F_r12_whole_ok (by simp [F_r12_whole]) (by simp [V.res, V.res1]) ?_
  have hl2 : l.length ≤ 1099511627776 := by have := hl.1; omega
  have hb2 : r.body.length ≤ 1099511627776 := by omega
  have hn := takeV_lt r.body
  have w1 := IntWalk.i64_in ((takeV r.body 2 : Nat) : Int) (by omega)
  by_cases hc : takeE r.body 2 ≠ 0 ∨ takeR r.body 2 ≠ [] ∨ r.seq < (takeV r.body 2 : Int)
  · have e : wholeF l r = (Sta.zero, 0, false) := by rw [wholeF, if_pos hc]
    by_cases h1 : takeE r.body 2 = 0
    · by_cases h2 : takeR r.body 2 = []
      · have h3 : r.seq < (takeV r.body 2 : Int) := by
          rcases hc with h | h | h
          · exact absurd h1 h
          · exact absurd h2 h
          · exact h
        simp [F_r12_whole, D53, hb2, h1, h2, h3, w1, e, Sta.zero]
      · have h2' : 0 < (takeR r.body 2).length := List.length_pos_iff.2 h2
        simp [F_r12_whole, D53, hb2, h1, h2, h2', w1, e, Sta.zero]
    · simp [F_r12_whole, D53, hb2, h1, w1, e, Sta.zero]
  · have hc' := hc
    simp only [not_or, ne_eq, Decidable.not_not, Int.not_lt] at hc
    obtain ⟨hE, hR, hle⟩ := hc
    have w2 := IntWalk.i64_in (r.seq - ((takeV r.body 2 : Nat) : Int)) (by omega)
    have hle2 : ¬ r.seq < (takeV r.body 2 : Int) := by omega
    obtain ⟨G, hG⟩ : ∃ G, gather (lookF l) (r.seq - takeV r.body 2) (takeV r.body 2) = G := ⟨_, rfl⟩
    have hwf : wholeF l r = wholeG (r.seq - takeV r.body 2) G := by rw [wholeF, if_neg hc', hG]
    simp [F_r12_whole, D53, hb2, hE, hR, hle2, w1, w2]
    refine wp_loop (RWholeI l r G) (takeV r.body 2) (IW.of ⟨[], 1, _, by simp, by simp, by simp, by simp, by simp, by simp, Nat.le_refl _, by rw [hG]; cases G <;> rfl, by simp, rfl, rfl⟩) fun k s m ⟨acc, t, tips, s0, s3, s4, s10, s11, s12, hkn, hGG, hal, hm, ht⟩ => ?_
    subst hm
    cases k with
    | zero =>
      have hGa : G = some acc := by rw [hGG]; simp [gather]
      have hal2 : acc.length ≤ 1099511627776 := by omega
      rw [hGa] at hwf
      simp only [wholeG] at hwf
      simp [F_r12_whole_L0, D53, s0, s3, s4, s10, s11, s12, hal2, hwf, fnd0]
    | succ k =>
      have hcast : ((k + 1 : Nat) : Int) = (k : Int) + 1 := by omega
      rw [hcast] at s12 hGG
      have w4 := IntWalk.i64_in (r.seq - ((k : Int) + 1) + 1) (by omega)
      have hq : r.seq - ((k : Int) + 1) < r.seq := by omega
      have hsub : r.seq - ((k : Int) + 1) + 1 = r.seq - k := by omega
      rw [gather, hsub] at hGG
      rcases atF_look (r.seq - ((k : Int) + 1)) l 0 with ⟨ha, hlk⟩ | ⟨j, f, ha, hj, hlk⟩
      · rw [hlk] at hGG
        simp only [Option.bind_none, Option.map_none] at hGG
        rw [hGG] at hwf
        simp only [wholeG] at hwf
        simp [F_r12_whole_L0, D53, s0, s3, s4, s10, s11, s12, hl2, hq, ha, hwf, Sta.zero, fnd0]
      · rw [hlk, Option.bind_some] at hGG
        rw [Nat.zero_add] at ha
        have hj0 : ¬ (j : Int) < 0 := by omega
        by_cases hp : f.rcd.kind = 2
        · rw [if_pos hp] at hGG
          have hpb := (hl.2 f (List.mem_of_getElem? hj)).1
          have hal3 : acc.length + f.rcd.body.length ≤ 140737488355328 := by omega
          simp [F_r12_whole_L0, D53, s0, s3, s4, s10, s11, s12, hl2, hq, ha, hj, hj0, hp, w4, ht, hal3]
          exact ⟨k, by omega, IW.of (show RWholeI l r G _ _ _ from ⟨acc ++ f.rcd.body, t, _, by simpa using s0, by simpa using s3, by simpa using s4, by simpa using s10, by simp, by simp [hsub], by omega,
            by rw [hGG]; cases gather (lookF l) (r.seq - k) k <;> simp, by rw [List.length_append]; omega, rfl, by rw [List.getElem?_set_self (lt_of_some ht)]; simp⟩)⟩
        · rw [if_neg hp] at hGG
          simp only [Option.map_none] at hGG
          rw [hGG] at hwf
          simp only [wholeG] at hwf
          simp [F_r12_whole_L0, D53, s0, s3, s4, s10, s11, s12, hl2, hq, ha, hj, hj0, hp, hwf, Sta.zero, fnd0]
@[simp] def sp_rwhole (l : List Fnd) (r : Rec) : Option (V × List Tip) := if (l.length ≤ 2 ^ 30 ∧ ∀ f ∈ l, f.rcd.body.length ≤ 2 ^ 20 ∧ f.rcd.seq < 2 ^ 63) ∧ r.body.length ≤ 2 ^ 20 ∧ r.seq < 2 ^ 63 then some (.tuple [enc (wholeF l r).1, enc (wholeF l r).2.1, enc (wholeF l r).2.2], []) else none
theorem sp_rwhole_ok : EOk Try.prog n_r12_whole (sp2 sp_rwhole) := sp2_ok fun l r y h => by
  simp only [sp_rwhole] at h
  split at h <;> cases h
  rename_i h
  exact c_r12_whole l r h.1 h.2.1 h.2.2
def D54 : Orc := Orc.nil.add n_r12_whole (sp2 sp_rwhole)
theorem D54_ok : OOk Try.prog D54 := OOk.nil.add sp_rwhole_ok
theorem fndOne_whole (l : List Fnd) (f : Fnd) : fndOne l f = if f.rcd.kind = 3 ∧ (wholeF l f.rcd).2.2 = true then some ((wholeF l f.rcd).1, (wholeF l f.rcd).2.1, f.rcd.seq) else none := by
  by_cases hk : f.rcd.kind = 3
  · by_cases hc : takeE f.rcd.body 2 = 0 ∧ takeR f.rcd.body 2 = [] ∧ (takeV f.rcd.body 2 : Int) ≤ f.rcd.seq
    · have hw : wholeF l f.rcd = wholeG (f.rcd.seq - takeV f.rcd.body 2) (gather (lookF l) (f.rcd.seq - takeV f.rcd.body 2) (takeV f.rcd.body 2)) := by
        rw [wholeF, if_neg]
        obtain ⟨h1, h2, h3⟩ := hc
        simp [h1, h2]
        omega
      rw [fndOne, if_pos ⟨hk, hc⟩, hw]
      cases gather (lookF l) (f.rcd.seq - takeV f.rcd.body 2) (takeV f.rcd.body 2) with
      | none => simp [wholeG]
      | some b => by_cases hrd : rdE b = 0 <;> simp [wholeG, hk, hrd]
    · have hw : wholeF l f.rcd = (Sta.zero, 0, false) := by
        rw [wholeF, if_pos]
        by_cases h1 : takeE f.rcd.body 2 = 0
        · by_cases h2 : takeR f.rcd.body 2 = []
          · refine .inr (.inr ?_)
            rcases Int.lt_or_le f.rcd.seq (takeV f.rcd.body 2 : Int) with h | h
            · exact h
            · exact absurd ⟨h1, h2, h⟩ hc
          · exact .inr (.inl h2)
        · exact .inl h1
      rw [fndOne, if_neg (fun h => hc h.2), hw]
      simp
  · rw [fndOne, if_neg (fun h => hk h.1), if_neg (fun h => hk h.1)]
def RFoundI (l : List Fnd) (k : Nat) (s : Nat → V) (m : Mem) : Prop :=
  ∃ o : Nat, k ≤ l.length ∧ fndS l = (bwTo l k).findSome? (fun p => fndOne l p.2) ∧ s 0 = .lit 5 (l.map cs) ∧ s 2 = .ptr o 0 ∧ m.boxes[o]? = some fnd0 ∧ s 6 = .val (.int .i64 ((k : Int) - 1))
set_option maxRecDepth 4000 in
theorem c_r12_Found (l : List Fnd) (hl : fndLen l) : Pure Try.prog n_r12_Found [enc l] (fndV (fndS l)) [] := by
  refine Pure.ofC D54_ok hm F_r12_Found_ok (by simp [F_r12_Found]) (by unfold fndV; split <;> simp [V.res, V.res1]) ?_
  have hl1 := hl.1
  have hl2 : l.length ≤ 1073741824 := hl.1
  have hl3 : ∀ f ∈ l, f.rcd.body.length ≤ 1048576 ∧ f.rcd.seq < 9223372036854775808 := hl.2
  have w0 := IntWalk.i64_in ((l.length : Int) - 1) (by omega)
  simp [F_r12_Found, w0]
  refine wp_loop (RFoundI l) l.length (IW.of ⟨0, Nat.le_refl _, rfl, by simp, by simp, by simp [fnd0], by simp⟩) fun k s m ⟨o, hk, hf, s0, s2, ho, s6⟩ => ?_
  have hol : o < m.boxes.length := lt_of_some ho
  have f1 : ∀ (b : List (List V)), (m.boxes ++ b)[o]? = m.boxes[o]? := fun b => List.getElem?_append_left hol
  have f2 : ∀ (b : List (List V)) (c : List V), ((m.boxes ++ b).set o c)[o]? = some c := fun b c => List.getElem?_set_self (by simp; omega)
  simp only [fnd0] at ho
  cases k with
  | zero =>
    have e : fndS l = none := by rw [hf]; rfl
    have h0 : ¬ (0 : Int) ≤ ((0 : Nat) : Int) - 1 := by omega
    simp [F_r12_Found_L0, F_r12_Found, D54, s0, s2, s6, h0, ho, e, fndV, Sta.zero, List.getElem?_set_self hol]
  | succ k =>
    have hkl : k < l.length := by omega
    have hg : l[k]? = some l[k] := List.getElem?_eq_getElem hkl
    have hc1 : ((k + 1 : Nat) : Int) - 1 = (k : Int) := by omega
    rw [hc1] at s6
    have w1 := IntWalk.i64_in ((k : Int) - 1) (by omega)
    obtain ⟨f, hfe⟩ : ∃ f, f = l[k] := ⟨_, rfl⟩
    have hfm := hl3 f (hfe ▸ List.getElem_mem hkl)
    rw [bwTo, hg, ← hfe] at hf
    simp only [List.findSome?_cons] at hf
    rw [fndOne_whole] at hf
    by_cases h3 : f.rcd.kind = 3
    · obtain ⟨W, hW⟩ : ∃ W, W = wholeF l f.rcd := ⟨_, rfl⟩
      rw [← hW] at hf
      obtain ⟨q, a, ok⟩ := W
      have hrc : (⟨3, f.rcd.seq, f.rcd.body⟩ : Rec) = f.rcd := by rw [← h3]
      have hW2 : wholeF l ⟨3, f.rcd.seq, f.rcd.body⟩ = (q, a, ok) := by rw [hrc, ← hW]
      cases ok with
      | true =>
        rw [if_pos ⟨h3, rfl⟩] at hf
        simp only at hf
        simp [F_r12_Found_L0, D54, s0, s2, s6, hg, ← hfe, h3, hl2, eq_true hl3, hfm.1, hfm.2, hW2, f1, f2, ho, hf, fndV]
      | false =>
        rw [if_neg (by simp)] at hf
        simp only at hf
        simp [F_r12_Found_L0, D54, s0, s2, s6, hg, ← hfe, h3, hl2, eq_true hl3, hfm.1, hfm.2, hW2, f1, ho, w1]
        exact ⟨k, by omega, IW.of (show RFoundI l _ _ _ from ⟨o, by omega, hf, by simpa using s0, by simpa using s2, by simpa [f1, fnd0] using ho, by simp⟩)⟩
    · rw [if_neg (fun h => h3 h.1)] at hf
      simp only at hf
      simp [F_r12_Found_L0, D54, s0, s2, s6, hg, ← hfe, h3, w1]
      exact ⟨k, by omega, IW.of (show RFoundI l _ _ _ from ⟨o, by omega, hf, by simpa using s0, by simpa using s2, by simpa [fnd0] using ho, by simp⟩)⟩
end Go.Av

namespace Go.Av
open Enc (enc dec)
open Cel (cs dc)
open Go.Proofs Pl

@[simp] def sp_recAll (a b : List Rec) : Option (V × List Tip) := if a.length ≤ 2 ^ 40 then some (enc (decide (a = b)), []) else none
theorem sp_recAll_ok : EOk Try.prog n_r05_All (sp2 sp_recAll) := sp2_ok fun a b r h => by
  simp only [sp_recAll] at h
  split at h <;> cases h
  exact c_r05_All a b (by assumption)
@[simp] def sp_rRecs (q : Sta) (seq : Int) : Option (V × List Tip) := if q.map.length ≤ 2 ^ 30 ∧ q.pts.length ≤ 2 ^ 30 ∧ (∀ p ∈ q.pts, p.map.length ≤ 2 ^ 30) ∧ q.staged.length ≤ 2 ^ 30 then
  some (.tuple [.row 0 3 ((recsL q seq).map cs), enc (recsE q seq)], [(36, 3, (recsL q seq).length)]) else none
theorem sp_rRecs_ok : EOk Try.prog n_r12_Records (sp2 sp_rRecs) := sp2_ok fun q n r h => by
  simp only [sp_rRecs] at h
  split at h <;> cases h
  exact c_r12_Records q n (by assumption)
@[simp] def sp_rFound (l : List Fnd) : Option (V × List Tip) := if l.length ≤ 2 ^ 30 ∧ ∀ f ∈ l, f.rcd.body.length ≤ 2 ^ 20 ∧ f.rcd.seq < 2 ^ 63 then some (fndV (fndS l), []) else none
theorem sp_rFound_ok : EOk Try.prog n_r12_Found (sp1 sp_rFound) := sp1_ok fun l r h => by
  simp only [sp_rFound] at h
  split at h <;> cases h
  exact c_r12_Found l (by assumption)
def D55 : Orc := ((((D42.add n_r12_Write (sp1 sp_rWrite)).add n_r12_Records (sp2 sp_rRecs)).add n_r12_Read (sp1 sp_rRead)).add n_r05_All (sp2 sp_recAll)).add n_r12_Found (sp1 sp_rFound)
theorem D55_ok : OOk Try.prog D55 := ((((D42_ok.add sp_rWrite_ok).add sp_rRecs_ok).add sp_rRead_ok).add sp_recAll_ok).add sp_rFound_ok
theorem recsL_length (q : Sta) (seq : Int) : (recsL q seq).length ≤ 1099511627776 := by
  have hsl := snapB_length q
  have hpl : (snapParts q).length ≤ 20000 := Nat.le_trans (chunksF_length _ _ _) hsl
  unfold recsL
  split
  · simp [partsR_length]; omega
  · simp
set_option maxRecDepth 4000 in
theorem c_SnapTells (q : Sta) (seq : Int) (b : List UInt8) (hq : staBig q) (hb : b.length ≤ 9223372036854775807) : Pure Try.prog n_w12_SnapTells [enc q, enc seq, enc b] (.val (.bool true)) [] := by
  refine Pure.ofC D55_ok hm F_w12_SnapTells_ok (by simp [F_w12_SnapTells]) rfl ?_
  have hq' : q.map.length ≤ 9223372036854775807 ∧ q.pts.length ≤ 9223372036854775807 ∧ (∀ p : Pt, p ∈ q.pts → p.map.length ≤ 9223372036854775807) ∧ q.staged.length ≤ 9223372036854775807 := hq
  have w1 := IntWalk.i64_in (b.length : Int) (by omega)
  cases hf : few11 q with
  | false => simp [F_w12_SnapTells, D55, D42, D41, hf, hq'.1, hq'.2.1, eq_true hq'.2.2.1, hq'.2.2.2]
  | true =>
    by_cases hbl : b.length ≤ 20000
    · have hbl' : ¬ (20000 : Int) < b.length := by omega
      have hl := staLen' (few11_len hf)
      have hbb : b.length ≤ 1099511627776 := by omega
      have hrl := recsL_length q seq
      have hy : (rdQ b).map.length ≤ 1073741824 ∧ (rdQ b).pts.length ≤ 1073741824 ∧ (∀ p : Pt, p ∈ (rdQ b).pts → p.map.length ≤ 1073741824) ∧ (rdQ b).staged.length ≤ 1073741824 := by
        rcases rd_cases b with ⟨r1, r2, r3⟩ | ⟨r1, r2, r3⟩
        · rw [r2]; exact ⟨by decide, by decide, by decide, by decide⟩
        · exact staLen' (staOk_len r1)
      simp [F_w12_SnapTells, D55, D42, D41, hf, hq'.1, hq'.2.1, eq_true hq'.2.2.1, hq'.2.2.2, w1, hbl', hl.1, hl.2.1, eq_true hl.2.2.1, hl.2.2.2, hbb, hrl, hy.1, hy.2.1, eq_true hy.2.2.1, hy.2.2.2]
    · have hbl' : (20000 : Int) < b.length := by omega
      simp [F_w12_SnapTells, D55, D42, D41, hf, hq'.1, hq'.2.1, eq_true hq'.2.2.1, hq'.2.2.2, w1, hbl']
theorem fndS_ok {l : List Fnd} {y : Sta × Int × Int} (h : fndS l = some y) : staOk y.1 = true := by
  obtain ⟨p, _, h⟩ := List.exists_of_findSome?_eq_some h
  unfold fndOne at h
  split at h
  · rw [Option.bind_eq_some_iff] at h
    obtain ⟨b, _, h⟩ := h
    split at h
    · rename_i hrd
      cases h
      rcases rd_cases b with ⟨r1, r2, r3⟩ | ⟨r1, r2, r3⟩
      · rw [r3] at hrd; cases hrd
      · exact r1
    · cases h
  · cases h
def FindsI (l : List Fnd) (k : Nat) (s : Nat → V) (m : Mem) : Prop :=
  ∃ i : Nat, i + k = l.length ∧ (∀ f ∈ l.take i, f.rcd.body.length ≤ 5000) ∧ s 0 = .lit 5 (l.map cs) ∧ s 3 = .val (.bool true) ∧ s 4 = .val (.int .i64 i)
set_option maxRecDepth 4000 in
theorem c_SnapFinds (l : List Fnd) (hl : l.length ≤ 9223372036854775807) (hs : ∀ f ∈ l, f.rcd.seq < 2 ^ 63 ∧ f.rcd.body.length ≤ 9223372036854775807) : Pure Try.prog n_w12_SnapFinds [enc l] (.val (.bool true)) [] := by
  refine Pure.ofC D55_ok hm F_w12_SnapFinds_ok (by simp [F_w12_SnapFinds]) rfl ?_
  by_cases h60 : l.length ≤ 60
  · have h60' : ¬ (60 : Int) < l.length := by omega
    simp [F_w12_SnapFinds, D55, D42, D41, h60']
    refine wp_loop (FindsI l) l.length (IW.of ⟨0, by omega, by simp, by simp, by simp, by simp⟩) fun k s m ⟨i, hik, hb, s0, s3, s4⟩ => ?_
    by_cases hi : i < l.length
    · have hg : l[i]? = some l[i] := List.getElem?_eq_getElem hi
      have w1 := IntWalk.i64_in ((i : Int) + 1) (by omega)
      by_cases h5 : (5000 : Int) < l[i].rcd.body.length
      · simp [F_w12_SnapFinds_L0, s0, s3, s4, hi, hg, h5]
      · simp [F_w12_SnapFinds_L0, s0, s3, s4, hi, hg, h5, w1]
        refine ⟨k - 1, by omega, IW.of (show FindsI l _ _ _ from ⟨i + 1, by omega, ?_, by simpa using s0, by simpa using s3, by simp⟩)⟩
        have ht1 : l.take (i + 1) = l.take i ++ [l[i]] := by rw [List.take_add_one, hg]; rfl
        rw [ht1]
        intro f hf
        rcases List.mem_append.1 hf with hf | hf
        · exact hb f hf
        · rw [List.mem_singleton] at hf
          subst hf
          omega
    · have hil : i = l.length := by omega
      rw [hil, List.take_length] at hb
      have hl2 : l.length ≤ 1073741824 := by omega
      have hl3 : ∀ f ∈ l, f.rcd.body.length ≤ 1048576 ∧ f.rcd.seq < 9223372036854775808 := fun f hf => ⟨by have := hb f hf; omega, (hs f hf).1⟩
      cases hS : fndS l with
      | none =>
        have y : Sta.zero.map.length ≤ 1073741824 ∧ Sta.zero.pts.length ≤ 1073741824 ∧ (∀ p : Pt, p ∈ Sta.zero.pts → p.map.length ≤ 1073741824) ∧ Sta.zero.staged.length ≤ 1073741824 := ⟨by decide, by decide, by decide, by decide⟩
        simp [F_w12_SnapFinds_L0, F_w12_SnapFinds, D55, D42, D41, s0, s3, s4, hi, hl2, eq_true hl3, hS, fndV, y.1, y.2.1, eq_true y.2.2.1, y.2.2.2]
      | some z =>
        have y := staLen' (staOk_len (fndS_ok hS))
        obtain ⟨q, a, b⟩ := z
        simp only at y
        simp [F_w12_SnapFinds_L0, F_w12_SnapFinds, D55, D42, D41, s0, s3, s4, hi, hl2, eq_true hl3, hS, fndV, y.1, y.2.1, eq_true y.2.2.1, y.2.2.2]
  · have h60' : (60 : Int) < l.length := by omega
    simp [F_w12_SnapFinds, D55, D42, D41, h60']
end Go.Av

namespace Go.Av
open Enc (enc dec)
open Cel (cs dc)
open Go.Proofs Pl Go.ChangeShapes Go.WideShapes Go.RowKit

theorem opn_rec : Opn Try.prog 36 (fun x : Rec => cs x) (fun r => r.seq < 2 ^ 63 ∧ r.body.length ≤ maxLen) := by
  refine ⟨fun _ => Eq.symm (by kernel_rfl), fun en w base spare held fuel c x h => ?_⟩
  obtain ⟨hl, n, hf⟩ := open_flat Try.underlying36 (by rintro (_ | _ | _ | i) f hi <;> simp at hi <;> subst hi <;> exact ⟨rfl, by kernel_rfl⟩) (by kernel_rfl) h
  obtain ⟨v0, y0, g0, t0⟩ := hf 0 _ rfl
  obtain ⟨v1, y1, g1, t1⟩ := hf 1 _ rfl
  obtain ⟨v2, y2, g2, t2⟩ := hf 2 _ rfl
  obtain rfl : c = [v0, v1, v2] := by
    match c, hl with
    | [a0, a1, a2], _ => simp at g0 g1 g2; simp [g0, g1, g2]
  obtain ⟨a0, _, r0, o0⟩ := opn_int.2 en w base spare held n _ _ t0
  obtain ⟨a1, w1, r1, o1⟩ := opn_int.2 en w base spare held n _ _ t1
  obtain ⟨a2, m2, r2, o2⟩ := opn_bytes.2 en w base spare held n _ _ t2
  have hs : a1 < 2 ^ 63 := by
    simp only [Lit.wf, Bool.and_eq_true, decide_eq_true_eq] at w1
    have : a1 ≤ 9223372036854775807 := w1.2
    omega
  refine ⟨⟨a0, a1, a2⟩, ⟨hs, m2.1⟩, r0.append (r1.append r2), ?_⟩
  intro v hv
  simp only [List.mem_cons, List.not_mem_nil, or_false] at hv
  rcases hv with rfl | rfl | rfl
  · exact o0 _ (by simp)
  · exact o1 _ (by simp)
  · exact o2 _ (by simp)
theorem len5 {α : Type} {c : List α} (h : c.length = 5) : ∃ c0 c1 c2 c3 c4, c = [c0, c1, c2, c3, c4] := by
  match c, h with
  | [a0, a1, a2, a3, a4], _ => exact ⟨a0, a1, a2, a3, a4, rfl⟩
theorem len3 {α : Type} {c : List α} (h : c.length = 3) : ∃ c0 c1 c2, c = [c0, c1, c2] := by
  match c, h with
  | [a0, a1, a2], _ => exact ⟨a0, a1, a2, rfl⟩
theorem opn_fnd : Opn Try.prog 57 (fun x : Fnd => cs x) (fun f => f.rcd.seq < 2 ^ 63 ∧ f.rcd.body.length ≤ maxLen) := by
  refine ⟨fun _ => Eq.symm (by kernel_rfl), fun en w base spare held fuel c x h => ?_⟩
  obtain ⟨xs, n, _, _, hl, hlen, hf⟩ := DataW.trod_struct Try.underlying57 h
  have hc : Try.prog.cellsOf 57 = 5 := by kernel_rfl
  have h36 : Try.prog.cellsOf 36 = 3 := by kernel_rfl
  have h3 : Try.prog.cellsOf 3 = 1 := by kernel_rfl
  rw [hc] at hl
  have t0 : DataW.trod en Try.prog w base spare held n 36 ((c.drop 0).take (Try.prog.cellsOf 36)) = xs[0]? := hf 0 _ rfl
  have t1 : DataW.trod en Try.prog w base spare held n 3 ((c.drop 3).take (Try.prog.cellsOf 3)) = xs[1]? := hf 1 _ rfl
  have t2 : DataW.trod en Try.prog w base spare held n 3 ((c.drop 4).take (Try.prog.cellsOf 3)) = xs[2]? := hf 2 _ rfl
  rw [h36] at t0
  rw [h3] at t1 t2
  obtain ⟨c0, c1, c2, c3, c4, rfl⟩ := len5 hl
  obtain ⟨y0, y1, y2, rfl⟩ := len3 (show xs.length = 3 from hlen)
  obtain ⟨a0, m0, r0, o0⟩ := opn_rec.2 en w base spare held n [c0, c1, c2] y0 t0
  obtain ⟨a1, _, r1, o1⟩ := opn_int.2 en w base spare held n [c3] y1 t1
  obtain ⟨a2, _, r2, o2⟩ := opn_int.2 en w base spare held n [c4] y2 t2
  refine ⟨⟨a0, a1, a2⟩, m0, r0.append (r1.append r2), ?_⟩
  intro v hv
  simp only [List.mem_cons, List.not_mem_nil, or_false] at hv
  rcases hv with rfl | rfl | rfl | rfl | rfl
  · exact o0 _ (by simp)
  · exact o0 _ (by simp)
  · exact o0 _ (by simp)
  · exact o1 _ (by simp)
  · exact o2 _ (by simp)
theorem opn_fnds : Opn Try.prog 55 (fun l : List Fnd => [enc l]) (fun l => l.length ≤ maxLen ∧ ∀ f ∈ l, f.rcd.seq < 2 ^ 63 ∧ f.rcd.body.length ≤ maxLen) := Opn.slice Try.underlying55 (by kernel_rfl) (by decide) opn_fnd
end Go.Av
