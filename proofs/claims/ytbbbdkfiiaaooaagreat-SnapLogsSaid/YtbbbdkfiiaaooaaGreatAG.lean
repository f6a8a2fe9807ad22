/-
  ZlSnJ: Contracts of package extent, and of the reference of chapter 7: what bytes are.
  ZlSnK: What bytes are, by the reference of chapter 7.
  ZlSnL: Contracts of package extmap, and of the reference of chapter 8: which maps may be.
  ZlSnM: Contracts of package state, first part.
  ZlSnS: Contracts of package state, second part: kept.
  ZlPlD: States: no Go here.
  ZlSnT: Contracts of package state, third part: Check, New.
  ZlSnU: Contracts: state.New; likeness of states, of records.
  ZlSnV: Contracts: likeness of records.
  ZlSnW: Contracts of package snap: what is written.
  ZlSnX: A state's bytes: their parts, plainly; snap.Write.
  ZlSnY: Contracts of package snap: Write.
  ZlSnZ: Contracts of package snap: what is read: its closures.
  ZlToA: Contracts of package snap: what is read: numbers, and maps.
  ZlToB: Contracts of package snap: what is read: a map.
  ZlToC: Contracts of package snap: Read.
  ZlToD: Contracts: slices.Chunk, snap.parts, snap.Records.
  ZlToE: Contracts: snap.Records.
  ZlToF: Contracts: slices.Backward, snap.Found.
  ZlToG: Contracts: snap.Found.
  ZlToH: Contracts of the laws' own functions.
  ZlPlE: A state's bytes: what is written is read, and what is read was written. No Go here.
  ZlToI: Contracts of the laws' own functions: awake.
  ZlToJ: The laws: a state is read as it was written.
  ZlToK: The laws: a snapshot's sizes.
  ZlPlG: Snapshots one behind the other, of which a record is gone. No Go here.
  ZlDvZr: The plain law of a snapshot that is appended to a log.
  ZlDvZa: Contracts of package log: all records, second part.
  ZlDvZc: The calls whose answers are fixed, of logs.
-/
import Derived.Test.YtbbbdkfiiaaooaaGreatAF
set_option linter.unusedSimpArgs false
set_option linter.unusedVariables false

namespace Go.Av
open Enc (enc dec)
open Cel (cs dc)
open Go.Proofs Pl

/-- An extent's head, as its bytes tell it; an extent that bytes begin with, and what is behind it. -/
def hdR (b : List UInt8) : Xt := ⟨leN (b.take 1), leN ((b.drop 1).take 1), leN ((b.drop 2).take 1), leN ((b.drop 3).take 4), []⟩
def datN (x : Xt) : Nat := if x.kind = 2 then (x.len * 32).toNat else 0
def nextX (b : List UInt8) : Xt × List UInt8 := if b.length < 7 then (Xt.zero, b) else
  if 0 < datN (hdR b) ∧ datN (hdR b) ≤ (b.drop 7).length then ({ hdR b with data := (b.drop 7).take (datN (hdR b)) }, (b.drop 7).drop (datN (hdR b))) else (hdR b, b.drop 7)
theorem unpack_hd {b : List UInt8} (h : 7 ≤ b.length) : unpackS [98, 98, 98, 119] (b.take 7) = some [leN (b.take 1), leN ((b.drop 1).take 1), leN ((b.drop 2).take 1), leN ((b.drop 3).take 4)] := by
  have e : okT = fun (b : List UInt8) (w : Int) => mayB 0 w && decide (w ≤ b.length) := rfl
  match b, h with
  | a1 :: a2 :: a3 :: a4 :: a5 :: a6 :: a7 :: r, _ =>
    simp [unpackS, sizeL, okT, mayB]
theorem hdR_bounds (b : List UInt8) : 0 ≤ (hdR b).lba ∧ (hdR b).lba < 256 ∧ 0 ≤ (hdR b).len ∧ (hdR b).len < 256 ∧ 0 ≤ (hdR b).kind ∧ (hdR b).kind < 256 ∧ 0 ≤ (hdR b).gen ∧ (hdR b).gen < 4294967296 := by
  have a1 := leN_lt (b.take 1)
  have a2 := leN_lt ((b.drop 1).take 1)
  have a3 := leN_lt ((b.drop 2).take 1)
  have a4 := leN_lt ((b.drop 3).take 4)
  have p : ∀ (l : List UInt8) (n : Nat), 256 ^ (l.take n).length ≤ 256 ^ n := fun l n => Nat.pow_le_pow_right (by decide) (by simp; omega)
  have p1 := p b 1
  have p2 := p (b.drop 1) 1
  have p3 := p (b.drop 2) 1
  have p4 := p (b.drop 3) 4
  simp only [hdR]
  omega
@[simp] def sp_extdata (x : Xt) : Option (V × List Tip) := sp_data x
def D18 : Orc := (((Orc.nil.add n_extent_Check (sp1 sp_extOk)).add n_le_Unpack (sp2 sp_unpack)).add n_extent_data (sp1 sp_data)).add n_bytes_Clone (sp1 sp_clone)
theorem sp_clone_ok : EOk Tryz.prog n_bytes_Clone (sp1 sp_clone) := sp1_ok fun l r h => by
  simp only [sp_clone] at h
  split at h <;> cases h
  exact c_clone l (by assumption)
theorem sp_data_ok : EOk Tryz.prog n_extent_data (sp1 sp_data) := sp1_ok fun x r h => by
  simp only [sp_data] at h
  split at h <;> cases h
  rename_i h; exact c_data x h.1 h.2
theorem sp_extOk_ok : EOk Tryz.prog n_extent_Check (sp1 sp_extOk) := sp1_ok fun x r h => by cases h; exact c_ext_Check x
theorem D18_ok : OOk Tryz.prog D18 := (((OOk.nil.add sp_extOk_ok).add sp_unpack_ok).add sp_data_ok).add sp_clone_ok
set_option maxRecDepth 4000 in
theorem c_ext_Read1 (m : Mem) (p : Nat) (b : List UInt8) (hb : b.length ≤ 2 ^ 40) (hp : m.boxes[p]? = some [enc b]) :
    Loc Tryz.prog n_extent_Read_1 [.ptr p 0] m (.tuple [enc (nextX b).1, enc (decide (7 ≤ b.length) && extOk (nextX b).1)]) { m with boxes := m.boxes.set p [enc (nextX b).2] } := by
  refine Loc.ofC D18_ok hm F_extent_Read_1_ok (by simp [F_extent_Read_1]) (.inr ⟨_, rfl, by simp⟩) m.boxes.length m.tips.length (Nat.le_refl _) (Nat.le_refl _) fun hu => ?_
  have hpl : p < m.boxes.length := (List.getElem?_eq_some_iff.1 hp).1
  have hp' : m.boxes[p]? = some [.lit 1 (b.map cs)] := hp
  have hset : m.boxes.set p [.lit 1 (b.map cs)] = m.boxes := setC_self hp'
  obtain ⟨f1, f2, f3, f4, f5, f6, f7⟩ := box_facts hpl
  have hus : ∀ l : List UInt8, underX m.boxes.length m.tips.length (m.boxes.set p [.lit 1 (l.map cs)]) = true := fun l => underX_set hu (by simp only [underL, V.under, Bool.and_true]; exact under_cs _ _ l)
  have hus2 : ∀ n : Nat, underX m.boxes.length m.tips.length (m.boxes.set p [.lit 1 ((b.map cs).drop n)]) = true := fun n => by rw [← List.map_drop]; exact hus _
  by_cases h7 : b.length < 7
  · have h7' : (b.length : Int) < 7 := by omega
    have hn : nextX b = (Xt.zero, b) := by simp [nextX, h7]
    simp [F_extent_Read_1, D18, f1, hp', h7', hn, Xt.zero, hu, hset, Nat.not_le.2 h7]
  · have h7' : ¬ (b.length : Int) < 7 := by omega
    have hp1 := unpack_hd (b := b) (by omega)
    have hu1 : unpackN [98, 98, 98, 119] (b.take 7) = [leN (b.take 1), leN ((b.drop 1).take 1), leN ((b.drop 2).take 1), leN ((b.drop 3).take 4)] := by simp only [unpackN, hp1]; rfl
    have hu2 : unpackE [98, 98, 98, 119] (b.take 7) = 0 := by simp only [unpackE, hp1]; rfl
    have hbd := hdR_bounds b
    simp only [hdR] at hbd
    have hh : hdR b = ⟨leN (b.take 1), leN ((b.drop 1).take 1), leN ((b.drop 2).take 1), leN ((b.drop 3).take 4), []⟩ := rfl
    generalize leN (b.take 1) = a1 at *
    generalize leN ((b.drop 1).take 1) = a2 at *
    generalize leN ((b.drop 2).take 1) = a3 at *
    generalize leN ((b.drop 3).take 4) = a4 at *
    have w1 := IntWalk.i64_in (a1 : Int) (by omega)
    have w2 := IntWalk.i64_in (a2 : Int) (by omega)
    have w3 := IntWalk.i64_in (a3 : Int) (by omega)
    have w4 := IntWalk.i64_in (a4 : Int) (by omega)
    have g1 : (7 : Int) ≤ b.length := by omega
    have g2 : 7 ≤ b.length := by omega
    by_cases hc : a3 = 2 ∧ 0 < a2 ∧ a2 * 32 ≤ b.length - 7
    · obtain ⟨rfl, hc1, hc2⟩ := hc
      have hd : datN (hdR b) = a2 * 32 := by rw [hh]; simp [datN]; omega
      have hn : nextX b = (⟨a1, a2, 2, a4, (b.drop 7).take (a2 * 32)⟩, (b.drop 7).drop (a2 * 32)) := by
        rw [nextX, if_neg h7, hd, if_pos ⟨by omega, by simp; omega⟩, hh]; rfl
      have h1 : (0 : Int) < a2 * 32 := by omega
      have h2 : (a2 : Int) * 32 ≤ (b.length - 7 : Nat) := by omega
      have h3 : ((a2 : Int) * 32).toNat = a2 * 32 := by omega
      have h4 : (0 : Int) ≤ (a2 : Int) * 32 := by omega
      have w3' : IntKind.i64.wrap 2 = 2 := by decide
      simp [F_extent_Read_1, D18, f1, f2, f3, f4, f5, f6, f7, hp', h7', hu1, hu2, w1, w2, w3', w4, f_bbbw, hus2, g1, g2, h1, h2, h3, h4, hn, Nat.ne_of_lt hpl, -Int.natCast_mul]
      omega
    · have hn : nextX b = (⟨a1, a2, a3, a4, []⟩, b.drop 7) := by
        rw [nextX, if_neg h7, if_neg, hh]
        intro ⟨k1, k2⟩
        rw [hh] at k1 k2
        simp only [datN, List.length_drop] at k1 k2
        apply hc
        split at k1 <;> rename_i e
        · rw [if_pos e] at k2
          omega
        · omega
      by_cases h2 : a3 = 2
      · subst h2
        have w3' : IntKind.i64.wrap 2 = 2 := by decide
        by_cases h3 : 0 < a2
        · have h4 : (0 : Int) < a2 * 32 := by omega
          have h5 : ¬ ((a2 : Int) * 32 ≤ (b.length - 7 : Nat)) := by omega
          simp [F_extent_Read_1, D18, f1, f2, f3, f4, f5, f6, f7, hp', h7', hu1, hu2, w1, w2, w3', w4, f_bbbw, hus2, g1, g2, h4, h5, hn, Nat.ne_of_lt hpl, -Int.natCast_mul]
          omega
        · have h4 : a2 = 0 := by omega
          subst h4
          have w2' : IntKind.i64.wrap 0 = 0 := by decide
          simp [F_extent_Read_1, D18, f1, f2, f3, f4, f5, f6, f7, hp', h7', hu1, hu2, w1, w2', w3', w4, f_bbbw, hus2, g1, g2, hn, Nat.ne_of_lt hpl, -Int.natCast_mul]
      · have h2' : ¬ (a3 : Int) = 2 := by omega
        simp [F_extent_Read_1, D18, f1, f2, f3, f4, f5, f6, f7, hp', h7', hu1, hu2, w1, w2, w3, w4, f_bbbw, hus2, g1, g2, h2', hn, Nat.ne_of_lt hpl, -Int.natCast_mul]
        omega
theorem dec_eq_u8 {v : V} {a : UInt8} (h : dec v = some a) : v = enc a := by
  unfold dec instEncUInt8 at h
  simp only at h
  split at h
  · rename_i n
    split at h
    · rename_i h0
      cases h
      show _ = V.val (.int .u8 _)
      have : n.toNat < 256 := by omega
      rw [show (((UInt8.ofNat n.toNat).toNat : Nat) : Int) = n by simp; omega]
    · cases h
  · cases h
theorem decX_u8 : ∀ {xs : List (List V)} {l : List UInt8}, decX xs = some l → xs = l.map cs
  | [], l, h => by cases h; rfl
  | e :: r, l, h => by
    simp only [decX, Option.bind_eq_some_iff] at h
    obtain ⟨a, h1, l', h2, h3⟩ := h
    cases h3
    have h1' : dc1 e = some a := h1
    unfold dc1 at h1'
    split at h1'
    · rw [decX_u8 h2, dec_eq_u8 h1']; rfl
    · cases h1'
/-- A box of bytes, cut by a closure. -/
def boxB (m : Mem) (p : Nat) : Option (List UInt8) := match m.boxes[p]? with
  | some [.lit 1 xs] => decX xs
  | _ => none
theorem boxB_some {m : Mem} {p : Nat} {b : List UInt8} (h : boxB m p = some b) : m.boxes[p]? = some [enc b] := by
  unfold boxB at h
  split at h
  · rename_i xs e
    rw [e, decX_u8 h]; rfl
  · cases h
@[simp] theorem boxB_of {m : Mem} {p : Nat} {b : List UInt8} (h : m.boxes[p]? = some [.lit 1 (b.map cs)]) : boxB m p = some b := by
  simp [boxB, h, decX_map]
def sp_next : List V → Mem → Option (V × Mem)
  | [.ptr p 0], m => (boxB m p).bind fun b => if b.length ≤ 2 ^ 40 then some (.tuple [enc (nextX b).1, enc (decide (7 ≤ b.length) && extOk (nextX b).1)], { m with boxes := m.boxes.set p [enc (nextX b).2] }) else none
  | _, _ => none
theorem sp_next_ok : EOkL Tryz.prog n_extent_Read_1 sp_next := by
  intro args m v m' h
  unfold sp_next at h
  split at h
  · simp only [Option.bind_eq_some_iff] at h
    obtain ⟨b, hb, h⟩ := h
    split at h <;> cases h
    exact c_ext_Read1 m _ b (by assumption) (boxB_some hb)
  · cases h

/-- So many extents that bytes are. -/
def readN : Nat → List UInt8 → Option (List Xt)
  | 0, b => if b = [] then some [] else none
  | n + 1, b => if 7 ≤ b.length ∧ extOk (nextX b).1 = true then (readN n (nextX b).2).map ((nextX b).1 :: ·) else none
def readX : List UInt8 → Option (List Xt)
  | [] => none
  | c :: b => if c.toNat ≤ 64 then readN c.toNat b else none
def readL (b : List UInt8) : List Xt := (readX b).getD []
def readE (b : List UInt8) : Int := if (readX b).isSome = true then 0 else 70
theorem nextX_length (b : List UInt8) : (nextX b).2.length ≤ b.length := by
  unfold nextX
  split
  · exact Nat.le_refl _
  · split <;> simp <;> omega
def D19 : Orc := Orc.nil.addL n_extent_Read_1 sp_next
theorem D19_ok : OOk Tryz.prog D19 := OOk.nil.addL sp_next_ok
def XReadJ (b0 : List UInt8) (n : Nat) (k : Nat) (s : Nat → V) (m : Mem) : Prop :=
  ∃ (i t : Nat) (bx : List (List V)) (tips : List Tip) (acc : List Xt) (b : List UInt8), i + k = n ∧ acc.length = i ∧ b.length ≤ 2 ^ 40 ∧ readX b0 = (readN k b).map (acc ++ ·) ∧ s 1 = .ptr 0 0 ∧ s 2 = .row t 5 (acc.map cs) ∧ s 3 = .val (.int .i64 0) ∧ s 4 = .val (.int .i64 n) ∧ s 5 = .func n_extent_Read_1 [.ptr 0 0] ∧
    m = ⟨[.lit 1 (b.map cs)] :: bx, tips⟩ ∧ tips[t]? = some (109, 5, acc.length)
theorem c_ext_Read (b : List UInt8) (hb : b.length ≤ 2 ^ 40) : Pure Tryz.prog n_extent_Read [enc b] (.tuple [.row 0 5 ((readL b).map cs), enc (readE b)]) [(109, 5, (readL b).length)] := by
  refine Pure.ofR D19_ok hm F_extent_Read_ok (by simp [F_extent_Read]) (by simp [V.res, V.res1]) ?_
  simp [F_extent_Read]
  cases b with
  | nil => 
    refine wp_jumps (fun _ _ _ => False) ?_ (fun _ _ _ h => h.elim)
    simp [F_extent_Read_S0, readL, readE, readX]
  | cons c r =>
    by_cases hc : c.toNat ≤ 64
    · have hc' : ¬ ((64 : Int) < c.toNat) := by omega
      have hw := IntWalk.i64_in (c.toNat : Int) (by omega)
      have rest : ∀ k s m, XReadJ (c :: r) c.toNat k s m → wp Tryz.prog noY D19 F_extent_Read_B0 s m (jumpQ 0 (fun s m => ∃ j, j < k ∧ IW (XReadJ (c :: r) c.toNat j) s m) (Fin [.tmp 2, .tmp 3] fun v m => ∃ t, keepN [t] v (.tuple [.row 0 5 ((readL (c :: r)).map cs), enc (readE (c :: r))]) ∧ m.tips[t]? = some (109, 5, (readL (c :: r)).length))) := by
        intro k s m ⟨i, t, bx, tips, acc, b, hik, hi, hb, hr, h1, h2, h3, h4, h5, hm, ht⟩
        subst hm
        have hbx : boxB ⟨[.lit 1 (b.map cs)] :: bx, tips⟩ 0 = some b := boxB_of rfl
        have htl : t < tips.length := lt_of_some ht
        by_cases hk : k = 0
        · subst hk
          have e1 : acc.length = c.toNat := by omega
          cases b with
          | nil =>
            have e2 : readX (c :: r) = some acc := by simp [hr, readN]
            simp [F_extent_Read_B0, D19, h1, h2, h3, h4, h5, e1, readL, readE, e2]
            first | exact ht | exact ⟨t, ⟨rfl, rfl⟩, by rw [← e1]; exact ht⟩ | (rw [← e1]; exact ht)
          | cons d b =>
            have e2 : readX (c :: r) = none := by simp [hr, readN]
            simp [F_extent_Read_B0, D19, h1, h2, h3, h4, h5, e1, readL, readE, e2]
        · have e1 : ¬ (acc.length : Int) = c.toNat := by omega
          obtain ⟨k, rfl⟩ : ∃ k', k = k' + 1 := ⟨k - 1, by omega⟩
          cases hx : decide (7 ≤ b.length) && extOk (nextX b).1 with
          | false =>
            have e2 : readX (c :: r) = none := by
              rw [hr, readN, if_neg]
              · rfl
              · simpa using hx
            simp [F_extent_Read_B0, D19, h1, h2, h3, h4, h5, e1, readL, readE, e2, sp_next, hbx, hb, hx]
          | true =>
            have e2 : readX (c :: r) = (readN k (nextX b).2).map ((acc ++ [(nextX b).1]) ++ ·) := by
              rw [hr, readN, if_pos (by simpa using hx)]
              cases readN k (nextX b).2 <;> simp
            have e3 := nextX_length b
            simp [F_extent_Read_B0, D19, h1, h2, h3, h4, h5, e1, sp_next, hbx, hb, hx, ht]
            refine ⟨⟨by rw [List.getElem?_append_left htl]; exact ht, by omega⟩, k, by omega, IW.of (show XReadJ _ _ _ _ _ from ⟨i + 1, t, _, _, acc ++ [(nextX b).1], (nextX b).2, by omega, by simp [hi], by omega, e2, by simpa using h1, by simp, by simpa using h3, by simpa using h4, by simpa using h5, rfl, ?_⟩)⟩
            simp [tipset htl]
      refine wp_jumps (XReadJ (c :: r) c.toNat) ?_ ?_
      · simp [F_extent_Read_S0, D19, hc', hw]
        refine ⟨fun _ => ⟨by omega, wp_mono _ (fun e s m h => ?_) (rest c.toNat _ _ ⟨0, 0, _, _, [], r, by omega, rfl, ?_, ?_, by simp, by simp, by simp, by simp, by simp, rfl, rfl⟩)⟩, fun h => by omega⟩
        · cases e with
          | goto l => exact ⟨h.1, h.2.elim fun j hj => ⟨j, hj.2⟩⟩
          | _ => exact h
        · simp at hb; omega
        · simp [readX, hc]
      · intro k s m hJ
        simp [F_extent_Read_J0]
        exact rest k s m hJ
    · have hc' : (64 : Int) < c.toNat := by omega
      refine wp_jumps (fun _ _ _ => False) ?_ (fun _ _ _ h => h.elim)
      simp [F_extent_Read_S0, readL, readE, readX, hc, hc']
end Go.Av

namespace Go.Av
open Enc (enc dec)
open Cel (cs dc)
open Go.Proofs Pl

theorem leN_leB (v : Nat) : ∀ w, leN (leB v w) = v % 256 ^ w
  | 0 => by rw [leB_zero, Nat.pow_zero, Nat.mod_one]; rfl
  | w + 1 => by
    rw [leB_succ, leN_append, leN_leB v w, leB_length]
    simp only [leN, Nat.mul_zero, Nat.add_zero]
    rw [Nat.pow_succ, Nat.mod_mul, show (UInt8.ofNat (v / 256 ^ w)).toNat = v / 256 ^ w % 256 by simp]
theorem leB_cons (v w : Nat) : leB v (w + 1) = UInt8.ofNat v :: leB (v / 256) w := by
  simp only [leB, List.range_succ_eq_map, List.map_cons, List.map_map, Nat.pow_zero, Nat.div_one]
  congr 1
  refine List.map_congr_left fun i _ => ?_
  simp only [Function.comp, Nat.pow_succ]
  rw [Nat.mul_comm, Nat.div_div_eq_div_mul]
theorem leB_leN : ∀ l : List UInt8, leB (leN l) l.length = l
  | [] => rfl
  | b :: l => by
    have := b.toNat_lt
    have e : UInt8.ofNat (b.toNat + 256 * leN l) = b := by
      apply UInt8.toNat_inj.1
      simp
    rw [List.length_cons, leB_cons, leN, e, show (b.toNat + 256 * leN l) / 256 = leN l by omega, leB_leN l]
theorem hdX_hdR {b : List UInt8} (h : 7 ≤ b.length) (d : List UInt8) : hdX { hdR b with data := d } = b.take 7 := by
  match b, h with
  | a1 :: a2 :: a3 :: a4 :: a5 :: a6 :: a7 :: r, _ =>
    have h1 := leB_leN [a1]
    have h2 := leB_leN [a2]
    have h3 := leB_leN [a3]
    have h4 := leB_leN [a4, a5, a6, a7]
    simp only [List.length_cons, List.length_nil] at h1 h2 h3 h4
    simp only [hdX, hdR, Int.toNat_natCast, List.take_succ_cons, List.take_zero, List.drop_succ_cons, List.drop_zero]
    rw [h1, h2, h3, h4]
    rfl
theorem hdR_hdX {x : Xt} (h : extOk x = true) (r : List UInt8) : hdR (hdX x ++ r) = { x with data := [] } := by
  have h := extOk_iff.1 h
  obtain ⟨a, b, c, d, e⟩ := x
  simp only at h
  have e1 : (hdX ⟨a, b, c, d, e⟩ ++ r) = leB a.toNat 1 ++ (leB b.toNat 1 ++ (leB c.toNat 1 ++ (leB d.toNat 4 ++ r))) := by simp [hdX]
  have t : ∀ v w r, (leB v w ++ r).take w = leB v w := fun v w r => by rw [List.take_left' (leB_length v w)]
  have d' : ∀ v w r, (leB v w ++ r).drop w = r := fun v w r => by rw [List.drop_left' (leB_length v w)]
  have d2 : (hdX ⟨a, b, c, d, e⟩ ++ r).drop 2 = leB c.toNat 1 ++ (leB d.toNat 4 ++ r) := by
    rw [show (2 : Nat) = 1 + 1 from rfl, ← List.drop_drop, e1, d', d']
  have d3 : (hdX ⟨a, b, c, d, e⟩ ++ r).drop 3 = leB d.toNat 4 ++ r := by
    rw [show (3 : Nat) = 2 + 1 from rfl, ← List.drop_drop, d2, d']
  rw [hdR, d2, d3, e1, t, d', t, t, t]
  simp only [leN_leB, Xt.mk.injEq, and_true]
  omega
/-- An extent's bytes, read again. -/
theorem next_wr {x : Xt} (h : extOk x = true) (r : List UInt8) : nextX (wr1 x ++ r) = (x, r) := by
  have h7 := hdX_length x
  have e : wr1 x ++ r = hdX x ++ (x.data ++ r) := by simp [wr1]
  have hh := hdR_hdX h (x.data ++ r)
  have hd : (hdX x ++ (x.data ++ r)).drop 7 = x.data ++ r := by rw [List.drop_left' h7]
  have hl := (extOk_iff.1 h)
  rw [e, nextX, if_neg (by simp; omega), hh, hd]
  by_cases hk : x.kind = 2
  · have hn : datN { x with data := [] } = x.data.length := by
      have := hl.2.2.2.2.2.2.2.2
      rw [if_pos hk] at this
      simp only [datN, hk, if_true]
      omega
    have := hl.2.2.2.2.2.2.2.2
    rw [if_pos hk] at this
    rw [hn, if_pos ⟨by omega, by simp⟩]
    simp
  · have hn : datN { x with data := [] } = 0 := by simp [datN, hk]
    have := hl.2.2.2.2.2.2.2.2
    rw [if_neg hk] at this
    have e0 : x.data = [] := List.eq_nil_of_length_eq_zero (by omega)
    rw [hn, if_neg (by omega), e0]
    simp only [List.nil_append, Prod.mk.injEq, and_true]
    rw [← e0]
theorem wr_next {b : List UInt8} (h7 : 7 ≤ b.length) (h : extOk (nextX b).1 = true) : wr1 (nextX b).1 ++ (nextX b).2 = b := by
  rw [nextX, if_neg (by omega)] at h ⊢
  split
  · rename_i hc
    rw [wr1, hdX_hdR h7, List.append_assoc, List.take_append_drop, List.take_append_drop]
  · have := hdX_hdR h7 []
    have e : ({ hdR b with data := [] } : Xt) = hdR b := rfl
    rw [e] at this
    rw [wr1, this]
    show b.take 7 ++ [] ++ b.drop 7 = b
    rw [List.append_nil, List.take_append_drop]
theorem readN_some : ∀ {n : Nat} {b : List UInt8} {l : List Xt}, readN n b = some l ↔ l.length = n ∧ l.all extOk = true ∧ l.flatMap wr1 = b
  | 0, b, l => by
    simp only [readN]
    constructor
    · intro h
      split at h
      · rename_i e; cases h; subst e; exact ⟨rfl, rfl, rfl⟩
      · cases h
    · intro ⟨h1, h2, h3⟩
      have e := List.eq_nil_of_length_eq_zero h1
      subst e
      subst h3
      rfl
  | n + 1, b, l => by
    simp only [readN]
    constructor
    · intro h
      split at h
      · rename_i hc
        simp only [Option.map_eq_some_iff] at h
        obtain ⟨l', h1, rfl⟩ := h
        obtain ⟨k1, k2, k3⟩ := readN_some.1 h1
        refine ⟨by simp [k1], by simp [hc.2, k2], ?_⟩
        rw [List.flatMap_cons, k3, wr_next hc.1 hc.2]
      · cases h
    · intro ⟨h1, h2, h3⟩
      cases l with
      | nil => cases h1
      | cons x l =>
        simp only [List.all_cons, Bool.and_eq_true] at h2
        rw [List.flatMap_cons] at h3
        subst h3
        rw [next_wr h2.1]
        have : 7 ≤ (wr1 x ++ l.flatMap wr1).length := by simp [wr1, hdX_length]
        rw [if_pos ⟨this, h2.1⟩]
        simp only
        rw [(readN_some (n := n)).2 ⟨by simpa using h1, h2.2, rfl⟩]
        rfl
theorem readX_some {b : List UInt8} {l : List Xt} : readX b = some l ↔ wrOk l = true ∧ wrB l = b := by
  cases b with
  | nil => simp [readX, wrB]
  | cons c b =>
    simp only [readX, wrOk, wrB, Bool.and_eq_true, decide_eq_true_eq, List.cons.injEq]
    constructor
    · intro h
      split at h
      · obtain ⟨h1, h2, h3⟩ := readN_some.1 h
        refine ⟨⟨by omega, h2⟩, ?_, h3⟩
        rw [h1]
        simp
      · cases h
    · intro ⟨⟨h1, h2⟩, h3, h4⟩
      subst h3
      have : (UInt8.ofNat l.length).toNat = l.length := by simp; omega
      rw [this, if_pos h1]
      exact readN_some.2 ⟨rfl, h2, h4⟩
@[simp] def sp_write (l : List Xt) : Option (V × List Tip) := some (.tuple [.row 0 1 ((writeB l).map cs), enc (writeE l)], [(5, 1, (writeB l).length)])
end Go.Av

namespace Go.Av
open Enc (enc dec)
open Cel (cs dc)
open Go.Proofs Pl

/-- Extents one behind the other, from a block on; where they end. -/
def mapFrom (a : Int) (prev : Option Xt) : List Xt → Option Int
  | [] => some a
  | x :: l => if extOk x = true ∧ x.lba = a ∧ (prev.map fun y => joins y x) ≠ some true then mapFrom (a + x.len) (some x) l else none
def mapOk (n : Int) (l : List Xt) : Bool := decide (l ≠ []) && decide (mapFrom 0 none l = some n)
theorem mapFrom_le : ∀ {l : List Xt} {a b : Int} {p : Option Xt}, mapFrom a p l = some b → 0 ≤ a → l ≠ [] → 1 ≤ b ∧ b ≤ 64
  | [], _, _, _, _, _, h => absurd rfl h
  | x :: l, a, b, p, h, ha, _ => by
    simp only [mapFrom] at h
    split at h
    · rename_i hc
      have hx := extOk_iff.1 hc.1
      cases l with
      | nil => simp only [mapFrom, Option.some.injEq] at h; omega
      | cons y l => exact mapFrom_le h (by omega) (by simp)
    · cases h
theorem mapOk_le {n : Int} {l : List Xt} (h : mapOk n l = true) : 1 ≤ n ∧ n ≤ 64 := by
  simp only [mapOk, Bool.and_eq_true, decide_eq_true_eq] at h
  exact mapFrom_le h.2 (Int.le_refl _) h.1
def prevOf (l : List Xt) (i : Nat) : Option Xt := if i = 0 then none else l[i - 1]?
@[simp] theorem prevOf_succ (l : List Xt) (i : Nat) : prevOf l (i + 1) = l[i]? := by simp [prevOf]

@[simp] def sp_joins (x y : Xt) : Option (V × List Tip) := some (enc (joins x y), [])
theorem sp_joins_ok : EOk Tryz.prog n_extent_Joins (sp2 sp_joins) := sp2_ok fun x y r h => by cases h; exact c_ext_Joins x y
def D21 : Orc := (Orc.nil.add n_extent_Check (sp1 sp_extOk)).add n_extent_Joins (sp2 sp_joins)
theorem D21_ok : OOk Tryz.prog D21 := (OOk.nil.add sp_extOk_ok).add sp_joins_ok
def MCheckI (n : Int) (l : List Xt) (k : Nat) (s : Nat → V) (m : Mem) : Prop :=
  ∃ (i : Nat) (a : Int), i + k = l.length ∧ 0 ≤ a ∧ a ≤ 64 ∧ mapFrom 0 none l = mapFrom a (prevOf l i) (l.drop i) ∧ s 0 = .val (.int .i64 n) ∧ s 1 = .lit 5 (l.map cs) ∧ s 5 = .val (.int .i64 a) ∧ s 8 = .lit 5 (l.map cs) ∧ s 9 = .val (.int .i64 l.length) ∧ s 10 = .val (.int .i64 i)
theorem c_map_Check (n : Int) (l : List Xt) (hl : l.length ≤ 2 ^ 40) : Pure Tryz.prog n_extmap_Check [enc n, enc l] (enc (mapOk n l)) [] := by
  refine Pure.ofC D21_ok hm F_extmap_Check_ok (by simp [F_extmap_Check]) rfl ?_
  simp [F_extmap_Check]
  refine wp_loop (MCheckI n l) l.length (IW.of ⟨0, 0, by omega, by omega, by omega, rfl, by simp, by simp, by simp, by simp, by simp, by simp⟩) fun k s m ⟨i, a, hik, ha1, ha2, hr, h0, h1, h5, h8, h9, h10⟩ => ?_
  by_cases hi : i < l.length
  · have hg : l[i]? = some l[i] := List.getElem?_eq_getElem hi
    have w1 := IntWalk.i64_in ((i : Int) + 1) (by omega)
    rw [List.drop_eq_getElem_cons hi, mapFrom] at hr
    obtain ⟨x, hxe⟩ : ∃ x, x = l[i] := ⟨_, rfl⟩
    rw [← hxe] at hr
    cases hx : extOk x with
    | false =>
      have e : mapOk n l = false := by simp [mapOk, hr, hx]
      simp [F_extmap_Check_L0, D21, h0, h1, h5, h8, h9, h10, hi, hg, ← hxe, hx, e]
    | true =>
      have hxb := extOk_iff.1 hx
      have w2 := IntWalk.i64_in (a + x.len) (by omega)
      by_cases hla : x.lba = a
      · subst hla
        by_cases h0i : i = 0
        · subst h0i
          simp [hx, prevOf] at hr
          simp [F_extmap_Check_L0, D21, h0, h1, h5, h8, h9, h10, hi, hg, ← hxe, hx, w2]
          refine ⟨k - 1, by omega, IW.of (show MCheckI n l _ _ _ from ⟨1, x.lba + x.len, by omega, by omega, by omega, ?_, by simpa using h0, by simpa using h1, by simp [w2], by simpa using h8, by simpa using h9, by simp; decide⟩)⟩
          rw [hr, prevOf, if_neg (by omega), hg, ← hxe, List.drop_one]
        · have hi1 : i - 1 < l.length := by omega
          have hg1 : l[i - 1]? = some l[i - 1] := List.getElem?_eq_getElem hi1
          have w3 := IntWalk.i64_in ((i : Int) - 1) (by omega)
          have w4 : ((i : Int) - 1).toNat = i - 1 := by omega
          have w5 : (1 : Int) ≤ i := by omega
          have w6 : (0 : Int) < i := by omega
          simp only [prevOf, if_neg h0i, hg1] at hr
          obtain ⟨y, hye⟩ : ∃ y, y = l[i - 1] := ⟨_, rfl⟩
          rw [← hye] at hr
          cases hj : joins y x with
          | true =>
            have e : mapOk n l = false := by simp [mapOk, hr, hj]
            simp [F_extmap_Check_L0, D21, h0, h1, h5, h8, h9, h10, hi, hg, ← hxe, hx, hg1, ← hye, w3, w4, w5, w6, h0i, hj, e]
          | false =>
            simp [hx, hj] at hr
            simp [F_extmap_Check_L0, D21, h0, h1, h5, h8, h9, h10, hi, hg, ← hxe, hx, hg1, ← hye, w2, w3, w4, w5, w6, h0i, hj]
            refine fun _ => ⟨k - 1, by omega, IW.of (show MCheckI n l _ _ _ from ⟨i + 1, x.lba + x.len, by omega, by omega, by omega, ?_, by simpa using h0, by simpa using h1, by simp [w2], by simpa using h8, by simpa using h9, by simp [w1]⟩)⟩
            rw [hr, prevOf_succ, hg, ← hxe]
      · have e : mapOk n l = false := by simp [mapOk, hr, hla]
        simp [F_extmap_Check_L0, D21, h0, h1, h5, h8, h9, h10, hi, hg, ← hxe, hx, hla, e]
  · have hil : i = l.length := by omega
    rw [hil, List.drop_length, mapFrom] at hr
    have e : mapOk n l = (decide (0 < l.length) && decide (a = n)) := by
      rw [mapOk, hr]
      cases l <;> simp
    simp [F_extmap_Check_L0, D21, h0, h1, h5, h8, h9, h10, hi, e]
    exact ⟨fun h _ => h, fun h h' => by simp [h] at h'⟩
end Go.Av

namespace Go.Av
open Enc (enc dec)
open Cel (cs dc)
open Go.Proofs Pl

def newL (n : Int) : List Xt := if 1 ≤ n ∧ n ≤ 64 then [⟨0, n, 0, 0, []⟩] else []
def newE (n : Int) : Int := if 1 ≤ n ∧ n ≤ 64 then 0 else 81
theorem c_map_New (n : Int) : Pure Tryz.prog n_extmap_New [enc n] (.tuple [.row 0 5 ((newL n).map cs), enc (newE n)]) [(109, 5, (newL n).length)] := by
  refine Pure.ofR OOk.nil hm F_extmap_New_ok (by simp [F_extmap_New]) (by simp [V.res, V.res1]) ?_
  by_cases h1 : 1 ≤ n
  · have h1' : ¬ n < 1 := by omega
    by_cases h2 : n ≤ 64
    · have h2' : ¬ 64 < n := by omega
      simp [F_extmap_New, newL, newE, h1, h2, h1', h2']
    · have h2' : 64 < n := by omega
      simp [F_extmap_New, newL, newE, h1, h2, h1', h2']
  · have h1' : n < 1 := by omega
    simp [F_extmap_New, newL, newE, h1, h1']
theorem c_st_within (n a b : Int) : Pure Tryz.prog n_state_within [enc n, enc a, enc b] (enc (decide (a ≤ n ∧ n ≤ b))) [] := by
  refine Pure.ofC OOk.nil hm F_state_within_ok (by simp [F_state_within]) rfl ?_
  simp [F_state_within]
  by_cases h : a ≤ n
  · simp [h]
    try omega
  · simp [h]
    try omega

theorem c_upto1 (m : Mem) (p : Nat) (g : Int) (x : Xt) (hp : m.boxes[p]? = some [.val (.int .i64 g)]) : Loc Tryz.prog n_state_upto_1 [enc x, .ptr p 0] m (enc (decide (g < x.gen))) m := by
  refine Loc.ofC OOk.nil hm F_state_upto_1_ok (by simp [F_state_upto_1]) (.inl rfl) m.boxes.length m.tips.length (Nat.le_refl _) (Nat.le_refl _) fun hu => ?_
  have hpl : p < m.boxes.length := lt_of_some hp
  have f1 : ∀ (b : List (List V)), (m.boxes ++ b)[p]? = m.boxes[p]? := fun b => List.getElem?_append_left hpl
  clear hpl
  simp [F_state_upto_1, f1, hp, hu]
def sp_upto1 : List V → Mem → Option (V × Mem)
  | [a, .ptr p 0], m => (dec a : Option Xt).bind fun x => (boxI m p).map fun g => (enc (decide (g < x.gen)), m)
  | _, _ => none
theorem sp_upto1_ok : EOkL Tryz.prog n_state_upto_1 sp_upto1 := by
  intro args m v m' h
  unfold sp_upto1 at h
  split at h
  · simp only [Option.bind_eq_some_iff, Option.map_eq_some_iff] at h
    obtain ⟨x, hx, g, hg, h⟩ := h
    cases h
    exact (c_upto1 m _ g x (boxI_some hg)).wk (wk_dec (WkL.refl _) hx)
  · cases h
/-- The first one that is later. -/
def gtIdx (g : Int) (l : List Xt) : Int := match l.findIdx? (fun x => decide (g < x.gen)) with
  | some i => i
  | none => -1
def anyGt (g : Int) (l : List Xt) : Bool := l.any (fun x => decide (g < x.gen))
theorem gtIdx_nonneg (g : Int) (l : List Xt) : decide (0 ≤ gtIdx g l) = anyGt g l := by
  unfold gtIdx anyGt
  cases h : l.findIdx? (fun x => decide (g < x.gen)) with
  | none =>
    have h1 := List.findIdx?_eq_none_iff.1 h
    have : l.any (fun x => decide (g < x.gen)) = false := by
      rw [List.any_eq_false]
      intro x hx
      simpa using h1 x hx
    rw [this]; rfl
  | some i =>
    have h1 := List.findIdx?_eq_some_iff_getElem.1 h
    obtain ⟨hi, hp, _⟩ := h1
    have : l.any (fun x => decide (g < x.gen)) = true := List.any_eq_true.2 ⟨l[i], List.getElem_mem hi, hp⟩
    rw [this]
    simp
def D23 : Orc := Orc.nil.addL n_state_upto_1 sp_upto1
theorem D23_ok : OOk Tryz.prog D23 := OOk.nil.addL sp_upto1_ok
def IndexFI (m0 : Mem) (l : List Xt) (p : Nat) (g : Int) (k : Nat) (s : Nat → V) (m : Mem) : Prop :=
  ∃ (i : Nat), i + k = l.length ∧ (∀ j (hj : j < l.length), j < i → ¬ g < l[j].gen) ∧ s 0 = .lit 5 (l.map cs) ∧ s 1 = .func n_state_upto_1 [.ptr p 0] ∧ s 7 = .val (.int .i64 l.length) ∧ s 8 = .val (.int .i64 i) ∧ m = m0
theorem c_indexF (m : Mem) (p : Nat) (g : Int) (l : List Xt) (hl : l.length ≤ 2 ^ 40) (hp : m.boxes[p]? = some [.val (.int .i64 g)]) : Loc Tryz.prog n_slices_IndexFunc_Extent [enc l, .func n_state_upto_1 [.ptr p 0]] m (enc (gtIdx g l)) m := by
  refine Loc.ofC D23_ok hm F_slices_IndexFunc_Extent_ok (by simp [F_slices_IndexFunc_Extent]) (.inl rfl) m.boxes.length m.tips.length (Nat.le_refl _) (Nat.le_refl _) fun hu => ?_
  have hb := boxI_of hp
  simp [F_slices_IndexFunc_Extent]
  refine wp_loop (IndexFI m l p g) l.length (IW.of ⟨0, by omega, by simp, by simp, by simp, by simp, by simp, rfl⟩) fun k s m' ⟨i, hik, hno, h0, h1, h7, h8, hm'⟩ => ?_
  subst hm'
  by_cases hi : i < l.length
  · have hg : l[i]? = some l[i] := List.getElem?_eq_getElem hi
    have w1 := IntWalk.i64_in ((i : Int) + 1) (by omega)
    by_cases hx : g < l[i].gen
    · have e : gtIdx g l = i := by
        unfold gtIdx
        rw [List.findIdx?_eq_some_iff_getElem.2 ⟨hi, by simpa using hx, fun j hj => by simpa using hno j (by omega) hj⟩]
      simp [F_slices_IndexFunc_Extent_L0, D23, h0, h1, h7, h8, hi, hg, sp_upto1, hb, hx, hu, e]
    · simp [F_slices_IndexFunc_Extent_L0, D23, h0, h1, h7, h8, hi, hg, sp_upto1, hb, hx, w1]
      refine ⟨k - 1, by omega, IW.of (show IndexFI m' l p g _ _ _ from ⟨i + 1, by omega, fun j hj hji => ?_, by simpa using h0, by simpa using h1, by simpa using h7, by simp, rfl⟩)⟩
      by_cases hj' : j = i
      · subst hj'; exact hx
      · exact hno j hj (by omega)
  · have e : gtIdx g l = -1 := by
      unfold gtIdx
      rw [List.findIdx?_eq_none_iff.2]
      intro x hx
      obtain ⟨j, hj, rfl⟩ := List.getElem_of_mem hx
      simpa using hno j hj (by omega)
    simp [F_slices_IndexFunc_Extent_L0, D23, h0, h1, h7, h8, hi, hu, e]
def sp_indexF : List V → Mem → Option (V × Mem)
  | [a, .func 50 [.ptr p 0]], m => (dec a : Option (List Xt)).bind fun l => (boxI m p).bind fun g => if l.length ≤ 2 ^ 40 then some (enc (gtIdx g l), m) else none
  | _, _ => none
theorem sp_indexF_ok : EOkL Tryz.prog n_slices_IndexFunc_Extent sp_indexF := by
  intro args m v m' h
  unfold sp_indexF at h
  split at h
  · simp only [Option.bind_eq_some_iff] at h
    obtain ⟨x, hx, g, hg, h⟩ := h
    split at h <;> cases h
    exact (c_indexF m _ g x (by assumption) (boxI_some hg)).wk (wk_dec (WkL.refl _) hx)
  · cases h
def D24 : Orc := Orc.nil.addL n_slices_IndexFunc_Extent sp_indexF
theorem D24_ok : OOk Tryz.prog D24 := OOk.nil.addL sp_indexF_ok
theorem c_containsF (m : Mem) (p : Nat) (g : Int) (l : List Xt) (hl : l.length ≤ 2 ^ 40) (hp : m.boxes[p]? = some [.val (.int .i64 g)]) : Loc Tryz.prog n_slices_ContainsFunc_Extent [enc l, .func n_state_upto_1 [.ptr p 0]] m (enc (anyGt g l)) m := by
  refine Loc.ofC D24_ok hm F_slices_ContainsFunc_Extent_ok (by simp [F_slices_ContainsFunc_Extent]) (.inl rfl) m.boxes.length m.tips.length (Nat.le_refl _) (Nat.le_refl _) fun hu => ?_
  have hb := boxI_of hp
  have e := gtIdx_nonneg g l
  simp [F_slices_ContainsFunc_Extent, D24, sp_indexF, hb, decX_map, hl, hu, e]
def sp_containsF : List V → Mem → Option (V × Mem)
  | [a, .func 50 [.ptr p 0]], m => (dec a : Option (List Xt)).bind fun l => (boxI m p).bind fun g => if l.length ≤ 2 ^ 40 then some (enc (anyGt g l), m) else none
  | _, _ => none
theorem sp_containsF_ok : EOkL Tryz.prog n_slices_ContainsFunc_Extent sp_containsF := by
  intro args m v m' h
  unfold sp_containsF at h
  split at h
  · simp only [Option.bind_eq_some_iff] at h
    obtain ⟨x, hx, g, hg, h⟩ := h
    split at h <;> cases h
    exact (c_containsF m _ g x (by assumption) (boxI_some hg)).wk (wk_dec (WkL.refl _) hx)
  · cases h
def uptoOk (n : Int) (l : List Xt) (g : Int) : Bool := mapOk n l && !anyGt g l
@[simp] def sp_mapOk (n : Int) (l : List Xt) : Option (V × List Tip) := if l.length ≤ 2 ^ 40 then some (enc (mapOk n l), []) else none
theorem sp_mapOk_ok : EOk Tryz.prog n_extmap_Check (sp2 sp_mapOk) := sp2_ok fun n l r h => by
  simp only [sp_mapOk] at h
  split at h <;> cases h
  exact c_map_Check n l (by assumption)
def D25 : Orc := (Orc.nil.add n_extmap_Check (sp2 sp_mapOk)).addL n_slices_ContainsFunc_Extent sp_containsF
theorem D25_ok : OOk Tryz.prog D25 := (OOk.nil.add sp_mapOk_ok).addL sp_containsF_ok
theorem c_upto (n : Int) (l : List Xt) (g : Int) (hl : l.length ≤ 2 ^ 40) : Pure Tryz.prog n_state_upto [enc n, enc l, enc g] (enc (uptoOk n l g)) [] := by
  refine Pure.ofC D25_ok hm F_state_upto_ok (by simp [F_state_upto]) rfl ?_
  cases h : mapOk n l <;> simp [F_state_upto, D25, sp_containsF, hl, h, uptoOk, decX_map, boxI]
end Go.Av

namespace Go.Av
open Enc (enc dec)
open Cel (cs dc)
open Go.Proofs Pl

/-- Is what two extents share alike? -/
def keptOne (x y : Xt) : Bool := !cutOk y x.lba x.len ||
  (decide ((cutX x (cutX y x.lba x.len).lba (cutX y x.lba x.len).len).kind = (cutX y x.lba x.len).kind) && decide ((cutX x (cutX y x.lba x.len).lba (cutX y x.lba x.len).len).gen = (cutX y x.lba x.len).gen) && decide ((cutX x (cutX y x.lba x.len).lba (cutX y x.lba x.len).len).data = (cutX y x.lba x.len).data))
def keptX (was l : List Xt) (g : Int) : Bool := l.all fun x => decide (g < x.gen) || was.all (keptOne x)
@[simp] def sp_cut (x : Xt) (lba n : Int) : Option (V × List Tip) := some (.tuple [enc (cutX x lba n), enc (cutOk x lba n)], [])
theorem sp_cut_ok : EOk Tryz.prog n_extent_Cut (sp3 sp_cut) := sp3_ok fun x a b r h => by cases h; exact c_ext_Cut x a b
theorem sp_Equal_ok : EOk Tryz.prog n_bytes_Equal (sp2 sp_Equal) := sp2_ok fun a b r h => by cases h; exact c_bytes_Equal a b
def D26 : Orc := (Orc.nil.add n_extent_Cut (sp3 sp_cut)).add n_bytes_Equal (sp2 sp_Equal)
theorem D26_ok : OOk Tryz.prog D26 := (OOk.nil.add sp_cut_ok).add sp_Equal_ok
def KeptI (was l : List Xt) (g : Int) (k : Nat) (s : Nat → V) (m : Mem) : Prop :=
  ∃ (i : Nat), i + k = l.length ∧ (l.take i).all (fun x => decide (g < x.gen) || was.all (keptOne x)) = true ∧ s 0 = .lit 5 (was.map cs) ∧ s 2 = .val (.int .i64 g) ∧ s 15 = .lit 5 (l.map cs) ∧ s 16 = .val (.int .i64 l.length) ∧ s 17 = .val (.int .i64 i)
def KeptJ (was l : List Xt) (g : Int) (i : Nat) (x : Xt) (k : Nat) (s : Nat → V) (m : Mem) : Prop :=
  ∃ (j p : Nat), j + k = was.length ∧ (was.take j).all (keptOne x) = true ∧ s 0 = .lit 5 (was.map cs) ∧ s 2 = .val (.int .i64 g) ∧ s 15 = .lit 5 (l.map cs) ∧ s 16 = .val (.int .i64 l.length) ∧ s 17 = .val (.int .i64 i) ∧
    s 25 = .lit 5 (was.map cs) ∧ s 26 = .val (.int .i64 was.length) ∧ s 27 = .val (.int .i64 j) ∧ s 8 = .ptr p 0 ∧ m.boxes[p]? = some (cs x)
set_option maxRecDepth 4000 in
theorem c_kept (was l : List Xt) (g : Int) (hw : was.length ≤ 2 ^ 40) (hl : l.length ≤ 2 ^ 40) : Pure Tryz.prog n_state_kept [enc was, enc l, enc g] (enc (keptX was l g)) [] := by
  refine Pure.ofC D26_ok hm F_state_kept_ok (by simp [F_state_kept]) rfl ?_
  simp [F_state_kept]
  refine wp_loop (KeptI was l g) l.length (IW.of ⟨0, by omega, by simp, by simp, by simp, by simp, by simp, by simp⟩) fun k s m ⟨i, hik, hall, h0, h2, h15, h16, h17⟩ => ?_
  by_cases hi : i < l.length
  · have hg : l[i]? = some l[i] := List.getElem?_eq_getElem hi
    have ht1 : l.take (i + 1) = l.take i ++ [l[i]] := by rw [List.take_add_one, hg]; rfl
    have w1 := IntWalk.i64_in ((i : Int) + 1) (by omega)
    by_cases hx : g < l[i].gen
    · simp [F_state_kept_L1, D26, h0, h2, h15, h16, h17, hi, hg, hx, w1]
      refine ⟨k - 1, by omega, IW.of (show KeptI was l g _ _ _ from ⟨i + 1, by omega, ?_, by simpa using h0, by simpa using h2, by simpa using h15, by simpa using h16, by simp⟩)⟩
      rw [ht1, List.all_append, hall]
      simp [hx]
    · simp [F_state_kept_L1, D26, h0, h2, h15, h16, h17, hi, hg, hx]
      refine wp_loop (KeptJ was l g i l[i]) was.length (IW.of ⟨0, m.boxes.length, by omega, by simp, by simpa using h0, by simpa using h2, by simpa using h15, by simpa using h16, by simpa using h17, by simp, by simp, by simp, by simp, by simp⟩) fun k' s' m' ⟨j, p, hjk, hall', h0, h2, h15, h16, h17, h25, h26, h27, h8, hp⟩ => ?_
      by_cases hj : j < was.length
      · have hg' : was[j]? = some was[j] := List.getElem?_eq_getElem hj
        have ht2 : was.take (j + 1) = was.take j ++ [was[j]] := by rw [List.take_add_one, hg']; rfl
        have w2 := IntWalk.i64_in ((j : Int) + 1) (by omega)
        have hpl : p < m'.boxes.length := lt_of_some hp
        have f1 : ∀ (b : List (List V)), (m'.boxes ++ b)[p]? = m'.boxes[p]? := fun b => List.getElem?_append_left hpl
        simp only [cs_ext] at hp
        cases hc : cutOk was[j] l[i].lba l[i].len with
        | false =>
          simp [F_state_kept_L0, D26, h0, h2, h15, h16, h17, h25, h26, h27, h8, hj, hg', f1, hp, hc, w2]
          have e1 : keptOne l[i] was[j] = true := by simp [keptOne, hc]
          refine ⟨k' - 1, by omega, IW.of (show KeptJ was l g i l[i] _ _ _ from ⟨j + 1, p, by omega, ?_, by simpa using h0, by simpa using h2, by simpa using h15, by simpa using h16, by simpa using h17, by simpa using h25, by simpa using h26, by simp, by simpa using h8, by simp [f1, hp]⟩)⟩
          rw [ht2, List.all_append, hall']
          simp [e1]
        | true =>
          cases e1 : keptOne l[i] was[j] with
          | true =>
            have e2 := e1
            simp only [keptOne, hc, Bool.not_true, Bool.false_or, Bool.and_eq_true, decide_eq_true_eq] at e2
            obtain ⟨⟨q1, q2⟩, q3⟩ := e2
            simp [F_state_kept_L0, D26, h0, h2, h15, h16, h17, h25, h26, h27, h8, hj, hg', f1, hp, hc, w2, q1, q2, q3]
            refine ⟨k' - 1, by omega, IW.of (show KeptJ was l g i l[i] _ _ _ from ⟨j + 1, p, by omega, ?_, by simpa using h0, by simpa using h2, by simpa using h15, by simpa using h16, by simpa using h17, by simpa using h25, by simpa using h26, by simp, by simpa using h8, by simp [f1, hp]⟩)⟩
            rw [ht2, List.all_append, hall']
            simp [e1]
          | false =>
            have e2 := e1
            simp only [keptOne, hc, Bool.not_true, Bool.false_or, Bool.and_eq_false_iff, decide_eq_false_iff_not] at e2
            have e3 : keptX was l g = false := by
              rw [keptX, List.all_eq_false]
              refine ⟨l[i], List.getElem_mem hi, ?_⟩
              have : was.all (keptOne l[i]) = false := List.all_eq_false.2 ⟨was[j], List.getElem_mem hj, by simp [e1]⟩
              simp [hx, this]
            simp [F_state_kept_L0, D26, h0, h2, h15, h16, h17, h25, h26, h27, h8, hj, hg', f1, hp, hc, e3]
            intro a b c
            rcases e2 with (e2 | e2) | e2
            · exact absurd a e2
            · exact absurd b e2
            · exact absurd c e2
      · have hjl : j = was.length := by omega
        rw [hjl, List.take_length] at hall'
        simp [F_state_kept_L0, D26, h0, h2, h15, h16, h17, h25, h26, h27, hj, w1]
        refine ⟨k - 1, by omega, IW.of (show KeptI was l g _ _ _ from ⟨i + 1, by omega, ?_, by simpa using h0, by simpa using h2, by simpa using h15, by simpa using h16, by simp⟩)⟩
        rw [ht1, List.all_append, hall]
        simp [hall']
  · have hil : i = l.length := by omega
    rw [hil, List.take_length] at hall
    have e : keptX was l g = true := hall
    simp [F_state_kept_L1, D26, h0, h2, h15, h16, h17, hi, e]
end Go.Av

namespace Go.Av.Pl
structure Pt where
  id : Int
  gen : Int
  map : List Xt
deriving DecidableEq
structure Sta where
  blocks : Int
  gen : Int
  map : List Xt
  pts : List Pt
  last : Int
  staged : List UInt8
deriving DecidableEq
def Pt.zero : Pt := ⟨0, 0, []⟩
def Sta.zero : Sta := ⟨0, 0, [], [], 0, []⟩
def lastPt (w : Pt) : List Pt → Pt
  | [] => w
  | p :: l => lastPt p l
end Go.Av.Pl

namespace Go.Av
open Enc (enc dec)
open Cel (cs dc)
open Go.Proofs Pl

instance : Cel Pt where
  sz := 3
  cs x := [enc x.id, enc x.gen, enc x.map]
  dc l := match l with
    | [a, b, c] => (dec a).bind fun a => (dec b).bind fun b => (dec c).bind fun c => some ⟨a, b, c⟩
    | _ => none
  len _ := rfl
  ok l x h := by
    split at h
    · simp only [Option.bind_eq_some_iff] at h
      obtain ⟨a, ha, b, hb, c, hc, h⟩ := h
      cases h
      exact wk_dec (wk_dec (wk_dec wk_nil hc) hb) ha
    · cases h
  cl x := by simp [clean_cs]
  de x := by simp [decX_map]
instance : Enc Pt := encC
@[simp] theorem sz_pt : Cel.sz Pt = 3 := rfl
@[simp] theorem cs_pt (x : Pt) : cs x = [.val (.int .i64 x.id), .val (.int .i64 x.gen), .lit 5 (x.map.map cs)] := rfl
@[simp] theorem enc_pt (x : Pt) : (enc x : V) = .agg [.val (.int .i64 x.id), .val (.int .i64 x.gen), .lit 5 (x.map.map cs)] := rfl
@[simp] theorem dc_pt (a b c : V) : (dc [a, b, c] : Option Pt) = (dec a).bind fun a => (dec b).bind fun b => (dec c).bind fun c => some ⟨a, b, c⟩ := rfl
@[simp] theorem dec_pt (l : List V) : (dec (.agg l) : Option Pt) = dc l := rfl
instance : Cel Sta where
  sz := 6
  cs x := [enc x.blocks, enc x.gen, enc x.map, enc x.pts, enc x.last, enc x.staged]
  dc l := match l with
    | [a, b, c, d, e, f] => (dec a).bind fun a => (dec b).bind fun b => (dec c).bind fun c => (dec d).bind fun d => (dec e).bind fun e => (dec f).bind fun f => some ⟨a, b, c, d, e, f⟩
    | _ => none
  len _ := rfl
  ok l x h := by
    split at h
    · simp only [Option.bind_eq_some_iff] at h
      obtain ⟨a, ha, b, hb, c, hc, d, hd, e, he, f, hf, h⟩ := h
      cases h
      exact wk_dec (wk_dec (wk_dec (wk_dec (wk_dec (wk_dec wk_nil hf) he) hd) hc) hb) ha
    · cases h
  cl x := by simp [clean_cs]
  de x := by simp [decX_map]
instance : Enc Sta := encC
@[simp] theorem sz_sta : Cel.sz Sta = 6 := rfl
@[simp] theorem cs_sta (x : Sta) : cs x = [.val (.int .i64 x.blocks), .val (.int .i64 x.gen), .lit 5 (x.map.map cs), .lit 3 (x.pts.map cs), .val (.int .i64 x.last), .lit 1 (x.staged.map cs)] := rfl
@[simp] theorem enc_sta (x : Sta) : (enc x : V) = .agg [.val (.int .i64 x.blocks), .val (.int .i64 x.gen), .lit 5 (x.map.map cs), .lit 3 (x.pts.map cs), .val (.int .i64 x.last), .lit 1 (x.staged.map cs)] := rfl
@[simp] theorem dc_sta (a b c d e f : V) : (dc [a, b, c, d, e, f] : Option Sta) = (dec a).bind fun a => (dec b).bind fun b => (dec c).bind fun c => (dec d).bind fun d => (dec e).bind fun e => (dec f).bind fun f => some ⟨a, b, c, d, e, f⟩ := rfl
@[simp] theorem dec_sta (l : List V) : (dec (.agg l) : Option Sta) = dc l := rfl

def ptOk (s : Sta) (w p : Pt) : Bool := uptoOk s.blocks p.map p.gen && decide (w.id < p.id) && decide (p.id ≤ s.last) && decide (w.gen < p.gen) && decide (p.gen < s.gen) && keptX w.map p.map w.gen
def ptsOk (s : Sta) (w : Pt) : List Pt → Bool
  | [] => true
  | p :: l => ptOk s w p && ptsOk s p l
def staMay (s : Sta) : Bool := uptoOk s.blocks s.map s.gen && decide (1 ≤ s.gen ∧ s.gen ≤ 2147483647) && decide (s.pts.length ≤ 4) && decide (0 ≤ s.last ∧ s.last ≤ 2147483647) && decide (s.staged.length ≤ 4000)
def staOk (s : Sta) : Bool := (staMay s && ptsOk s Pt.zero s.pts) && keptX (lastPt Pt.zero s.pts).map s.map (lastPt Pt.zero s.pts).gen
def staE (s : Sta) : Int := if staOk s = true then 0 else 110
/-- Lists of a length that may be. -/
def staLen (s : Sta) : Prop := s.map.length ≤ 2 ^ 30 ∧ s.pts.length ≤ 2 ^ 30 ∧ (∀ p ∈ s.pts, p.map.length ≤ 2 ^ 30) ∧ s.staged.length ≤ 2 ^ 30
@[simp] def sp_upto (n : Int) (l : List Xt) (g : Int) : Option (V × List Tip) := if l.length ≤ 2 ^ 40 then some (enc (uptoOk n l g), []) else none
@[simp] def sp_kept (a b : List Xt) (g : Int) : Option (V × List Tip) := if a.length ≤ 2 ^ 40 ∧ b.length ≤ 2 ^ 40 then some (enc (keptX a b g), []) else none
def D27 : Orc := ((Orc.nil.add n_state_upto (sp3 sp_upto)).add n_state_kept (sp3 sp_kept)).add n_state_within (sp3 sp_within)
theorem D27_ok : OOk Tryz.prog D27 := by
  refine ((OOk.nil.add (sp3_ok fun n l g r h => ?_)).add (sp3_ok fun a b g r h => ?_)).add (sp3_ok fun a b c r h => by cases h; exact c_st_within a b c)
  · simp only [sp_upto] at h
    split at h <;> cases h
    exact c_upto n l g (by assumption)
  · simp only [sp_kept] at h
    split at h <;> cases h
    rename_i h
    exact c_kept a b g h.1 h.2
def StaI (q : Sta) (k : Nat) (s : Nat → V) (m : Mem) : Prop :=
  ∃ (i : Nat) (w : Pt) (may : Bool) (bx : List (List V)) (tips : List Tip), i + k = q.pts.length ∧ s 1 = .ptr 0 0 ∧ s 4 = .ptr 1 0 ∧ s 3 = .val (.bool may) ∧ s 37 = .lit 3 (q.pts.map cs) ∧ s 38 = .val (.int .i64 q.pts.length) ∧ s 39 = .val (.int .i64 i) ∧
    (staMay q && ptsOk q Pt.zero q.pts) = (may && ptsOk q w (q.pts.drop i)) ∧ lastPt Pt.zero q.pts = lastPt w (q.pts.drop i) ∧ w.map.length ≤ 2 ^ 30 ∧ m = ⟨cs q :: cs w :: bx, tips⟩
set_option maxRecDepth 4000 in
theorem c_st_Check (q : Sta) (hq : staLen q) : Pure Tryz.prog n_state_Check [enc q] (enc (staE q)) [] := by
  obtain ⟨hq1, hq2, hq3, hq4⟩ := hq
  refine Pure.ofC D27_ok hm F_state_Check_ok (by simp [F_state_Check]) rfl ?_
  have b1 : q.map.length ≤ 1099511627776 := by omega
  refine wp_seqC (fun s m => s 1 = .ptr 0 0 ∧ m = ⟨[cs q], []⟩) (by simp) fun s m ⟨h1, hm⟩ => ?_
  subst hm
  refine wp_seqC (fun s m => s 1 = .ptr 0 0 ∧ s 3 = .val (.bool (staMay q)) ∧ m = ⟨[cs q], []⟩) ?_ fun s m ⟨h1, h3, hm⟩ => ?_
  · simp [D27, h1, b1]
    have e4 : ((q.pts.length : Int) ≤ 4) ↔ q.pts.length ≤ 4 := by omega
    have e5 : ((q.staged.length : Int) ≤ 4000) ↔ q.staged.length ≤ 4000 := by omega
    simp only [e4, e5]
    by_cases c1 : uptoOk q.blocks q.map q.gen = true <;> by_cases c2 : 1 ≤ q.gen <;> by_cases c3 : q.gen ≤ 2147483647 <;> by_cases c4 : q.pts.length ≤ 4 <;> by_cases c5 : 0 ≤ q.last <;> by_cases c6 : q.last ≤ 2147483647 <;> simp [staMay, c1, c2, c3, c4, c5, c6] <;> try omega
  subst hm
  simp [D27, h1, h3]
  refine wp_loop (StaI q) q.pts.length (IW.of ⟨0, Pt.zero, staMay q, [], [], by omega, by simpa using h1, by simp, by simpa using h3, by simp, by simp, by simp, by simp, by simp, by simp [Pt.zero], by simp [Pt.zero]⟩) fun k s m ⟨i, w, may, bx, tips, hik, h1, h4, h3, h37, h38, h39, hmay, hlast, hw, hm⟩ => ?_
  subst hm
  by_cases hi : i < q.pts.length
  · have hg : q.pts[i]? = some q.pts[i] := List.getElem?_eq_getElem hi
    have w1 := IntWalk.i64_in ((i : Int) + 1) (by omega)
    have hpl := hq3 q.pts[i] (List.getElem_mem hi)
    rw [List.drop_eq_getElem_cons hi, ptsOk] at hmay
    rw [List.drop_eq_getElem_cons hi, lastPt] at hlast
    obtain ⟨p, hpe⟩ : ∃ p, p = q.pts[i] := ⟨_, rfl⟩
    rw [← hpe] at hmay hlast hpl
    have b2 : w.map.length ≤ 1099511627776 := by omega
    have b3 : p.map.length ≤ 1099511627776 := by omega
    have leaf : ∀ (may' : Bool) (s' : Nat → V) (m' : Mem) (bx' : List (List V)) (tips' : List Tip), s' 1 = .ptr 0 0 ∧ s' 4 = .ptr 1 0 ∧ s' 3 = .val (.bool may') ∧ s' 37 = .lit 3 (q.pts.map cs) ∧ s' 38 = .val (.int .i64 q.pts.length) ∧ s' 39 = .val (.int .i64 ((i : Int) + 1)) ∧ m' = ⟨cs q :: cs p :: bx', tips'⟩ → may' = (may && ptOk q w p) → ∃ j, j < k ∧ IW (StaI q j) s' m' := by
      intro may' s' m' bx' tips' ⟨k1, k2, k3, k4, k5, k6, k7⟩ hm'
      refine ⟨k - 1, by omega, IW.of (show StaI q _ _ _ from ⟨i + 1, p, may', bx', tips', by omega, k1, k2, k3, k4, k5, by simpa using k6, ?_, hlast, by omega, k7⟩)⟩
      rw [hmay, hm', Bool.and_assoc]
    simp [F_state_Check_L0, D27, h1, h4, h3, h37, h38, h39, hi, hg, ← hpe, w1, b2, b3]
    repeat' first
      | apply And.intro
      | intro _
    all_goals
      refine leaf _ _ _ _ _ ⟨by simpa using h1, by simpa using h4, by simp; rfl, by simpa using h37, by simpa using h38, by simp, rfl⟩ ?_
      simp_all [ptOk] <;> try (intros; omega)
  · have hil : i = q.pts.length := by omega
    rw [hil, List.drop_length] at hmay hlast
    simp [ptsOk] at hmay
    have e : staOk q = (may && keptX w.map q.map w.gen) := by rw [staOk, hmay, hlast]; rfl
    have b2 : w.map.length ≤ 1099511627776 := by omega
    cases may <;> cases hkx : keptX w.map q.map w.gen <;> simp [F_state_Check, hkx, F_state_Check_L0, D27, h1, h4, h3, h37, h38, h39, hi, b1, b2, staE, e]
end Go.Av

namespace Go.Av
open Enc (enc dec)
open Cel (cs dc)
open Go.Proofs Pl

def newS (n : Int) : Sta := if 1 ≤ n ∧ n ≤ 64 then ⟨n, 1, newL n, [], 0, []⟩ else Sta.zero
@[simp] def sp_mnew (n : Int) : Option (V × List Tip) := some (.tuple [.row 0 5 ((newL n).map cs), enc (newE n)], [(109, 5, (newL n).length)])
theorem sp_mnew_ok : EOk Tryz.prog n_extmap_New (sp1 sp_mnew) := sp1_ok fun n r h => by cases h; exact c_map_New n
def D28 : Orc := Orc.nil.add n_extmap_New (sp1 sp_mnew)
theorem D28_ok : OOk Tryz.prog D28 := OOk.nil.add sp_mnew_ok
theorem c_st_New (n : Int) : Pure Tryz.prog n_state_New [enc n] (.tuple [enc (newS n), enc (newE n)]) [] := by
  refine Pure.ofC D28_ok hm F_state_New_ok (by simp [F_state_New]) (by simp [V.res, V.res1]) ?_
  by_cases h : 1 ≤ n ∧ n ≤ 64
  · simp [F_state_New, D28, newE, newS, h]
  · simp [F_state_New, D28, newE, newS, h, Sta.zero]

@[simp] def sp_all (a b : List Xt) : Option (V × List Tip) := if a.length ≤ 2 ^ 40 then some (enc (decide (a = b)), []) else none
theorem sp_all_ok : EOk Tryz.prog n_r07_All (sp2 sp_all) := sp2_ok fun a b r h => by
  simp only [sp_all] at h
  split at h <;> cases h
  exact c_r07_All a b (by assumption)
def D29 : Orc := Orc.nil.add n_r07_All (sp2 sp_all)
theorem D29_ok : OOk Tryz.prog D29 := OOk.nil.add sp_all_ok
theorem c_r11_Points (a b : Pt) (ha : a.map.length ≤ 2 ^ 40) : Pure Tryz.prog n_r11_Points [enc a, enc b] (enc (decide (a = b))) [] := by
  refine Pure.ofC D29_ok hm F_r11_Points_ok (by simp [F_r11_Points]) rfl ?_
  obtain ⟨a1, a2, a3⟩ := a
  obtain ⟨b1, b2, b3⟩ := b
  simp only at ha
  by_cases h1 : a1 = b1 <;> by_cases h2 : a2 = b2 <;> simp [F_r11_Points, D29, ha, h1, h2]
@[simp] def sp_points (a b : Pt) : Option (V × List Tip) := if a.map.length ≤ 2 ^ 40 then some (enc (decide (a = b)), []) else none
theorem sp_points_ok : EOk Tryz.prog n_r11_Points (sp2 sp_points) := sp2_ok fun a b r h => by
  simp only [sp_points] at h
  split at h <;> cases h
  exact c_r11_Points a b (by assumption)
def D30 : Orc := (Orc.nil.add n_r07_All (sp2 sp_all)).add n_r11_Points (sp2 sp_points)
theorem D30_ok : OOk Tryz.prog D30 := (OOk.nil.add sp_all_ok).add sp_points_ok
def SameI (a b : Sta) (k : Nat) (s : Nat → V) (m : Mem) : Prop :=
  ∃ (i : Nat) (bx : List (List V)) (tips : List Tip), i + k = a.pts.length ∧ a.pts.take i = b.pts.take i ∧ s 2 = .ptr 0 0 ∧ s 3 = .ptr 1 0 ∧ s 6 = .val (.int .i64 i) ∧ m = ⟨cs a :: cs b :: bx, tips⟩
set_option maxRecDepth 4000 in
theorem c_r11_Same (a b : Sta) (ha : staLen a) : Pure Tryz.prog n_r11_Same [enc a, enc b] (enc (decide (a = b))) [] := by
  obtain ⟨ha1, ha2, ha3, ha4⟩ := ha
  refine Pure.ofC D30_ok hm F_r11_Same_ok (by simp [F_r11_Same]) rfl ?_
  have b1 : a.map.length ≤ 1099511627776 := by omega
  obtain ⟨a1, a2, a3, a4, a5, a6⟩ := a
  obtain ⟨c1, c2, c3, c4, c5, c6⟩ := b
  simp only at ha1 ha2 ha3 ha4 b1
  by_cases h3 : ¬ a3 = c3
  · simp [F_r11_Same, D30, b1, h3]
  replace h3 := Decidable.not_not.1 h3
  subst h3
  by_cases h1 : ¬ a1 = c1
  · simp [F_r11_Same, D30, b1, h1]
  replace h1 := Decidable.not_not.1 h1
  subst h1
  by_cases h2 : ¬ a2 = c2
  · simp [F_r11_Same, D30, b1, h2]
  replace h2 := Decidable.not_not.1 h2
  subst h2
  by_cases h5 : ¬ a5 = c5
  · simp [F_r11_Same, D30, b1, h5]
  replace h5 := Decidable.not_not.1 h5
  subst h5
  by_cases h6 : ¬ a6 = c6
  · simp [F_r11_Same, D30, b1, h6]
  replace h6 := Decidable.not_not.1 h6
  subst h6
  by_cases h4 : ¬ a4.length = c4.length
  · have e : ¬ a4 = c4 := fun e => h4 (by rw [e])
    have h4' : ¬ (a4.length : Int) = c4.length := by omega
    simp [F_r11_Same, D30, b1, h4', e]
  replace h4 := Decidable.not_not.1 h4
  simp [F_r11_Same, D30, b1, h4]
  refine wp_loop (SameI ⟨a1, a2, a3, a4, a5, a6⟩ ⟨a1, a2, a3, c4, a5, a6⟩) a4.length (IW.of ⟨0, [], [], by simp, by simp, by simp, by simp, by simp, rfl⟩) fun k s m ⟨i, bx, tips, hik, heq, s2, s3, s6, hm⟩ => ?_
  subst hm
  simp only at hik heq
  by_cases hi : i < a4.length
  · have hg : a4[i]? = some a4[i] := List.getElem?_eq_getElem hi
    have hic : i < c4.length := by omega
    have hg' : c4[i]? = some c4[i] := List.getElem?_eq_getElem hic
    have w1 := IntWalk.i64_in ((i : Int) + 1) (by omega)
    have hpl := ha3 a4[i] (List.getElem_mem hi)
    have b2 : a4[i].map.length ≤ 1099511627776 := by omega
    have t1 : a4.take (i + 1) = a4.take i ++ [a4[i]] := by rw [List.take_add_one, hg]; rfl
    have t2 : c4.take (i + 1) = c4.take i ++ [c4[i]] := by rw [List.take_add_one, hg']; rfl
    by_cases hx : a4[i] = c4[i]
    · simp [F_r11_Same_L0, D30, s2, s3, s6, hi, hic, hg, hg', w1, b2, ← hx, ← h4]
      refine ⟨k - 1, by omega, IW.of (show SameI _ _ _ _ _ from ⟨i + 1, _, _, by simp; omega, by simp only; rw [t1, t2, heq, hx], by simpa using s2, by simpa using s3, by simp, rfl⟩)⟩
    · have e : ¬ a4 = c4 := by
        rintro rfl
        exact hx rfl
      simp [F_r11_Same_L0, D30, s2, s3, s6, hi, hic, hg, hg', w1, b2, hx, ← h4, e]
  · have e : a4 = c4 := by
      rw [List.take_of_length_le (by omega), List.take_of_length_le (by omega)] at heq
      exact heq
    subst e
    simp [F_r11_Same_L0, D30, s2, s3, s6, hi]
end Go.Av



namespace Go.Av
open Enc (enc dec)
open Cel (cs dc)
open Go.Proofs Pl

/-- More bytes, and an error: in the boxes of a state's bytes. -/
def putM (m : Mem) (b : List UInt8) (e : Int) : Option Mem := match m.boxes with
  | b0 :: [.row t 1 xs] :: [.val (.int .i64 w)] :: bx => if m.tips[t]? = some (5, 1, xs.length) ∧ xs.length + b.length ≤ 2 ^ 40 then
      some ⟨b0 :: [.row t 1 (xs ++ b.map cs)] :: [.val (.int .i64 (max w e))] :: bx, m.tips.set t (5, 1, xs.length + b.length)⟩ else none
  | _ => none
theorem c_put (b0 : List V) (bx xs : List (List V)) (t : Nat) (w e : Int) (tips : List Tip) (b : List UInt8) (ht : tips[t]? = some (5, 1, xs.length)) (hb : xs.length + b.length ≤ 2 ^ 40) :
    Loc Tryz.prog n_snap_Write_1 [enc b, enc e, .ptr 1 0, .ptr 2 0] ⟨b0 :: [.row t 1 xs] :: [.val (.int .i64 w)] :: bx, tips⟩ (.tuple []) ⟨b0 :: [.row t 1 (xs ++ b.map cs)] :: [.val (.int .i64 (max w e))] :: bx, tips.set t (5, 1, xs.length + b.length)⟩ := by
  refine Loc.ofC OOk.nil hm F_snap_Write_1_ok (by simp [F_snap_Write_1]) (.inr ⟨[], rfl, rfl⟩) (bx.length + 3) tips.length (by simp) (by simp) fun hu => ?_
  simp only [List.length_cons, underX, Bool.and_eq_true, underL, V.under, decide_eq_true_eq, Bool.and_true] at hu
  obtain ⟨u1, ⟨u2, u3⟩, _, u4⟩ := hu
  simp [F_snap_Write_1, ht]
  refine ⟨by omega, ⟨u1, ⟨u2, ?_⟩, u4⟩, ?_⟩
  · rw [underX_app, u3, under_cs]; rfl
  · rw [List.take_of_length_le (by simp)]
theorem putM_of {b0 : List V} {bx xs : List (List V)} {t : Nat} {w e : Int} {tips : List Tip} {b : List UInt8} (ht : tips[t]? = some (5, 1, xs.length)) (hb : xs.length + b.length ≤ 2 ^ 40) :
    putM ⟨b0 :: [.row t 1 xs] :: [.val (.int .i64 w)] :: bx, tips⟩ b e = some ⟨b0 :: [.row t 1 (xs ++ b.map cs)] :: [.val (.int .i64 (max w e))] :: bx, tips.set t (5, 1, xs.length + b.length)⟩ := by
  simp only [putM]
  rw [if_pos ⟨ht, hb⟩]
theorem putM_some {m m' : Mem} {b : List UInt8} {e : Int} (h : putM m b e = some m') : ∃ b0 t xs w bx tips, m = ⟨b0 :: [.row t 1 xs] :: [.val (.int .i64 w)] :: bx, tips⟩ ∧ tips[t]? = some (5, 1, xs.length) ∧ xs.length + b.length ≤ 2 ^ 40 ∧ m' = ⟨b0 :: [.row t 1 (xs ++ b.map cs)] :: [.val (.int .i64 (max w e))] :: bx, tips.set t (5, 1, xs.length + b.length)⟩ := by
  obtain ⟨bo, tips⟩ := m
  unfold putM at h
  simp only at h
  split at h
  · split at h <;> cases h
    rename_i hc
    exact ⟨_, _, _, _, _, _, rfl, hc.1, hc.2, rfl⟩
  · cases h
def sp_put : List V → Mem → Option (V × Mem)
  | [a, e, .ptr 1 0, .ptr 2 0], m => (dec a : Option (List UInt8)).bind fun b => (dec e : Option Int).bind fun e => (putM m b e).map fun m' => (.tuple [], m')
  | _, _ => none
theorem sp_put_ok : EOkL Tryz.prog n_snap_Write_1 sp_put := by
  intro args m v m' h
  unfold sp_put at h
  split at h
  · simp only [Option.bind_eq_some_iff, Option.map_eq_some_iff] at h
    obtain ⟨b, hb, e, he, m1, h1, h⟩ := h
    cases h
    obtain ⟨b0, t, xs, w, bx, tips, rfl, ht, hl, rfl⟩ := putM_some h1
    exact (c_put b0 bx xs t w e tips b ht hl).wk (wk_dec (wk_dec (WkL.refl _) he) hb)
  · cases h
@[simp] def sp_xwrite (l : List Xt) : Option (V × List Tip) := if l.length ≤ 2 ^ 20 then some (.tuple [.row 0 1 ((writeB l).map cs), enc (writeE l)], [(5, 1, (writeB l).length)]) else none
theorem sp_xwrite_ok : EOk Tryz.prog n_extent_Write (sp1 sp_xwrite) := sp1_ok fun l r h => by
  simp only [sp_xwrite] at h
  split at h <;> cases h
  exact c_ext_Write l (by assumption)
theorem sp_Put_ok : EOk Tryz.prog n_le_Put (sp3 sp_Put) := sp3_ok fun b v w r h => by
  simp only [sp_Put] at h
  split at h <;> cases h
  exact c_le_Put b v w (by assumption)
/-- A map's bytes, behind how many; and the error. -/
def cntB (l : List Xt) : List UInt8 := bytesPut [] (writeB l).length 2 ++ writeB l
def cntE (w : Int) (l : List Xt) : Int := max (max w (errPut (writeB l).length 2)) (writeE l)
theorem writeB_length (l : List Xt) : (writeB l).length ≤ 1 + 64 * 2055 := by
  unfold writeB
  split
  · rename_i h
    simp only [wrOk, Bool.and_eq_true, decide_eq_true_eq, List.all_eq_true] at h
    have : ∀ l : List Xt, (∀ x ∈ l, extOk x = true) → (l.flatMap wr1).length ≤ l.length * 2055 := by
      intro l
      induction l with
      | nil => intro _; simp
      | cons x l ih =>
        intro hx
        have h1 := wr1_length (hx x List.mem_cons_self)
        have h2 := ih fun y hy => hx y (List.mem_cons_of_mem _ hy)
        rw [List.flatMap_cons, List.length_append, List.length_cons]
        omega
    have := this l h.2
    rw [wrB, List.length_cons]
    omega
  · simp
def D32 : Orc := ((Orc.nil.add n_extent_Write (sp1 sp_xwrite)).add n_le_Put (sp3 sp_Put)).addL n_snap_Write_1 sp_put
theorem D32_ok : OOk Tryz.prog D32 := ((OOk.nil.add sp_xwrite_ok).add sp_Put_ok).addL sp_put_ok
theorem c_counted (b0 : List V) (bx xs : List (List V)) (t : Nat) (w : Int) (tips : List Tip) (l : List Xt) (ht : tips[t]? = some (5, 1, xs.length)) (hl : l.length ≤ 2 ^ 20) (hb : xs.length ≤ 2 ^ 39) :
    Loc Tryz.prog n_snap_Write_2 [enc l, .ptr 3 0] ⟨b0 :: [.row t 1 xs] :: [.val (.int .i64 w)] :: [.func 37 [.ptr 1 0, .ptr 2 0]] :: bx, tips⟩ (.tuple [])
      ⟨b0 :: [.row t 1 (xs ++ (cntB l).map cs)] :: [.val (.int .i64 (cntE w l))] :: [.func 37 [.ptr 1 0, .ptr 2 0]] :: bx, tips.set t (5, 1, xs.length + (cntB l).length)⟩ := by
  refine Loc.ofC D32_ok hm F_snap_Write_2_ok (by simp [F_snap_Write_2]) (.inr ⟨[], rfl, rfl⟩) (bx.length + 4) tips.length (by simp) (by simp) fun hu => ?_
  simp only [List.length_cons, underX, Bool.and_eq_true, underL, V.under, decide_eq_true_eq, Bool.and_true] at hu
  obtain ⟨u1, ⟨u2, u3⟩, _, _, u4⟩ := hu
  have hwl := writeB_length l
  have htl : t < tips.length := lt_of_some ht
  have w1 : IntKind.u64.wrap ((writeB l).length : Int) = (writeB l).length := IntWalk.u64_in _ (by omega)
  have hbp : (bytesPut [] (writeB l).length 2).length ≤ 2 := by
    unfold bytesPut
    split <;> simp [leB_length]
  have ht1 : (tips ++ [(5, 1, (writeB l).length)])[t]? = some (5, 1, xs.length) := by rw [List.getElem?_append_left htl]; exact ht
  have p1 := putM_of (b0 := b0) (bx := [.func 37 [.ptr 1 0, .ptr 2 0]] :: bx) (w := w) (e := errPut (writeB l).length 2) (b := bytesPut [] (writeB l).length 2) ht1 (by omega)
  have ht2 : ((tips ++ [(5, 1, (writeB l).length)]).set t (5, 1, xs.length + (bytesPut [] (writeB l).length 2).length))[t]? = some (5, 1, (xs ++ (bytesPut [] (writeB l).length 2).map cs).length) := by
    rw [List.getElem?_set_self (by simp; omega)]; simp
  have p2 := putM_of (b0 := b0) (bx := [.func 37 [.ptr 1 0, .ptr 2 0]] :: bx) (w := max w (errPut (writeB l).length 2)) (e := writeE l) (b := writeB l) ht2 (by simp; omega)
  simp [F_snap_Write_2, D32, hl, w1, sp_put, p1, p2, decX_map]
  refine ⟨⟨u1, ⟨htl, by rw [underX_app, underX_app, u3, under_cs, under_cs]; rfl⟩, u4⟩, ⟨by simp [cntB], by simp only [cntE]; omega⟩, ?_⟩
  rw [List.set_append_left _ _ htl, List.take_left' (by simp)]
  simp [cntB, Nat.add_assoc]
def cntM (m : Mem) (l : List Xt) : Option Mem := match m.boxes with
  | b0 :: [.row t 1 xs] :: [.val (.int .i64 w)] :: [.func 37 [.ptr 1 0, .ptr 2 0]] :: bx => if m.tips[t]? = some (5, 1, xs.length) ∧ xs.length ≤ 2 ^ 39 ∧ l.length ≤ 2 ^ 20 then
      some ⟨b0 :: [.row t 1 (xs ++ (cntB l).map cs)] :: [.val (.int .i64 (cntE w l))] :: [.func 37 [.ptr 1 0, .ptr 2 0]] :: bx, m.tips.set t (5, 1, xs.length + (cntB l).length)⟩ else none
  | _ => none
def sp_counted : List V → Mem → Option (V × Mem)
  | [a, .ptr 3 0], m => (dec a : Option (List Xt)).bind fun l => (cntM m l).map fun m' => (.tuple [], m')
  | _, _ => none
theorem sp_counted_ok : EOkL Tryz.prog n_snap_Write_2 sp_counted := by
  intro args m v m' h
  unfold sp_counted at h
  split at h
  · simp only [Option.bind_eq_some_iff, Option.map_eq_some_iff] at h
    obtain ⟨l, hl, m1, h1, h⟩ := h
    cases h
    obtain ⟨bo, tips⟩ := m
    unfold cntM at h1
    simp only at h1
    split at h1
    · split at h1 <;> cases h1
      rename_i hc
      exact (c_counted _ _ _ _ _ tips l hc.1 hc.2.2 hc.2.1).wk (wk_dec (WkL.refl _) hl)
    · cases h1
  · cases h
end Go.Av

namespace Go.Av
open Enc (enc dec)
open Cel (cs dc)
open Go.Proofs Pl

theorem mapFrom_len : ∀ {l : List Xt} {a b : Int} {p : Option Xt}, mapFrom a p l = some b → (l.length : Int) ≤ b - a ∧ ((l.flatMap wr1).length : Int) ≤ 39 * (b - a) ∧ l.all extOk = true
  | [], a, b, p, h => by simp only [mapFrom, Option.some.injEq] at h; simp; omega
  | x :: l, a, b, p, h => by
    simp only [mapFrom] at h
    split at h
    · rename_i hc
      obtain ⟨h1, h2, h3⟩ := mapFrom_len h
      have hx := extOk_iff.1 hc.1
      have h4 : (wr1 x).length = 7 + x.data.length := by simp [wr1, hdX_length]
      have h5 := hx.2.2.2.2.2.2.2.2
      rw [List.flatMap_cons, List.length_append, List.length_cons]
      refine ⟨by omega, ?_, by simp [hc.1, h3]⟩
      split at h5 <;> omega
    · cases h
theorem mapOk_wr {n : Int} {l : List Xt} (h : mapOk n l = true) : wrOk l = true ∧ (writeB l).length ≤ 2500 ∧ writeB l = wrB l ∧ writeE l = 0 := by
  have hn := mapOk_le h
  simp only [mapOk, Bool.and_eq_true, decide_eq_true_eq] at h
  obtain ⟨h1, h2, h3⟩ := mapFrom_len h.2
  have hw : wrOk l = true := by simp only [wrOk, h3, Bool.and_true, decide_eq_true_eq]; omega
  have e : writeB l = wrB l := by simp [writeB, hw]
  refine ⟨hw, ?_, e, by simp [writeE, hw]⟩
  rw [e, wrB, List.length_cons]
  omega
/-- A map's bytes, behind how many. -/
def mapB (l : List Xt) : List UInt8 := leB (wrB l).length 2 ++ wrB l
theorem cnt_ok {n : Int} {l : List Xt} (h : mapOk n l = true) : cntB l = mapB l ∧ cntE 0 l = 0 := by
  obtain ⟨h1, h2, h3, h4⟩ := mapOk_wr h
  have hm : mayB (wrB l).length 2 = true := by rw [← h3]; simp [mayB]; omega
  rw [cntB, cntE, h3, h4]
  simp [bytesPut, errPut, hm, mapB]
theorem mapB_length {n : Int} {l : List Xt} (h : mapOk n l = true) : (mapB l).length ≤ 2502 := by
  obtain ⟨h1, h2, h3, h4⟩ := mapOk_wr h
  rw [h3] at h2
  simp [mapB, leB_length]
  omega
def headB (s : Sta) : List UInt8 := leB s.blocks.toNat 1 ++ (leB s.gen.toNat 4 ++ (leB s.last.toNat 4 ++ (leB s.pts.length 1 ++ leB s.staged.length 2)))
def ptB (p : Pt) : List UInt8 := (leB p.id.toNat 4 ++ leB p.gen.toNat 4) ++ mapB p.map
def bodyS (s : Sta) : List UInt8 := ((headB s ++ s.staged) ++ mapB s.map) ++ s.pts.flatMap ptB
def snapB (s : Sta) : List UInt8 := if staOk s = true then sealS (bodyS s) else []
/-- What is known of a checkpoint of a state that may be. -/
def ptFine (q : Sta) (p : Pt) : Prop := mapOk q.blocks p.map = true ∧ 0 < p.id ∧ p.id ≤ q.last ∧ 0 < p.gen ∧ p.gen < q.gen
theorem ptsOk_fine {q : Sta} : ∀ {l : List Pt} {w : Pt}, ptsOk q w l = true → 0 ≤ w.id → 0 ≤ w.gen → ∀ p ∈ l, ptFine q p
  | [], _, _, _, _, p, hp => by cases hp
  | x :: l, w, h, h1, h2, p, hp => by
    simp only [ptsOk, ptOk, Bool.and_eq_true, decide_eq_true_eq, uptoOk] at h
    obtain ⟨⟨⟨⟨⟨⟨⟨a1, _⟩, a2⟩, a3⟩, a4⟩, a5⟩, _⟩, hr⟩ := h
    rcases List.mem_cons.1 hp with rfl | hp
    · exact ⟨a1, by omega, a3, by omega, a5⟩
    · exact ptsOk_fine hr (by omega) (by omega) p hp
theorem staOk_fine {q : Sta} (h : staOk q = true) : mapOk q.blocks q.map = true ∧ 1 ≤ q.gen ∧ q.gen ≤ 2147483647 ∧ q.pts.length ≤ 4 ∧ 0 ≤ q.last ∧ q.last ≤ 2147483647 ∧ q.staged.length ≤ 4000 ∧ ∀ p ∈ q.pts, ptFine q p := by
  simp only [staOk, staMay, uptoOk, Bool.and_eq_true, decide_eq_true_eq] at h
  obtain ⟨⟨⟨⟨⟨⟨h1, h2⟩, h3⟩, h4⟩, h5⟩, h6⟩, _⟩ := h
  exact ⟨h1.1, h2.1, h2.2, h3, h4.1, h4.2, h5, ptsOk_fine h6 (Int.le_refl _) (Int.le_refl _)⟩
end Go.Av

namespace Go.Av
open Enc (enc dec)
open Cel (cs dc)
open Go.Proofs Pl

@[simp] def sp_stCheck (q : Sta) : Option (V × List Tip) := if q.map.length ≤ 2 ^ 30 ∧ q.pts.length ≤ 2 ^ 30 ∧ (∀ p ∈ q.pts, p.map.length ≤ 2 ^ 30) ∧ q.staged.length ≤ 2 ^ 30 then some (enc (staE q), []) else none
theorem sp_stCheck_ok : EOk Tryz.prog n_state_Check (sp1 sp_stCheck) := sp1_ok fun q r h => by
  simp only [sp_stCheck] at h
  split at h <;> cases h
  exact c_st_Check q (by assumption)
theorem sp_Seal_ok : EOk Tryz.prog n_crc_Seal (sp1 sp_Seal) := sp1_ok fun l r h => by
  simp only [sp_Seal] at h
  split at h <;> cases h
  exact c_crc_Seal l (by assumption)
def D33 : Orc := ((((Orc.nil.add n_state_Check (sp1 sp_stCheck)).add n_le_Pack (sp2 sp_pack)).add n_crc_Seal (sp1 sp_Seal)).addL n_snap_Write_1 sp_put).addL n_snap_Write_2 sp_counted
theorem D33_ok : OOk Tryz.prog D33 := ((((OOk.nil.add sp_stCheck_ok).add sp_pack_ok).add sp_Seal_ok).addL sp_put_ok).addL sp_counted_ok
theorem f_bwwbh : formOk ⟨#[98, 119, 119, 98, 104]⟩ = true := by decide
theorem f_ww : formOk ⟨#[119, 119]⟩ = true := by decide
def SWriteI (q : Sta) (k : Nat) (s : Nat → V) (m : Mem) : Prop :=
  ∃ (i t : Nat) (bx : List (List V)) (tips : List Tip) (acc : List UInt8), i + k = q.pts.length ∧ s 1 = .ptr 0 0 ∧ s 5 = .ptr 1 0 ∧ s 6 = .ptr 2 0 ∧ s 7 = .ptr 3 0 ∧ s 8 = .func n_snap_Write_2 [.ptr 3 0] ∧ s 50 = .lit 3 (q.pts.map cs) ∧ s 51 = .val (.int .i64 q.pts.length) ∧ s 52 = .val (.int .i64 i) ∧
    acc = ((headB q ++ q.staged) ++ mapB q.map) ++ (q.pts.take i).flatMap ptB ∧ acc.length ≤ 10000 + 2520 * i ∧ m = ⟨cs q :: [.row t 1 (acc.map cs)] :: [.val (.int .i64 0)] :: [.func n_snap_Write_1 [.ptr 1 0, .ptr 2 0]] :: bx, tips⟩ ∧ tips[t]? = some (5, 1, acc.length)
set_option maxRecDepth 4000 in
theorem c_snap_Write (q : Sta) (hq : staLen q) : Pure Tryz.prog n_snap_Write [enc q] (.tuple [.row 0 1 ((snapB q).map cs), enc (staE q)]) [(5, 1, (snapB q).length)] := by
  have hq' := hq
  unfold staLen at hq'
  refine Pure.ofR D33_ok hm F_snap_Write_ok (by simp [F_snap_Write]) (by simp [V.res, V.res1]) ?_
  cases hok : staOk q with
  | false =>
    have e : staE q = 110 := by simp [staE, hok]
    simp [F_snap_Write, D33, hq', e, snapB, hok]
    exact hq'.2.2.1
  | true =>
    have e : staE q = 0 := by simp [staE, hok]
    obtain ⟨f1, f2, f3, f4, f5, f6, f7, f8⟩ := staOk_fine hok
    have fb := mapOk_le f1
    have v1 : IntKind.u64.wrap q.blocks = q.blocks := IntWalk.u64_in _ (by omega)
    have v2 : IntKind.u64.wrap q.gen = q.gen := IntWalk.u64_in _ (by omega)
    have v3 : IntKind.u64.wrap q.last = q.last := IntWalk.u64_in _ (by omega)
    have v4 : IntKind.u64.wrap (q.pts.length : Int) = q.pts.length := IntWalk.u64_in _ (by omega)
    have v5 : IntKind.u64.wrap (q.staged.length : Int) = q.staged.length := IntWalk.u64_in _ (by omega)
    have hp : packS [98, 119, 119, 98, 104] [q.blocks.toNat, q.gen.toNat, q.last.toNat, q.pts.length, q.staged.length] = some (headB q) := by
      have m1 : mayB q.blocks.toNat 1 = true := by simp [mayB]; omega
      have m2 : mayB q.gen.toNat 4 = true := by simp [mayB]; omega
      have m3 : mayB q.last.toNat 4 = true := by simp [mayB]; omega
      have m4 : mayB q.pts.length 1 = true := by simp [mayB]; omega
      have m5 : mayB q.staged.length 2 = true := by simp [mayB]; omega
      simp [packS, sizeL, m1, m2, m3, m4, m5, headB]
    have hp1 : packB [98, 119, 119, 98, 104] [q.blocks.toNat, q.gen.toNat, q.last.toNat, q.pts.length, q.staged.length] = headB q := by simp [packB, hp]
    have hp2 : packE [98, 119, 119, 98, 104] [q.blocks.toNat, q.gen.toNat, q.last.toNat, q.pts.length, q.staged.length] = 0 := by simp [packE, hp]
    have hhl : (headB q).length = 12 := by simp [headB, leB_length]
    obtain ⟨c1, c2⟩ := cnt_ok f1
    have c3 := mapB_length f1
    have f2' : (0 : Int) ≤ q.gen := by omega
    have fb' : (0 : Int) ≤ q.blocks := by omega
    simp [F_snap_Write, D33, hq', e, v1, v2, v3, v4, v5, f_bwwbh, hp1, hp2, hhl, sp_put, sp_counted, putM, cntM, decX_map, c1, c2, f2', fb', f5]
    have hml : (q.map.length : Int) ≤ 64 := by
      have h := f1
      simp only [mapOk, Bool.and_eq_true, decide_eq_true_eq] at h
      have := (mapFrom_len h.2).1
      omega
    refine ⟨hq'.2.2.1, by omega, ⟨by omega, by omega⟩, ?_⟩
    refine wp_loop (SWriteI q) q.pts.length (IW.of ⟨0, 1, [], [(5, 1, 0), (5, 1, 12 + q.staged.length + (mapB q.map).length), (69, 1, 5)], ((headB q ++ q.staged) ++ mapB q.map) ++ (q.pts.take 0).flatMap ptB, by omega, by simp, by simp, by simp, by simp, by simp, by simp, by simp, by simp, rfl, by simp [hhl]; omega, by simp, by simp [hhl]; omega⟩) fun k s m ⟨i, t, bx, tips, acc, hik, s1, s5, s6, s7, s8, s50, s51, s52, hacc, hal, hm, ht⟩ => ?_
    subst hm
    by_cases hi : i < q.pts.length
    · have hg : q.pts[i]? = some q.pts[i] := List.getElem?_eq_getElem hi
      have w1 := IntWalk.i64_in ((i : Int) + 1) (by omega)
      have ht1 : q.pts.take (i + 1) = q.pts.take i ++ [q.pts[i]] := by rw [List.take_add_one, hg]; rfl
      obtain ⟨p, hpe⟩ : ∃ p, p = q.pts[i] := ⟨_, rfl⟩
      obtain ⟨g1, g2, g3, g4, g5⟩ := f8 q.pts[i] (List.getElem_mem hi)
      rw [← hpe] at ht1 g1 g2 g3 g4 g5
      have htl : t < tips.length := lt_of_some ht
      have u1 : IntKind.u64.wrap p.id = p.id := IntWalk.u64_in _ (by omega)
      have u2 : IntKind.u64.wrap p.gen = p.gen := IntWalk.u64_in _ (by omega)
      have hpp : packS [119, 119] [p.id.toNat, p.gen.toNat] = some (leB p.id.toNat 4 ++ leB p.gen.toNat 4) := by
        have m1 : mayB p.id.toNat 4 = true := by simp [mayB]; omega
        have m2 : mayB p.gen.toNat 4 = true := by simp [mayB]; omega
        simp [packS, sizeL, m1, m2]
      have hpp1 : packB [119, 119] [p.id.toNat, p.gen.toNat] = leB p.id.toNat 4 ++ leB p.gen.toNat 4 := by simp [packB, hpp]
      have hpp2 : packE [119, 119] [p.id.toNat, p.gen.toNat] = 0 := by simp [packE, hpp]
      obtain ⟨d1, d2⟩ := cnt_ok g1
      have d3 := mapB_length g1
      have hml2 : (p.map.length : Int) ≤ 64 := by
        have h := g1
        simp only [mapOk, Bool.and_eq_true, decide_eq_true_eq] at h
        have := (mapFrom_len h.2).1
        omega
      have g2' : (0 : Int) ≤ p.id := by omega
      have g4' : (0 : Int) ≤ p.gen := by omega
      simp [F_snap_Write_L0, D33, s1, s5, s6, s7, s8, s50, s51, s52, hi, hg, ← hpe, w1, u1, u2, f_ww, hpp1, hpp2, sp_put, sp_counted, putM, cntM, decX_map, d1, d2, g2', g4', leB_length, List.getElem?_append_left htl, ht, tipset htl]
      refine ⟨by omega, ⟨by omega, by omega⟩, k - 1, by omega, IW.of (show SWriteI q _ _ _ from ⟨i + 1, t, _, _, acc ++ ptB p, by omega, by simpa using s1, by simpa using s5, by simpa using s6, by simpa using s7, by simpa using s8, by simpa using s50, by simpa using s51, by simp, ?_, ?_, by simp [ptB]; exact ⟨rfl, rfl⟩, ?_⟩)⟩
      · rw [hacc, ht1, List.flatMap_append]; simp
      · simp [ptB, leB_length]; omega
      · rw [List.getElem?_set_self (by simp; omega)]
        simp [ptB, leB_length, Nat.add_assoc]
        omega
    · have hil : i = q.pts.length := by omega
      rw [hil, List.take_length] at hacc
      have e2 : snapB q = sealS acc := by simp [snapB, hok, bodyS, hacc]
      simp [F_snap_Write_L0, D33, s1, s5, s6, s7, s8, s50, s51, s52, hi, F_snap_Write, decX_map, e2]
      omega
end Go.Av

namespace Go.Av
open Enc (enc dec)
open Cel (cs dc)
open Go.Proofs Pl

/-- The text that is still to be read. -/
def txtV : V → Option (List UInt8)
  | .lit 1 xs => decX xs
  | .row _ 1 xs => decX xs
  | _ => none
theorem txtV_cases {v : V} {l : List UInt8} (h : txtV v = some l) : v = .lit 1 (l.map cs) ∨ ∃ t, v = .row t 1 (l.map cs) := by
  unfold txtV at h
  split at h
  · exact .inl (by rw [decX_u8 h])
  · exact .inr ⟨_, by rw [decX_u8 h]⟩
  · cases h
@[simp] theorem txtV_lit (l : List UInt8) : txtV (.lit 1 (l.map cs)) = some l := decX_map l
@[simp] theorem txtV_row (t : Nat) (l : List UInt8) : txtV (.row t 1 (l.map cs)) = some l := decX_map l
/-- The text's box behind so many bytes. -/
def numV (v : V) (w : Bool) (l : List UInt8) (n : Int) : V := if w = true ∨ (l.length : Int) < n then v else .lit 1 ((l.drop n.toNat).map cs)
/-- The bytes that are cut. -/
def cutL (w : Bool) (l : List UInt8) (n : Int) : List UInt8 := if w = true ∨ (l.length : Int) < n then [] else l.take n.toNat
def cutW (w : Bool) (l : List UInt8) (n : Int) : Bool := w || decide ((l.length : Int) < n)
/-- So many bytes of it. -/
def cutM (m : Mem) (n : Int) : Option (List UInt8 × Mem) := match m.boxes with
  | b0 :: [v] :: [.val (.bool w)] :: bx => (txtV v).bind fun l => if 0 ≤ n ∧ l.length ≤ 2 ^ 40 then
      some (cutL w l n, ⟨b0 :: [numV v w l n] :: [.val (.bool (cutW w l n))] :: bx, m.tips⟩) else none
  | _ => none
theorem c_cut (b0 : List V) (bx : List (List V)) (v : V) (w : Bool) (tips : List Tip) (n : Int) (l : List UInt8) (hv : txtV v = some l) (hn : 0 ≤ n) (hl : l.length ≤ 2 ^ 40) :
    Loc Tryz.prog n_snap_Read_1 [enc n, .ptr 2 0, .ptr 1 0] ⟨b0 :: [v] :: [.val (.bool w)] :: bx, tips⟩ (enc (cutL w l n))
      ⟨b0 :: [numV v w l n] :: [.val (.bool (cutW w l n))] :: bx, tips⟩ := by
  refine Loc.ofC OOk.nil hm F_snap_Read_1_ok (by simp [F_snap_Read_1]) (.inl (by simp [cleanL, Enc.cl])) (bx.length + 3) tips.length (by simp) (by simp) fun hu => ?_
  simp only [List.length_cons, underX, Bool.and_eq_true, underL, V.under, decide_eq_true_eq, Bool.and_true] at hu
  obtain ⟨u1, u2, _, u3⟩ := hu
  have ua : ∀ l : List UInt8, underX (bx.length + 3) tips.length (l.map cs) = true := fun l => under_cs _ _ l
  have uc : underX (bx.length + 3) tips.length ((l.map cs).drop n.toNat) = true := by rw [← List.map_drop]; exact ua _
  rcases txtV_cases hv with rfl | ⟨t, rfl⟩
  · cases w with
    | true => simp [F_snap_Read_1, cutL, cutW, numV, u1, u3, ua]
    | false =>
      by_cases h : (l.length : Int) < n
      · simp [F_snap_Read_1, cutL, cutW, numV, u1, u3, h, ua]
      · simp [F_snap_Read_1, cutL, cutW, numV, u1, u3, h, uc, mxOk]
        omega
  · simp only [V.under, Bool.and_eq_true, decide_eq_true_eq] at u2
    cases w with
    | true => simp [F_snap_Read_1, cutL, cutW, numV, u1, u2.1, u3, ua]
    | false =>
      by_cases h : (l.length : Int) < n
      · simp [F_snap_Read_1, cutL, cutW, numV, u1, u2.1, u3, h, ua]
      · simp [F_snap_Read_1, cutL, cutW, numV, u1, u3, h, uc, mxOk]
        omega
def sp_cut1 : List V → Mem → Option (V × Mem)
  | [a, .ptr 2 0, .ptr 1 0], m => (dec a : Option Int).bind fun n => (cutM m n).map fun p => (enc p.1, p.2)
  | _, _ => none
theorem sp_cut1_ok : EOkL Tryz.prog n_snap_Read_1 sp_cut1 := by
  intro args m v m' h
  unfold sp_cut1 at h
  split at h
  · simp only [Option.bind_eq_some_iff, Option.map_eq_some_iff] at h
    obtain ⟨n, hn, p, hp, h⟩ := h
    cases h
    obtain ⟨bo, tips⟩ := m
    unfold cutM at hp
    simp only at hp
    split at hp
    · rename_i b0 v w bx
      simp only [Option.bind_eq_some_iff] at hp
      obtain ⟨l, hl, hp⟩ := hp
      split at hp
      · rename_i hc
        cases hp
        exact (c_cut b0 bx v w tips n l hl hc.1 hc.2).wk (wk_dec (WkL.refl _) hn)
      · cases hp
    · cases hp
  · cases h
end Go.Av

namespace Go.Av
open Enc (enc dec)
open Cel (cs dc)
open Go.Proofs Pl

/-- Is it wrong, behind so many bytes more that are read by a form? -/
def numW (w : Bool) (l : List UInt8) (f : List UInt8) (n : Int) : Bool := cutW w l n || decide (unpackE f (cutL w l n) ≠ 0)
def numL (w : Bool) (l : List UInt8) (f : List UInt8) (n : Int) : List Nat := if numW w l f n = true then List.replicate f.length 0 else unpackN f (cutL w l n)
theorem cutL_length (w : Bool) (l : List UInt8) (n : Int) : (cutL w l n).length ≤ l.length := by
  unfold cutL
  split
  · simp
  · simp; omega
def D34 : Orc := (Orc.nil.add n_le_Unpack (sp2 sp_unpack)).addL n_snap_Read_1 sp_cut1
theorem D34_ok : OOk Tryz.prog D34 := (OOk.nil.add sp_unpack_ok).addL sp_cut1_ok
theorem txtV_under {v : V} {l : List UInt8} {k j : Nat} (h : txtV v = some l) (hu : V.under k j v = true) (w : Bool) (n : Int) : V.under k j (numV v w l n) = true := by
  unfold numV
  split
  · exact hu
  · exact under_cs _ _ _
theorem c_numbers (b0 : List V) (bx : List (List V)) (v : V) (w : Bool) (tips : List Tip) (f : List UInt8) (n : Int) (l : List UInt8) (hf : formOk ⟨f.toArray⟩ = true) (hv : txtV v = some l) (hn : 0 ≤ n) (hl : l.length ≤ 2 ^ 40) :
    Loc Tryz.prog n_snap_Read_2 [enc (⟨f.toArray⟩ : ByteArray), enc n, .ptr 3 0, .ptr 2 0] ⟨b0 :: [v] :: [.val (.bool w)] :: [.func 43 [.ptr 2 0, .ptr 1 0]] :: bx, tips⟩ (enc (numL w l f n))
      ⟨b0 :: [numV v w l n] :: [.val (.bool (numW w l f n))] :: [.func 43 [.ptr 2 0, .ptr 1 0]] :: bx, tips⟩ := by
  refine Loc.ofC D34_ok hm F_snap_Read_2_ok (by simp [F_snap_Read_2]) (.inl (by simp [cleanL, Enc.cl])) (bx.length + 4) tips.length (by simp) (by simp) fun hu => ?_
  simp only [List.length_cons, underX, Bool.and_eq_true, underL, V.under, decide_eq_true_eq, Bool.and_true] at hu
  obtain ⟨u1, u2, _, _, u3⟩ := hu
  have uv := txtV_under hv u2 w n
  have hfs : f.length ≤ 2 ^ 30 := by have := (formOk_spec hf).2; simpa using this
  have hsz : (⟨f.toArray⟩ : ByteArray).size = f.length := by simp [ByteArray.size]
  have hcl := cutL_length w l n
  have hcl2 : (cutL w l n).length ≤ 1099511627776 := by omega
  have hfs2 : (f.length : Int) * 8 ≤ 140737488355328 := by omega
  cases hc : cutW w l n with
  | true =>
    have e1 : numW w l f n = true := by simp [numW, hc]
    have e3 : numL w l f n = List.replicate f.length 0 := by simp [numL, e1]
    simp [F_snap_Read_2, D34, sp_cut1, cutM, hv, hn, hl, hc, e1, e3, u1, u3, uv, hf, hsz, hcl2, hfs2, decX_map]
  | false =>
    by_cases hu : unpackE f (cutL w l n) = 0
    · have e1 : numW w l f n = false := by simp [numW, hc, hu]
      have e3 : numL w l f n = unpackN f (cutL w l n) := by simp [numL, e1]
      simp [F_snap_Read_2, D34, sp_cut1, cutM, hv, hn, hl, hc, e1, e3, u1, u3, uv, hf, hu, hcl2, decX_map]
    · have e1 : numW w l f n = true := by simp [numW, hu]
      have e3 : numL w l f n = List.replicate f.length 0 := by simp [numL, e1]
      simp [F_snap_Read_2, D34, sp_cut1, cutM, hv, hn, hl, hc, e1, e3, u1, u3, uv, hf, hu, hsz, hcl2, hfs2, decX_map]
/-- What is still to be read behind so many bytes. -/
def numR (w : Bool) (l : List UInt8) (n : Int) : List UInt8 := if w = true ∨ (l.length : Int) < n then l else l.drop n.toNat
theorem numV_txt {v : V} {l : List UInt8} (h : txtV v = some l) (w : Bool) (n : Int) : txtV (numV v w l n) = some (numR w l n) := by
  unfold numV numR
  split
  · exact h
  · exact txtV_lit _
def numM (m : Mem) (f : List UInt8) (n : Int) : Option (List Nat × Mem) := match m.boxes with
  | b0 :: [v] :: [.val (.bool w)] :: [.func 43 [.ptr 2 0, .ptr 1 0]] :: bx => (txtV v).bind fun l => if formOk ⟨f.toArray⟩ = true ∧ 0 ≤ n ∧ l.length ≤ 2 ^ 40 then
      some (numL w l f n, ⟨b0 :: [numV v w l n] :: [.val (.bool (numW w l f n))] :: [.func 43 [.ptr 2 0, .ptr 1 0]] :: bx, m.tips⟩) else none
  | _ => none
def sp_numbers : List V → Mem → Option (V × Mem)
  | [f, a, .ptr 3 0, .ptr 2 0], m => (dec f : Option ByteArray).bind fun f => (dec a : Option Int).bind fun n => (numM m f.data.toList n).map fun p => (enc p.1, p.2)
  | _, _ => none
theorem sp_numbers_ok : EOkL Tryz.prog n_snap_Read_2 sp_numbers := by
  intro args m v m' h
  unfold sp_numbers at h
  split at h
  · simp only [Option.bind_eq_some_iff, Option.map_eq_some_iff] at h
    obtain ⟨f, hf, n, hn, p, hp, h⟩ := h
    cases h
    obtain ⟨bo, tips⟩ := m
    unfold numM at hp
    simp only at hp
    split at hp
    · rename_i b0 v w bx
      simp only [Option.bind_eq_some_iff] at hp
      obtain ⟨l, hl, hp⟩ := hp
      split at hp
      · rename_i hc
        have := c_numbers b0 bx v w tips f.data.toList n l hc.1 hl hc.2.1 hc.2.2
        rw [ba_eta] at this
        have := this.wk (wk_dec (wk_dec (WkL.refl _) hn) hf)
        cases hp
        exact this
      · cases hp
    · cases hp
  · cases h
@[simp] def sp_xread (b : List UInt8) : Option (V × List Tip) := if b.length ≤ 2 ^ 40 then some (.tuple [.row 0 5 ((readL b).map cs), enc (readE b)], [(109, 5, (readL b).length)]) else none
theorem sp_xread_ok : EOk Tryz.prog n_extent_Read (sp1 sp_xread) := sp1_ok fun b r h => by
  simp only [sp_xread] at h
  split at h <;> cases h
  exact c_ext_Read b (by assumption)
end Go.Av

namespace Go.Av
open Enc (enc dec)
open Cel (cs dc)
open Go.Proofs Pl

/-- How many bytes a map has; its bytes; it. -/
def mpN (w : Bool) (l : List UInt8) : Nat := (numL w l [104] 2).headD 0
def mpT (w : Bool) (l : List UInt8) : List UInt8 := cutL (numW w l [104] 2) (numR w l 2) (mpN w l)
def mpL (w : Bool) (l : List UInt8) : List Xt := readL (mpT w l)
def mpW (w : Bool) (l : List UInt8) : Bool := cutW (numW w l [104] 2) (numR w l 2) (mpN w l) || decide (readE (mpT w l) ≠ 0)
def mpTV (v : V) (w : Bool) (l : List UInt8) : V := numV (numV v w l 2) (numW w l [104] 2) (numR w l 2) (mpN w l)
def mpR (w : Bool) (l : List UInt8) : List UInt8 := numR (numW w l [104] 2) (numR w l 2) (mpN w l)
theorem numR_length (w : Bool) (l : List UInt8) (n : Int) : (numR w l n).length ≤ l.length := by
  unfold numR
  split
  · exact Nat.le_refl _
  · simp
theorem mpTV_txt {v : V} {l : List UInt8} (h : txtV v = some l) (w : Bool) : txtV (mpTV v w l) = some (mpR w l) := numV_txt (numV_txt h w 2) _ _
theorem numL_one (w : Bool) (l : List UInt8) : ∃ x, numL w l [104] 2 = [x] ∧ x < 65536 := by
  unfold numL
  split
  · exact ⟨0, rfl, by omega⟩
  · rename_i h
    simp only [numW, cutW, Bool.not_eq_true, Bool.or_eq_false_iff, decide_eq_false_iff_not, ne_eq, Decidable.not_not] at h
    have h2 : ¬ (l.length : Int) < 2 := h.1.2
    have hcl : cutL w l 2 = l.take 2 := by rw [cutL, if_neg (by simp [h.1.1, h2])]; rfl
    rw [hcl]
    have hl : (l.take 2).length = 2 := by simp; omega
    have hlt := leN_lt (l.take 2)
    rw [hl] at hlt
    refine ⟨leN (l.take 2), ?_, by omega⟩
    match l, hl with
    | a :: b :: r, _ => simp [unpackN, unpackS, sizeL, okT, mayB]
def D35 : Orc := ((Orc.nil.add n_extent_Read (sp1 sp_xread)).addL n_snap_Read_1 sp_cut1).addL n_snap_Read_2 sp_numbers
theorem D35_ok : OOk Tryz.prog D35 := ((OOk.nil.add sp_xread_ok).addL sp_cut1_ok).addL sp_numbers_ok
theorem f_h : formOk ⟨#[104]⟩ = true := by decide
theorem c_mapped (b0 : List V) (bx : List (List V)) (v : V) (w : Bool) (tips : List Tip) (l : List UInt8) (hv : txtV v = some l) (hl : l.length ≤ 2 ^ 40) :
    Loc Tryz.prog n_snap_Read_3 [.ptr 4 0, .ptr 3 0, .ptr 2 0] ⟨b0 :: [v] :: [.val (.bool w)] :: [.func 43 [.ptr 2 0, .ptr 1 0]] :: [.func 44 [.ptr 3 0, .ptr 2 0]] :: bx, tips⟩ (enc (mpL w l))
      ⟨b0 :: [mpTV v w l] :: [.val (.bool (mpW w l))] :: [.func 43 [.ptr 2 0, .ptr 1 0]] :: [.func 44 [.ptr 3 0, .ptr 2 0]] :: bx, tips⟩ := by
  refine Loc.ofC D35_ok hm F_snap_Read_3_ok (by simp [F_snap_Read_3]) (.inl (by simp [cleanL, Enc.cl])) (bx.length + 5) tips.length (by simp) (by simp) fun hu => ?_
  simp only [List.length_cons, underX, Bool.and_eq_true, underL, V.under, decide_eq_true_eq, Bool.and_true] at hu
  obtain ⟨u1, u2, _, _, _, u3⟩ := hu
  have uv := txtV_under hv u2 w 2
  have hv1 := numV_txt hv w 2
  have uv2 := txtV_under hv1 uv (numW w l [104] 2) (mpN w l)
  have hl1 := numR_length w l 2
  obtain ⟨x, hx, hxl⟩ := numL_one w l
  have hxN : mpN w l = x := by simp [mpN, hx]
  have w1 := IntWalk.i64_in (x : Int) (by omega)
  have hl2 : (numR w l 2).length ≤ 2 ^ 40 := by omega
  rw [hxN] at uv2
  have e1 : mpT w l = cutL (numW w l [104] 2) (numR w l 2) x := by rw [mpT, hxN]
  have hcl := cutL_length (numW w l [104] 2) (numR w l 2) x
  have hcl2 : (cutL (numW w l [104] 2) (numR w l 2) x).length ≤ 1099511627776 := by omega
  rw [mpTV, mpW, mpL, hxN, e1]
  cases hc : cutW (numW w l [104] 2) (numR w l 2) x <;> simp [F_snap_Read_3, D35, sp_numbers, numM, sp_cut1, cutM, hv, hl, f_h, hx, w1, hv1, hl2, hc, hcl2, u1, u3, uv2, decX_map]
def mapM (m : Mem) : Option (List Xt × Mem) := match m.boxes with
  | b0 :: [v] :: [.val (.bool w)] :: [.func 43 [.ptr 2 0, .ptr 1 0]] :: [.func 44 [.ptr 3 0, .ptr 2 0]] :: bx => (txtV v).bind fun l => if l.length ≤ 2 ^ 40 then
      some (mpL w l, ⟨b0 :: [mpTV v w l] :: [.val (.bool (mpW w l))] :: [.func 43 [.ptr 2 0, .ptr 1 0]] :: [.func 44 [.ptr 3 0, .ptr 2 0]] :: bx, m.tips⟩) else none
  | _ => none
def sp_mapped : List V → Mem → Option (V × Mem)
  | [.ptr 4 0, .ptr 3 0, .ptr 2 0], m => (mapM m).map fun p => (enc p.1, p.2)
  | _, _ => none
theorem sp_mapped_ok : EOkL Tryz.prog n_snap_Read_3 sp_mapped := by
  intro args m v m' h
  unfold sp_mapped at h
  split at h
  · simp only [Option.map_eq_some_iff] at h
    obtain ⟨p, hp, h⟩ := h
    cases h
    obtain ⟨bo, tips⟩ := m
    unfold mapM at hp
    simp only at hp
    split at hp
    · rename_i b0 v w bx
      simp only [Option.bind_eq_some_iff] at hp
      obtain ⟨l, hl, hp⟩ := hp
      split at hp <;> cases hp
      exact c_mapped b0 bx v w tips l hl (by assumption)
    · cases hp
  · cases h
end Go.Av

namespace Go.Av
open Enc (enc dec)
open Cel (cs dc)
open Go.Proofs Pl

/-- So many checkpoints, as they are read; is it wrong behind them; what is behind them. -/
def rdPts : Nat → Bool → List UInt8 → List Pt × Bool × List UInt8
  | 0, w, l => ([], w, l)
  | k + 1, w, l => if w = true then ([], w, l) else
    let N := numL w l [119, 119] 8
    let w1 := numW w l [119, 119] 8
    let l1 := numR w l 8
    let r := rdPts k (mpW w1 l1) (mpR w1 l1)
    (⟨N.headD 0, (N.drop 1).headD 0, mpL w1 l1⟩ :: r.1, r.2)
/-- A state, as it is read: it, is it wrong, and what is left. -/
def rdS (w : Bool) (l : List UInt8) : Sta × Bool × List UInt8 :=
  let N := numL w l [98, 119, 119, 98, 104] 12
  let w1 := numW w l [98, 119, 119, 98, 104] 12
  let l1 := numR w l 12
  let n4 := N.getD 4 0
  let staged := cutL w1 l1 n4
  let w2 := cutW w1 l1 n4
  let l2 := numR w1 l1 n4
  let r := rdPts (N.getD 3 0) (mpW w2 l2) (mpR w2 l2)
  (⟨N.getD 0 0, N.getD 1 0, mpL w2 l2, r.1, N.getD 2 0, staged⟩, r.2)
def readS (b : List UInt8) : Option Sta :=
  let r := rdS (decide (openE b ≠ 0)) (openT b)
  if r.2.1 = true ∨ r.2.2 ≠ [] ∨ staOk r.1 = false then none else some r.1

@[simp] def sp_open (b : List UInt8) : Option (V × List Tip) := if b.length ≤ 2 ^ 40 then some (.tuple [.row 0 1 ((openT b).map cs), enc (openE b)], [(5, 1, (openT b).length)]) else none
theorem sp_open_ok : EOk Tryz.prog n_crc_Open (sp1 sp_open) := sp1_ok fun b r h => by
  simp only [sp_open] at h
  split at h <;> cases h
  exact c_crc_Open b (by assumption)
def D36 : Orc := (((((Orc.nil.add n_crc_Open (sp1 sp_open)).add n_bytes_Clone (sp1 sp_clone)).add n_state_Check (sp1 sp_stCheck)).addL n_snap_Read_1 sp_cut1).addL n_snap_Read_2 sp_numbers).addL n_snap_Read_3 sp_mapped
theorem D36_ok : OOk Tryz.prog D36 := (((((OOk.nil.add sp_open_ok).add sp_clone_ok).add sp_stCheck_ok).addL sp_cut1_ok).addL sp_numbers_ok).addL sp_mapped_ok
def rdQ (b : List UInt8) : Sta := (readS b).getD Sta.zero
def rdE (b : List UInt8) : Int := if (readS b).isSome = true then 0 else 120
theorem leN_lt' (l : List UInt8) (n : Nat) : leN (l.take n) < 256 ^ n := by
  have h := leN_lt (l.take n)
  exact Nat.lt_of_lt_of_le h (Nat.pow_le_pow_right (by decide) (by simp; omega))
theorem cut_ok {w : Bool} {l : List UInt8} {n : Int} (h : cutW w l n = false) : ¬ (w = true ∨ (l.length : Int) < n) := by
  simp only [cutW, Bool.or_eq_false_iff, decide_eq_false_iff_not] at h
  simp [h.1, h.2]
theorem unpack_bwwbh {b : List UInt8} (h : b.length = 12) : unpackN [98, 119, 119, 98, 104] b = [leN (b.take 1), leN ((b.drop 1).take 4), leN ((b.drop 5).take 4), leN ((b.drop 9).take 1), leN ((b.drop 10).take 2)] := by
  match b, h with
  | a1 :: a2 :: a3 :: a4 :: a5 :: a6 :: a7 :: a8 :: a9 :: a10 :: a11 :: a12 :: [], _ =>
    simp [unpackN, unpackS, sizeL, okT, mayB]
theorem unpack_ww {b : List UInt8} (h : b.length = 8) : unpackN [119, 119] b = [leN (b.take 4), leN ((b.drop 4).take 4)] := by
  match b, h with
  | a1 :: a2 :: a3 :: a4 :: a5 :: a6 :: a7 :: a8 :: [], _ =>
    simp [unpackN, unpackS, sizeL, okT, mayB]
theorem cutL_len {w : Bool} {l : List UInt8} {n : Nat} (h : cutW w l n = false) : cutL w l n = l.take n ∧ (cutL w l n).length = n := by
  have h2 := cut_ok h
  have e : cutL w l n = l.take n := by rw [cutL, if_neg h2]; rfl
  simp only [not_or] at h2
  exact ⟨e, by rw [e]; simp; omega⟩
theorem numL_five (w : Bool) (l : List UInt8) : ∃ a b c d e, numL w l [98, 119, 119, 98, 104] 12 = [a, b, c, d, e] ∧ a < 256 ∧ b < 2 ^ 32 ∧ c < 2 ^ 32 ∧ d < 256 ∧ e < 65536 := by
  unfold numL
  split
  · exact ⟨0, 0, 0, 0, 0, rfl, by decide, by decide, by decide, by decide, by decide⟩
  · rename_i h
    simp only [numW, Bool.not_eq_true, Bool.or_eq_false_iff] at h
    have h12 : (cutL w l 12).length = 12 := (cutL_len (n := 12) h.1).2
    rw [unpack_bwwbh h12]
    exact ⟨_, _, _, _, _, rfl, leN_lt' _ 1, leN_lt' _ 4, leN_lt' _ 4, leN_lt' _ 1, leN_lt' _ 2⟩
theorem numL_two (w : Bool) (l : List UInt8) : ∃ a b, numL w l [119, 119] 8 = [a, b] ∧ a < 2 ^ 32 ∧ b < 2 ^ 32 := by
  unfold numL
  split
  · exact ⟨0, 0, rfl, by decide, by decide⟩
  · rename_i h
    simp only [numW, Bool.not_eq_true, Bool.or_eq_false_iff] at h
    have h8 : (cutL w l 8).length = 8 := (cutL_len (n := 8) h.1).2
    rw [unpack_ww h8]
    exact ⟨_, _, rfl, leN_lt' _ 4, leN_lt' _ 4⟩
theorem readL_length (b : List UInt8) : (readL b).length ≤ 64 := by
  unfold readL
  cases h : readX b with
  | none => simp
  | some l =>
    have := (readX_some.1 h).1
    simp only [wrOk, Bool.and_eq_true, decide_eq_true_eq] at this
    exact this.1
theorem rdPts_lens : ∀ (k : Nat) (w : Bool) (l : List UInt8), (rdPts k w l).1.length ≤ k ∧ ∀ p ∈ (rdPts k w l).1, p.map.length ≤ 64
  | 0, w, l => by simp [rdPts]
  | k + 1, w, l => by
    unfold rdPts
    split
    · simp
    · have ih := rdPts_lens k (mpW (numW w l [119, 119] 8) (numR w l 8)) (mpR (numW w l [119, 119] 8) (numR w l 8))
      refine ⟨by simp only [List.length_cons]; omega, fun p hp => ?_⟩
      rcases List.mem_cons.1 hp with rfl | hp
      · exact readL_length _
      · exact ih.2 p hp
def SReadI (n0 n1 n2 n3 n4 : Nat) (M : List Xt) (sg : List UInt8) (R : List Pt × Bool × List UInt8) (k : Nat) (s : Nat → V) (m : Mem) : Prop :=
  ∃ (i t : Nat) (x sv : V) (w : Bool) (l : List UInt8) (acc : List Pt) (bx : List (List V)) (tips : List Tip), i + k = n3 ∧ s 2 = .ptr 0 0 ∧ s 4 = .ptr 1 0 ∧ s 5 = .ptr 2 0 ∧ s 7 = .ptr 4 0 ∧ s 8 = .func n_snap_Read_3 [.ptr 4 0, .ptr 3 0, .ptr 2 0] ∧
    s 9 = .lit 1 [[.val (.int .u64 n0)], [.val (.int .u64 n1)], [.val (.int .u64 n2)], [.val (.int .u64 n3)], [.val (.int .u64 n4)]] ∧ s 10 = .val (.int .i64 i) ∧ txtV x = some l ∧ l.length ≤ 2 ^ 40 ∧ txtV sv = some sg ∧
    R = (acc ++ (rdPts k w l).1, (rdPts k w l).2) ∧ acc.length = i ∧
    m = ⟨[.val (.int .i64 n0), .val (.int .i64 n1), .lit 5 (M.map cs), .row t 3 (acc.map cs), .val (.int .i64 n2), sv] :: [x] :: [.val (.bool w)] :: [.func 43 [.ptr 2 0, .ptr 1 0]] :: [.func 44 [.ptr 3 0, .ptr 2 0]] :: bx, tips⟩ ∧ tips[t]? = some (60, 3, acc.length)
set_option maxRecDepth 4000 in
theorem c_snap_Read (b : List UInt8) (hb : b.length ≤ 2 ^ 40) : Pure Tryz.prog n_snap_Read [enc b] (.tuple [enc (rdQ b), enc (rdE b)]) [] := by
  refine Pure.ofC D36_ok hm F_snap_Read_ok (by simp [F_snap_Read]) (by simp [V.res, V.res1]) ?_
  obtain ⟨w0, hw0⟩ : ∃ w0, (!decide (openE b = 0)) = w0 := ⟨_, rfl⟩
  obtain ⟨l0, hl0⟩ : ∃ l0, l0 = openT b := ⟨_, rfl⟩
  obtain ⟨n0, n1, n2, n3, n4, hN, hn0, hn1, hn2, hn3, hn4⟩ := numL_five w0 l0
  have hol : (openT b).length ≤ 2 ^ 40 := by
    unfold openT
    split
    · simp; omega
    · simp
  rw [← hl0] at hol
  have v0 := IntWalk.i64_in (n0 : Int) (by omega)
  have v1 := IntWalk.i64_in (n1 : Int) (by omega)
  have v2 := IntWalk.i64_in (n2 : Int) (by omega)
  have v3 := IntWalk.i64_in (n3 : Int) (by omega)
  have v4 := IntWalk.i64_in (n4 : Int) (by omega)
  have hv1 := numV_txt (v := .row 0 1 (l0.map cs)) (txtV_row 0 l0) w0 12
  have hl1 := numR_length w0 l0 12
  obtain ⟨w1, hw1⟩ : ∃ w1, numW w0 l0 [98, 119, 119, 98, 104] 12 = w1 := ⟨_, rfl⟩
  obtain ⟨l1, hl1e⟩ : ∃ l1, numR w0 l0 12 = l1 := ⟨_, rfl⟩
  obtain ⟨x1, hx1⟩ : ∃ x1, numV (.row 0 1 (l0.map cs)) w0 l0 12 = x1 := ⟨_, rfl⟩
  rw [hx1, hl1e] at hv1
  rw [hl1e] at hl1
  have hv2 := numV_txt hv1 w1 n4
  have hl2 := numR_length w1 l1 n4
  have hcl := cutL_length w1 l1 n4
  obtain ⟨w2, hw2⟩ : ∃ w2, cutW w1 l1 n4 = w2 := ⟨_, rfl⟩
  obtain ⟨l2, hl2e⟩ : ∃ l2, numR w1 l1 n4 = l2 := ⟨_, rfl⟩
  obtain ⟨x2, hx2⟩ : ∃ x2, numV x1 w1 l1 n4 = x2 := ⟨_, rfl⟩
  rw [hx2, hl2e] at hv2
  rw [hl2e] at hl2
  have hv3 := mpTV_txt hv2 w2
  obtain ⟨w3, hw3⟩ : ∃ w3, mpW w2 l2 = w3 := ⟨_, rfl⟩
  obtain ⟨l3, hl3e⟩ : ∃ l3, mpR w2 l2 = l3 := ⟨_, rfl⟩
  obtain ⟨x3, hx3⟩ : ∃ x3, mpTV x2 w2 l2 = x3 := ⟨_, rfl⟩
  rw [hx3, hl3e] at hv3
  have b1 : l1.length ≤ 1099511627776 := by omega
  have b2 : l2.length ≤ 1099511627776 := by omega
  have b3 : (cutL w1 l1 n4).length ≤ 140737488355328 := by omega
  simp [F_snap_Read, D36, sp_numbers, numM, sp_cut1, cutM, sp_mapped, mapM, hb, f_bwwbh, ← hl0, hw0, hol, hN, v0, v1, v2, v3, v4, hw1, hx1, hv1, hw2, hx2, hv2, hw3, hx3, hv3, b1, b2, b3, decX_map]
  obtain ⟨R, hR⟩ : ∃ R, rdPts n3 w3 l3 = R := ⟨_, rfl⟩
  have hrd : readS b = if R.2.1 = true ∨ R.2.2 ≠ [] ∨ staOk ⟨n0, n1, mpL w2 l2, R.1, n2, cutL w1 l1 n4⟩ = false then none else some ⟨n0, n1, mpL w2 l2, R.1, n2, cutL w1 l1 n4⟩ := by
    rw [← hR]
    have e : decide (openE b ≠ 0) = w0 := by rw [← hw0]; simp
    simp only [readS, rdS, e, ← hl0, hN, hw1, hl1e, hw2, hl2e, hw3, hl3e, List.getD_cons_zero, List.getD_cons_succ]
  have hl3 : l3.length ≤ 2 ^ 40 := by
    rw [← hl3e]
    have h1 := numR_length (numW w2 l2 [104] 2) (numR w2 l2 2) (mpN w2 l2)
    have h2 := numR_length w2 l2 2
    unfold mpR
    omega
  refine wp_loop (SReadI n0 n1 n2 n3 n4 (mpL w2 l2) (cutL w1 l1 n4) R) n3 ⟨_, _, Wkn.boxRow 0 3 60 3 rfl rfl, ⟨0, 3, x3, _, w3, l3, [], _, _, by omega, by simp, by simp, by simp, by simp, by simp, by simp, by simp, hv3, hl3, txtV_row 2 _, by rw [hR]; rfl, rfl, rfl, rfl⟩⟩ fun k s m ⟨i, t, x, sv, w, l, acc, bx, tips, hik, s2, s4, s5, s7, s8, s9, s10, hx, hl, hsv, hRR, hacc, hm, ht⟩ => ?_
  subst hm
  by_cases hgo : i < n3 ∧ w = false
  · obtain ⟨hi, rfl⟩ := hgo
    obtain ⟨k, rfl⟩ : ∃ j, k = j + 1 := ⟨k - 1, by omega⟩
    obtain ⟨p0, p1, hp, hp0, hp1⟩ := numL_two false l
    have y0 := IntWalk.i64_in (p0 : Int) (by omega)
    have y1 := IntWalk.i64_in (p1 : Int) (by omega)
    have y2 := IntWalk.i64_in ((i : Int) + 1) (by omega)
    have hx4 := numV_txt hx false 8
    have hl4 := numR_length false l 8
    obtain ⟨w4, hw4⟩ : ∃ w4, numW false l [119, 119] 8 = w4 := ⟨_, rfl⟩
    obtain ⟨l4, hl4e⟩ : ∃ l4, numR false l 8 = l4 := ⟨_, rfl⟩
    obtain ⟨x4, hx4e⟩ : ∃ x4, numV x false l 8 = x4 := ⟨_, rfl⟩
    rw [hl4e] at hl4
    rw [hx4e, hl4e] at hx4
    have hx5 := mpTV_txt hx4 w4
    obtain ⟨w5, hw5⟩ : ∃ w5, mpW w4 l4 = w5 := ⟨_, rfl⟩
    obtain ⟨l5, hl5e⟩ : ∃ l5, mpR w4 l4 = l5 := ⟨_, rfl⟩
    obtain ⟨x5, hx5e⟩ : ∃ x5, mpTV x4 w4 l4 = x5 := ⟨_, rfl⟩
    rw [hx5e, hl5e] at hx5
    have b4 : l4.length ≤ 1099511627776 := by omega
    have hl5 : l5.length ≤ 2 ^ 40 := by
      rw [← hl5e]
      have h1 := numR_length (numW w4 l4 [104] 2) (numR w4 l4 2) (mpN w4 l4)
      have h2 := numR_length w4 l4 2
      unfold mpR
      omega
    have hR2 : R = ((acc ++ [⟨p0, p1, mpL w4 l4⟩]) ++ (rdPts k w5 l5).1, (rdPts k w5 l5).2) := by
      rw [hRR, rdPts, if_neg (by simp)]
      simp only [hp, hw4, hl4e, hw5, hl5e, List.append_assoc, List.singleton_append]
      rfl
    simp [F_snap_Read_L0, D36, sp_numbers, numM, sp_cut1, cutM, sp_mapped, mapM, f_ww, s2, s4, s5, s7, s8, s9, s10, hx, hl, hp, y0, y1, y2, v3, hi, hw4, hx4e, hx4, hw5, hx5e, hx5, b4, decX_map, ht]
    exact ⟨by omega, k, by omega, IW.of ⟨i + 1, t, x5, sv, w5, l5, acc ++ [⟨p0, p1, mpL w4 l4⟩], bx, _, by omega, by simp [s2], by simp [s4], by simp [s5], by simp [s7], by simp [s8], by simp [s9], by simp, hx5, hl5, hsv, hR2, by simp [hacc],
      by rw [List.map_append]; rfl, by simp [(List.getElem?_eq_some_iff.1 ht).1]⟩⟩
  · have hRe : R = (acc, w, l) := by
      rw [hRR]
      have : rdPts k w l = ([], w, l) := by
        cases k with
        | zero => rfl
        | succ k => rw [rdPts, if_pos]; cases w with
          | true => rfl
          | false => exact absurd ⟨by omega, rfl⟩ hgo
      rw [this]
      simp
    have hRl := rdPts_lens n3 w3 l3
    rw [hR, hRe] at hRl
    simp only [hRe] at hrd
    have z1 := IntWalk.i64_in (l.length : Int) (by omega)
    have hml := readL_length (mpT w2 l2)
    have hacl : acc.length < 256 := by omega
    have hsl : staLen ⟨n0, n1, mpL w2 l2, acc, n2, cutL w1 l1 n4⟩ := ⟨by show (mpL w2 l2).length ≤ 2 ^ 30; unfold mpL; omega, by show acc.length ≤ 2 ^ 30; omega, fun p hp => by have := hRl.2 p hp; omega, by
      show (cutL w1 l1 n4).length ≤ 2 ^ 30
      have : (cutL w1 l1 n4).length ≤ n4 := by unfold cutL; split <;> simp <;> omega
      omega⟩
    have hgo2 : w = false → n3 ≤ i := fun h => by
      rcases Nat.lt_or_ge i n3 with h2 | h2
      · exact absurd ⟨h2, h⟩ hgo
      · exact h2
    cases w with
    | true =>
      have hq : readS b = none := by rw [hrd]; simp
      rcases txtV_cases hx with rfl | ⟨tx, rfl⟩ <;> rcases txtV_cases hsv with rfl | ⟨ts, rfl⟩ <;>
        simp [F_snap_Read_L0, D36, s2, s4, s5, s7, s8, s9, s10, v3, z1, decX_map, rdQ, rdE, hq, Sta.zero]
    | false =>
      have hni := hgo2 rfl
      have hni2 : ¬ i < n3 := by omega
      obtain ⟨S, hS⟩ : ∃ S : Sta, S = ⟨n0, n1, mpL w2 l2, acc, n2, cutL w1 l1 n4⟩ := ⟨_, rfl⟩
      obtain ⟨g1, g2, g3, g4⟩ := hsl
      have g1' : (mpL w2 l2).length ≤ 1073741824 := g1
      have g2' : acc.length ≤ 1073741824 := g2
      have g3' : ∀ p ∈ acc, p.map.length ≤ 1073741824 := g3
      have g4' : (cutL w1 l1 n4).length ≤ 1073741824 := g4
      have hq3 : (l = [] ∧ staE S = 0 ∧ readS b = some S) ∨ (l = [] ∧ staE S = 110 ∧ readS b = none) ∨ (l ≠ [] ∧ readS b = none) := by
        rw [hrd, ← hS]
        by_cases hl0 : l = []
        · cases hok : staOk S with
          | true => exact .inl ⟨hl0, by simp [staE, hok], by simp [hl0]⟩
          | false => exact .inr (.inl ⟨hl0, by simp [staE, hok], by simp⟩)
        · exact .inr (.inr ⟨hl0, by simp [hl0]⟩)
      rcases txtV_cases hx with rfl | ⟨tx, rfl⟩ <;> rcases txtV_cases hsv with rfl | ⟨ts, rfl⟩ <;> rcases hq3 with ⟨rfl, h2, h3⟩ | ⟨rfl, h2, h3⟩ | ⟨h1, h3⟩
      all_goals first
        | (have hp1 : ¬ l.length = 0 := by simpa using h1
           have hp2 : 0 < l.length := by omega
           simp [F_snap_Read_L0, D36, s2, s4, s5, s7, s8, s9, s10, v3, hni, hni2, z1, decX_map, rdQ, rdE, h3, hp2, Sta.zero]; done)
        | skip
      all_goals
        have z0 : IntKind.i64.wrap 0 = 0 := rfl
        simp [F_snap_Read_L0, D36, s2, s4, s5, s7, s8, s9, s10, v3, hni, hni2, z1, z0, decX_map, rdQ, rdE, ← hS, h2, h3, g1', g2', g3', g4']
      all_goals
        refine ⟨by rw [hS]; exact ⟨g1', g2', g3', g4'⟩, ?_⟩
        first
          | (simp [Sta.zero]; done)
          | (rw [hS]; exact ⟨rfl, rfl, rfl, rfl, rfl, rfl⟩)
end Go.Av

namespace Go.Av
open Enc (enc dec)
open Cel (cs dc)
open Go.Proofs Pl

/-- Bytes, cut in pieces of so many. -/
def chunksF (n : Nat) : Nat → List UInt8 → List (List UInt8)
  | 0, _ => []
  | k + 1, l => if l = [] then [] else l.take n :: chunksF n k (l.drop n)
def chunks (n : Nat) (l : List UInt8) : List (List UInt8) := chunksF n l.length l
theorem chunksF_fuel (n : Nat) (hn : 0 < n) : ∀ (k j : Nat) (l : List UInt8), l.length ≤ k → l.length ≤ j → chunksF n k l = chunksF n j l
  | 0, j, l, h, _ => by
    have : l = [] := List.length_eq_zero_iff.1 (by omega)
    subst this
    cases j <;> simp [chunksF]
  | k + 1, 0, l, _, h => by
    have : l = [] := List.length_eq_zero_iff.1 (by omega)
    subst this
    simp [chunksF]
  | k + 1, j + 1, l, h1, h2 => by
    rw [chunksF, chunksF]
    split
    · rfl
    · rename_i hl
      have : 0 < l.length := List.length_pos_iff.2 hl
      rw [chunksF_fuel n hn k j (l.drop n) (by simp; omega) (by simp; omega)]
theorem chunks_cons {n : Nat} (hn : 0 < n) {l : List UInt8} (h : l ≠ []) : chunks n l = l.take n :: chunks n (l.drop n) := by
  have hp : 0 < l.length := List.length_pos_iff.2 h
  obtain ⟨k, hk⟩ : ∃ k, l.length = k + 1 := ⟨l.length - 1, by omega⟩
  rw [chunks, hk, chunksF, if_neg h, chunks, chunksF_fuel n hn k (l.drop n).length (l.drop n) (by simp; omega) (Nat.le_refl _)]
/-- The iterator's boxes. -/
def ChunkK (a b : Nat) (l : List UInt8) (n : Nat) (m : Mem) : Prop := m.boxes[a]? = some [.lit 1 (l.map cs)] ∧ m.boxes[b]? = some [.val (.int .i64 n)]
def ChunkI (Y : YRel) (L a b : Nat) (l : List UInt8) (n : Nat) (m1 : Mem) (k : Nat) (s : Nat → V) (m : Mem) : Prop :=
  ∃ i : Nat, i + k = l.length + n ∧ s 0 = .yld L ∧ s 1 = .ptr a 0 ∧ s 2 = .ptr b 0 ∧ s 4 = .val (.int .i64 i) ∧ ChunkK a b l n m ∧ YRun Y L (ChunkK a b l n) ((chunks n (l.drop i)).map fun c => [.full 1 (c.map cs)]) m m1
theorem c_chunk1 (Y : YRel) (L a b : Nat) (l : List UInt8) (n : Nat) (hn : 0 < n) (hn2 : n ≤ 2 ^ 40) (hl : l.length ≤ 2 ^ 40) (m m1 : Mem) (hK : ChunkK a b l n m)
    (h : YRun Y L (ChunkK a b l n) ((chunks n l).map fun c => [.full 1 (c.map cs)]) m m1) :
    LocY Tryz.prog Y n_slices_Chunk_byte_1 [.yld L, .ptr a 0, .ptr b 0] m (.tuple []) m1 := by
  refine LocY.ofX OOk.nil hm F_slices_Chunk_byte_1_ok (by simp [F_slices_Chunk_byte_1]) ?_
  simp [F_slices_Chunk_byte_1]
  refine wp_loop (ChunkI Y L a b l n m1) (l.length + n) (IW.of ⟨0, by omega, by simp, by simp, by simp, by simp, hK, h⟩) fun k s m ⟨i, hik, s0, s1, s2, s4, ⟨k1, k2⟩, hr⟩ => ?_
  have w1 := IntWalk.i64_in (l.length : Int) (by omega)
  by_cases hi : i < l.length
  · have hne : l.drop i ≠ [] := by
      intro e
      have := congrArg List.length e
      simp at this
      omega
    rw [chunks_cons hn hne, List.map_cons] at hr
    have w2 := IntWalk.i64_in (((l.length - i : Nat) : Int)) (by omega)
    have w3 := IntWalk.i64_in ((i : Int) + min (n : Int) ((l.length - i : Nat) : Int)) (by omega)
    have w4 := IntWalk.i64_in ((i : Int) + n) (by omega)
    have e1 : ((i : Int) + min (n : Int) ((l.length - i : Nat) : Int)).toNat = i + min n (l.length - i) := by omega
    have e2 : (((l.map cs).take (i + min n (l.length - i))).drop i : List (List V)) = ((l.drop i).take n).map cs := by
      rw [List.drop_take, List.map_take, List.map_drop]
      have : i + min n (l.length - i) - i = min n (l.length - i) := by omega
      rw [this]
      rcases Nat.le_total n (l.length - i) with h | h
      · rw [Nat.min_eq_left h]
      · rw [Nat.min_eq_right h, List.take_of_length_le (by simp), List.take_of_length_le (by simp; omega)]
    simp [F_slices_Chunk_byte_1_L0, s0, s1, s2, s4, k1, k2, hi, w2, w3, w4, mxOk]
    refine ⟨by omega, ⟨by omega, by omega⟩, ?_⟩
    rw [e1, e2]
    cases hr with
    | stop hy =>
      refine ⟨_, _, hy, ?_⟩
      simp
    | next hy hk h2 =>
      refine ⟨_, _, hy, ?_⟩
      simp [hk.2, s2, s4, w4]
      refine ⟨k - n, by omega, IW.of ⟨i + n, by omega, by simp [s0], by simp [s1], by simp [s2], by simp, hk, ?_⟩⟩
      rw [← List.drop_drop]
      exact h2
  · have he : l.drop i = [] := List.drop_eq_nil_of_le (by omega)
    rw [he] at hr
    have hm1 : m = m1 := by
      cases hr
      rfl
    simp [F_slices_Chunk_byte_1_L0, s0, s1, s2, s4, k1, k2, hi, w1]
    exact hm1
/-- The iterator itself. -/
def sp_chunk : List V → Mem → Option (V × Mem)
  | [v, u], m => (dec v : Option (List UInt8)).bind fun l => (dec u : Option Int).bind fun n => if 1 ≤ n then
      some (.func n_slices_Chunk_byte_1 [.ptr m.boxes.length 0, .ptr (m.boxes.length + 1) 0], ⟨m.boxes ++ [[.lit 1 (l.map cs)], [.val (.int .i64 n)]], m.tips⟩) else none
  | _, _ => none
theorem sp_chunk_ok : EOkL Tryz.prog n_slices_Chunk_byte sp_chunk := by
  intro args m v m' h
  unfold sp_chunk at h
  split at h
  · rename_i a u
    simp only [Option.bind_eq_some_iff] at h
    obtain ⟨l, hl, n, hn, h⟩ := h
    split at h
    · rename_i h1
      cases h
      refine Loc.wk (wk_dec (wk_dec wk_nil hn) hl) (Loc.ofX OOk.nil hm F_slices_Chunk_byte_ok (by simp [F_slices_Chunk_byte]) ?_)
      have h2 : ¬ n < 1 := by omega
      simp [F_slices_Chunk_byte, h2]
    · cases h
  · cases h
def D37 : Orc := Orc.nil.addL n_slices_Chunk_byte sp_chunk
theorem D37_ok : OOk Tryz.prog D37 := OOk.nil.addL sp_chunk_ok
def sp_parts : List V → Mem → Option (V × Mem)
  | [v], m => (dec v : Option (List UInt8)).bind fun l => 
      some (.func n_slices_Chunk_byte_1 [.ptr m.boxes.length 0, .ptr (m.boxes.length + 1) 0], ⟨m.boxes ++ [[.lit 1 (l.map cs)], [.val (.int .i64 4096)]], m.tips⟩)
  | _, _ => none
theorem sp_parts_ok : EOkL Tryz.prog n_snap_parts sp_parts := by
  intro args m v m' h
  unfold sp_parts at h
  split at h
  · rename_i a
    simp only [Option.bind_eq_some_iff] at h
    obtain ⟨l, hl, h⟩ := h
    cases h
    refine Loc.wk (wk_dec wk_nil hl) (Loc.ofX D37_ok hm F_snap_parts_ok (by simp [F_snap_parts]) ?_)
    simp [F_snap_parts, D37, sp_chunk]
  · cases h
end Go.Av

namespace Go.Av
open Enc (enc dec)
open Cel (cs dc)
open Go.Proofs Pl

theorem wk1_refl (e : V) : wk1 e e := by cases e <;> simp [wk1]
theorem wkL_refl : ∀ l : List V, wkL l l
  | [] => trivial
  | e :: l => ⟨wk1_refl e, wkL_refl l⟩
/-- A row and a plain value, where the row's elements may be weakened. -/
theorem Pure.ofRW {α : Type} [Cel α] {P : Program} {D : Orc} {own : Nat → Bool} {f : FuncId} {F : F} {args : List V} (hD : OOk P D) (hm : P.follows .mixedOrders = true) (hF : compF P own f = some F) (hn : args.length ≤ F.n) {l : List α} {e : V} {tip : Tip} (hc : e.isClean = true)
    (h : wp P noY D F.c (argS args) ⟨[], []⟩ (Fin F.rs fun v m => ∃ t, ((∃ xs, v = .tuple [.row t (Cel.sz α) xs, e] ∧ decX xs = some l) ∨ (v = .tuple [.val (.slice none 0 0), e] ∧ l = [])) ∧ m.tips[t]? = some tip)) : Pure P f args (.tuple [.row 0 (Cel.sz α) (l.map cs), e]) [tip] := by
  have hcl : callable P f = true := by
    unfold compF at hF
    split at hF
    · assumption
    · cases hF
  have hk : ∀ t, keepN [t] (.tuple [.row t (Cel.sz α) (l.map cs), e]) (.tuple [.row 0 (Cel.sz α) (l.map cs), e]) := by
    intro t
    refine ⟨⟨⟨rfl, rfl, rfl⟩, clean_cs l⟩, ?_, trivial⟩
    unfold keepN1
    split
    · simp [V.isClean] at hc
    · rename_i k
      exact ⟨wkL_refl k, by simpa [V.isClean] using hc⟩
    · exact ⟨wk1_refl e, hc⟩
  refine ⟨hcl, keepN_res (hk 0), fun I w vals hI hr => ?_⟩
  refine (calls_sound hm hF hn (Good.start hI) hr YOk.no (wp_sound hD _ h)).2.mono fun en w' ⟨x, M', v, m', he, hE, hg, hx, t, hv, ht⟩ => ?_
  refine ⟨x, M'.sel [t], he, hg.sel (by simp) (by simp [selTips, ht]), ?_⟩
  rcases hv with ⟨xs, rfl, hd⟩ | ⟨rfl, rfl⟩
  · refine keepN_rep (hk t) ?_
    obtain ⟨vs, rfl, y, r, hvs, h1, h2⟩ := hx
    exact ⟨vs, rfl, y, r, hvs, row_dec rfl hd h1, h2⟩
  · have h2 : keepN [t] (.tuple [.val (.slice none 0 0), e]) (.tuple [.row 0 (Cel.sz α) [], e]) := ⟨⟨⟨rfl, rfl⟩, rfl⟩, (hk t).2.1, trivial⟩
    exact keepN_rep h2 hx
/-- The records of parts, from a number on. -/
def partsR (seq : Int) : List (List UInt8) → List Rec
  | [] => []
  | c :: l => ⟨2, seq, c⟩ :: partsR (seq + 1) l
theorem partsR_append (seq : Int) (c : List UInt8) : ∀ l : List (List UInt8), partsR seq (l ++ [c]) = partsR seq l ++ [⟨2, seq + l.length, c⟩]
  | [] => by simp [partsR]
  | d :: l => by
    simp only [List.cons_append, partsR, partsR_append (seq + 1) c l, List.length_cons]
    have : seq + 1 + (l.length : Int) = seq + ((l.length + 1 : Nat) : Int) := by omega
    rw [this]
theorem partsR_length (seq : Int) : ∀ l : List (List UInt8), (partsR seq l).length = l.length
  | [] => rfl
  | _ :: l => by simp [partsR, partsR_length (seq + 1) l]
theorem chunksF_length (n : Nat) : ∀ (k : Nat) (l : List UInt8), (chunksF n k l).length ≤ k
  | 0, _ => by simp [chunksF]
  | k + 1, l => by
    rw [chunksF]
    split
    · simp
    · have := chunksF_length n k (l.drop n); simp; omega
theorem chunks_mem {n : Nat} {l : List UInt8} : ∀ c ∈ chunks n l, c.length ≤ l.length := by
  have key : ∀ (k : Nat) (l : List UInt8), ∀ c ∈ chunksF n k l, c.length ≤ l.length := by
    intro k
    induction k with
    | zero => intro l c h; simp [chunksF] at h
    | succ k ih =>
      intro l c h
      rw [chunksF] at h
      split at h
      · cases h
      · rcases List.mem_cons.1 h with rfl | h
        · simp; omega
        · have := ih _ _ h; simp at this; omega
  exact key _ _
def snapParts (q : Sta) : List (List UInt8) := chunks 4096 (snapB q)
def seqOk (seq : Int) : Bool := decide (0 ≤ seq ∧ seq ≤ 2305843009213693952)
/-- A snapshot's records. -/
def recsL (q : Sta) (seq : Int) : List Rec := if staOk q = true ∧ seqOk seq = true then partsR seq (snapParts q) ++ [⟨3, seq + (snapParts q).length, bytesPut [] (snapParts q).length 2⟩] else []
def recsE (q : Sta) (seq : Int) : Int := if staOk q = true then (if seqOk seq = true then errPut (snapParts q).length 2 else 120) else 110
@[simp] def sp_snapWrite (q : Sta) : Option (V × List Tip) := if q.map.length ≤ 2 ^ 30 ∧ q.pts.length ≤ 2 ^ 30 ∧ (∀ p ∈ q.pts, p.map.length ≤ 2 ^ 30) ∧ q.staged.length ≤ 2 ^ 30 then some (.tuple [.row 0 1 ((snapB q).map cs), enc (staE q)], [(5, 1, (snapB q).length)]) else none
theorem sp_snapWrite_ok : EOk Tryz.prog n_snap_Write (sp1 sp_snapWrite) := sp1_ok fun q r h => by
  simp only [sp_snapWrite] at h
  split at h <;> cases h
  exact c_snap_Write q (by assumption)
def D38 : Orc := (((Orc.nil.add n_snap_Write (sp1 sp_snapWrite)).add n_bytes_Clone (sp1 sp_clone)).add n_le_Put (sp3 sp_Put)).addL n_snap_parts sp_parts
theorem D38_ok : OOk Tryz.prog D38 := by
  refine (((OOk.nil.add sp_snapWrite_ok).add (sp1_ok fun l r h => ?_)).add (sp3_ok fun b v w r h => ?_)).addL sp_parts_ok
  · simp only [sp_clone] at h
    split at h <;> cases h
    exact c_clone l (by assumption)
  · simp only [sp_Put] at h
    split at h <;> cases h
    exact c_le_Put b v w (by assumption)
theorem snapB_length (q : Sta) : (snapB q).length ≤ 20000 := by
  unfold snapB
  split
  · rename_i h
    obtain ⟨f1, f2, f3, f4, f5, f6, f7, f8⟩ := staOk_fine h
    have h1 := mapB_length f1
    have h2 : ∀ l : List Pt, (∀ p ∈ l, ptFine q p) → (l.flatMap ptB).length ≤ 2510 * l.length := by
      intro l
      induction l with
      | nil => intro _; simp
      | cons p l ih =>
        intro hl
        have h3 := mapB_length (hl p (List.mem_cons_self ..)).1
        have h4 := ih fun p hp => hl p (List.mem_cons_of_mem _ hp)
        have h5 : (ptB p).length = 8 + (mapB p.map).length := by simp [ptB, leB_length]; omega
        rw [List.flatMap_cons, List.length_append, List.length_cons]
        omega
    have h6 := h2 q.pts f8
    have h7 : (sealS (bodyS q)).length = 16 + q.staged.length + (mapB q.map).length + (q.pts.flatMap ptB).length := by
      simp [sealS, bodyS, headB, leB_length]; omega
    omega
  · simp
def RecsM (q : Sta) (seq : Int) (acc : List (List UInt8)) : Mem :=
  ⟨[cs q, [.val (.int .i64 seq)], [.row 0 3 ((partsR seq acc).map cs)], [.lit 1 ((snapB q).map cs)], [.val (.int .i64 4096)], [St.ready.v], [St.ready.v]], [(40, 3, acc.length), (5, 1, (snapB q).length)]⟩
theorem c_snap_Records (q : Sta) (seq : Int) (hq : staLen q) : Pure Tryz.prog n_snap_Records [enc q, enc seq] (.tuple [.row 0 3 ((recsL q seq).map cs), enc (recsE q seq)]) [(40, 3, (recsL q seq).length)] := by
  have hq' := hq
  unfold staLen at hq'
  obtain ⟨g1, g2, g3, g4⟩ := hq
  have g1' : q.map.length ≤ 1073741824 := g1
  have g2' : q.pts.length ≤ 1073741824 := g2
  have g3' : ∀ p ∈ q.pts, p.map.length ≤ 1073741824 := g3
  have g4' : q.staged.length ≤ 1073741824 := g4
  refine Pure.ofRW (α := Rec) D38_ok hm F_snap_Records_ok (by simp [F_snap_Records]) rfl ?_
  have hsl := snapB_length q
  have hpl : (snapParts q).length ≤ 20000 := Nat.le_trans (chunksF_length _ _ _) hsl
  cases hok : staOk q with
  | false =>
    have e : staE q = 110 := by simp [staE, hok]
    simp [F_snap_Records, D38, g1', g2', g3', g4', e, recsL, recsE, hok]
    exact ⟨g3', 0, rfl⟩
  | true =>
    have e : staE q = 0 := by simp [staE, hok]
    cases hseq : seqOk seq with
    | false =>
      have h1 : seq < 0 ∨ (0 ≤ seq ∧ 2305843009213693952 < seq) := by
        simp [seqOk] at hseq; omega
      rcases h1 with h1 | ⟨h1, h2⟩
      · simp [F_snap_Records, D38, g1', g2', g3', g4', e, recsL, recsE, hok, hseq, h1]
        exact ⟨g3', 0, rfl⟩
      · have h3 : ¬ seq < 0 := by omega
        simp [F_snap_Records, D38, g1', g2', g3', g4', e, recsL, recsE, hok, hseq, h2, h3]
        exact ⟨g3', 0, rfl⟩
    | true =>
      have h1 : ¬ seq < 0 ∧ ¬ 2305843009213693952 < seq := by
        simp [seqOk] at hseq; omega
      simp [F_snap_Records, D38, g1', g2', g3', g4', e, recsL, recsE, hok, hseq, h1.1, h1.2, sp_parts]
      refine ⟨g3', ?_⟩
      refine ⟨_, _, .tuple [], RecsM q seq (snapParts q), .ready, by simp, c_chunk1 _ _ 3 4 (snapB q) 4096 (by decide) (by decide) (by omega) _ _ ⟨rfl, rfl⟩ ?run, by simp [RecsM, loopAt], by simp, ?fin⟩
      case run =>
        refine YRun.list (fun c => [.full 1 (c.map cs)]) (RecsM q seq) (snapParts q) ?_ ?_
        rotate_left
        · intro acc x r h
          exact ⟨rfl, rfl⟩
        intro acc x r h
        refine Or.inr ⟨rfl, ?_⟩
        have hal : acc.length ≤ 20000 := by
          have := congrArg List.length h
          simp at this
          omega
        have w1 := IntWalk.i64_in (acc.length : Int) (by omega)
        have w2 := IntWalk.i64_in (seq + (acc.length : Int)) (by omega)
        simp [roundW, putAll, St.of, St.cont, CutM, RecsM, loopAt, D38, partsR_append, partsR_length, w1, w2]
        exact ⟨by have := chunks_mem (n := 4096) (l := snapB q) x (by show x ∈ snapParts q; rw [h]; simp); omega, by omega⟩
      case fin =>
        have w1 := IntWalk.i64_in ((snapParts q).length : Int) (by omega)
        have w2 := IntWalk.i64_in (seq + ((snapParts q).length : Int)) (by omega)
        have w3 := IntWalk.u64_in ((snapParts q).length : Int) (by omega)
        rw [show St.ready.out = Exit.normal from rfl]
        simp [RecsM, D38, partsR_length, w1, w2, w3]
        exact ⟨by omega, 0, ⟨_, ⟨rfl, rfl⟩, by simp [decX_map]⟩, rfl⟩
end Go.Av



namespace Go.Av
open Enc (enc dec)
open Cel (cs dc)
open Go.Proofs Pl

/-- The parts' bytes. -/
def gather (look : Int → Option Rec) : Int → Nat → Option (List UInt8)
  | _, 0 => some []
  | q, k + 1 => (look q).bind fun p => if p.kind = 2 then (gather look (q + 1) k).map (p.body ++ ·) else none
/-- The snapshot that a record ends. -/
def fndOne (l : List Fnd) (f : Fnd) : Option (Sta × Int × Int) :=
  if f.rcd.kind = 3 ∧ takeE f.rcd.body 2 = 0 ∧ takeR f.rcd.body 2 = [] ∧ (takeV f.rcd.body 2 : Int) ≤ f.rcd.seq then
    (gather (lookF l) (f.rcd.seq - takeV f.rcd.body 2) (takeV f.rcd.body 2)).bind fun b => if rdE b = 0 then some (rdQ b, f.rcd.seq - takeV f.rcd.body 2, f.rcd.seq) else none
  else none
def fndS (l : List Fnd) : Option (Sta × Int × Int) := (bwTo l l.length).findSome? fun p => fndOne l p.2
def fndV (x : Option (Sta × Int × Int)) : V := match x with
  | some (q, a, b) => .tuple [enc q, enc a, enc b, enc (0 : Int)]
  | none => .tuple [enc Sta.zero, enc (0 : Int), enc (0 : Int), enc (120 : Int)]
def fndLen (l : List Fnd) : Prop := l.length ≤ 2 ^ 30 ∧ ∀ f ∈ l, f.rcd.body.length ≤ 2 ^ 20 ∧ f.rcd.seq < 2 ^ 63
@[simp] def sp_snapRead (b : List UInt8) : Option (V × List Tip) := if b.length ≤ 2 ^ 40 then some (.tuple [enc (rdQ b), enc (rdE b)], []) else none
theorem sp_snapRead_ok : EOk Tryz.prog n_snap_Read (sp1 sp_snapRead) := sp1_ok fun b r h => by
  simp only [sp_snapRead] at h
  split at h <;> cases h
  exact c_snap_Read b (by assumption)
def D39 : Orc := ((Orc.nil.add n_le_Take (sp2 sp_Take)).add n_snap_Read (sp1 sp_snapRead)).addL n_slices_Backward_Found sp_bw
theorem D39_ok : OOk Tryz.prog D39 := by
  refine ((OOk.nil.add (sp2_ok fun b w r h => ?_)).add sp_snapRead_ok).addL sp_bw_ok
  simp only [sp_Take] at h
  split at h <;> cases h
  exact c_le_Take b w (by assumption)
def fnd0 : List V := [.val (.int .i64 0), .val (.int .i64 0), .lit 5 [], .lit 3 [], .val (.int .i64 0), .lit 1 []]
def FndM1 (l : List Fnd) (acc : List (Nat × Fnd)) : Mem := ⟨[fnd0, [.val (.int .i64 0)], [.val (.int .i64 0)], [.val (.int .i64 0)], mpV (kvF [] acc), [.ref .map 4], [.lit 5 (l.map cs)], [St.ready.v], [St.ready.v]], []⟩
def FndM2 (l : List Fnd) (a b c d : List V) (st : St) : Mem := ⟨[a, b, c, d, mpV (kvF [] (bwTo l l.length)), [.ref .map 4], [.lit 5 (l.map cs)], [St.ready.v], [St.ready.v], [.lit 5 (l.map cs)], [St.ready.v], [st.v]], []⟩
def FndM3 (l : List Fnd) (y : Sta × Int × Int) : Mem := FndM2 l (cs y.1) [.val (.int .i64 y.2.1)] [.val (.int .i64 y.2.2)] [.val (.int .i64 0)] .ret
def FndI (l : List Fnd) (f : Fnd) (G : Option (List UInt8)) (k : Nat) (s : Nat → V) (m : Mem) : Prop :=
  ∃ (acc : List UInt8) (junk : List (List V)) (n0 : Nat), s 6 = .ptr 5 0 ∧ s 11 = .ptr 13 0 ∧ s 2 = .ptr 0 0 ∧ s 3 = .ptr 1 0 ∧ s 4 = .ptr 2 0 ∧ s 5 = .ptr 3 0 ∧ s 16 = .val (.int .i64 (f.rcd.seq - takeV f.rcd.body 2)) ∧
    s 17 = .val (.int .i64 (f.rcd.seq - k)) ∧ k ≤ takeV f.rcd.body 2 ∧ s 15 = .row 1 1 (acc.map cs) ∧ G = (gather (lookF l) (f.rcd.seq - k) k).map (acc ++ ·) ∧ acc.length ≤ (65536 - k) * 2 ^ 20 ∧
    m = ⟨fnd0 :: [.val (.int .i64 0)] :: [.val (.int .i64 0)] :: [.val (.int .i64 0)] :: mpV (kvF [] (bwTo l l.length)) :: [.ref .map 4] :: [.lit 5 (l.map cs)] :: [St.ready.v] :: [St.ready.v] :: [.lit 5 (l.map cs)] :: [St.ready.v] :: [St.busy.v] :: cs f :: cs f.rcd :: junk, [(5, 1, n0), (5, 1, acc.length)]⟩
theorem c_snap_Found (l : List Fnd) (hl : fndLen l) : Pure Tryz.prog n_snap_Found [enc l] (fndV (fndS l)) [] := by
  refine Pure.ofC D39_ok hm F_snap_Found_ok (by simp [F_snap_Found]) (by unfold fndV; split <;> simp [V.res, V.res1]) ?_
  have hl2 : l.length ≤ 2 ^ 40 := by have := hl.1; omega
  simp [F_snap_Found, D39, sp_bw]
  refine ⟨_, _, .tuple [], FndM1 l (bwTo l l.length), .ready, by simp, c_backward1 _ _ 6 l hl2 _ _ rfl ?run1, by simp [FndM1, loopAt], by simp, ?fin1⟩
  case run1 =>
    refine YRun.list bwArg (FndM1 l) (bwTo l l.length) ?_ ?_
    rotate_left
    · intro acc x r h
      rfl
    intro acc x r h
    refine Or.inr ⟨rfl, ?_⟩
    simp [roundW, putAll, St.of, St.cont, FndM1, loopAt, bwArg]
    refine .inr ⟨?_, ?_⟩
    · have h1 := (kvF_clean acc (kvs := []) (fun p hp => by cases hp)).put x.2.rcd.seq (Enc.cl x.2.rcd)
      rw [enc_rec] at h1
      have h2 := h1.under 9 0
      have h3 := under_map 9 0 l
      simp [underX, underL, V.under, fnd0, St.v, h2, h3]
    · simp [kvF, List.foldl_append]
  case fin1 =>
    rw [show St.ready.out = Exit.normal from rfl]
    simp [FndM1, sp_bw]
    have leaf : ∀ (ex : List (List V)) (tips : List Tip), CutM (FndM2 l fnd0 [.val (.int .i64 0)] [.val (.int .i64 0)] [.val (.int .i64 0)] .ready)
        ⟨fnd0 :: [.val (.int .i64 0)] :: [.val (.int .i64 0)] :: [.val (.int .i64 0)] :: mpV (kvF [] (bwTo l l.length)) :: [.ref .map 4] :: [.lit 5 (l.map cs)] :: [St.ready.v] :: [St.ready.v] :: [.lit 5 (l.map cs)] :: [St.ready.v] :: [St.ready.v] :: ex, tips⟩
        (FndM2 l fnd0 [.val (.int .i64 0)] [.val (.int .i64 0)] [.val (.int .i64 0)] .ready) := by
      intro ex tips
      refine .inr ⟨?_, ?_⟩
      · have h2 := (kvF_clean (bwTo l l.length) (kvs := []) (fun p hp => by cases hp)).under 12 0
        have h3 := under_map 12 0 l
        simp [FndM2, underX, underL, V.under, fnd0, St.v, h2, h3]
      · simp [FndM2]
    have leaf2 : ∀ (q : Sta) (a b : Int) (ex : List (List V)) (tips : List Tip), CutM (FndM2 l fnd0 [.val (.int .i64 0)] [.val (.int .i64 0)] [.val (.int .i64 0)] .ready)
        ⟨cs q :: [.val (.int .i64 a)] :: [.val (.int .i64 b)] :: [.val (.int .i64 0)] :: mpV (kvF [] (bwTo l l.length)) :: [.ref .map 4] :: [.lit 5 (l.map cs)] :: [St.ready.v] :: [St.ready.v] :: [.lit 5 (l.map cs)] :: [St.ready.v] :: [St.ret.v] :: ex, tips⟩
        (FndM3 l (q, a, b)) := by
      intro q a b ex tips
      refine .inr ⟨?_, ?_⟩
      · have h2 := (kvF_clean (bwTo l l.length) (kvs := []) (fun p hp => by cases hp)).under 12 0
        have h3 := under_map 12 0 l
        have h4 := under_map 12 0 q.map
        have h5 := under_map 12 0 q.pts
        have h6 := under_map 12 0 q.staged
        simp [FndM2, underX, underL, V.under, St.v, h2, h3, h4, h5, h6]
      · simp [FndM2, FndM3]
    refine ⟨_, _, .tuple [], _, (fndS l).elim St.ready fun _ => St.ret, by simp, c_backward1 _ _ 9 l hl2 _ _ rfl
      (YRun.find (K := BwK 9 l) bwArg (fun p => fndOne l p.2) (FndM2 l fnd0 [.val (.int .i64 0)] [.val (.int .i64 0)] [.val (.int .i64 0)] .ready) (FndM3 l) rfl (bwTo l l.length) ?hs), ?_, ?_, ?_⟩
    case hs =>
      intro x hx
      refine Or.inr ⟨rfl, ?_⟩
      obtain ⟨i, f⟩ := x
      have hf : f ∈ l := by
        have h1 : f ∈ (bwTo l l.length).map (·.2) := List.mem_map.2 ⟨(i, f), hx, rfl⟩
        rw [bwTo_snd l _ (Nat.le_refl _)] at h1
        simpa using h1
      obtain ⟨hb, hsq⟩ := hl.2 f hf
      have hb2 : f.rcd.body.length ≤ 1099511627776 := by omega
      have hn : takeV f.rcd.body 2 < 65536 := by
        unfold takeV
        split
        · exact leN_lt' f.rcd.body 2
        · decide
      have w1 := IntWalk.i64_in ((takeV f.rcd.body 2 : Nat) : Int) (by omega)
      by_cases hc : f.rcd.kind = 3 ∧ takeE f.rcd.body 2 = 0 ∧ takeR f.rcd.body 2 = [] ∧ (takeV f.rcd.body 2 : Int) ≤ f.rcd.seq
      · have hc' := hc
        obtain ⟨hk, hE, hR, hle⟩ := hc
        have w2 := IntWalk.i64_in (f.rcd.seq - ((takeV f.rcd.body 2 : Nat) : Int)) (by omega)
        have hle2 : ¬ f.rcd.seq < (takeV f.rcd.body 2 : Int) := by omega
        simp [roundW, putAll, St.of, FndM2, loopAt, bwArg, hb2, w1, w2, hk, hE, hR, hle, hle2]
        obtain ⟨G, hG⟩ : ∃ G, gather (lookF l) (f.rcd.seq - takeV f.rcd.body 2) (takeV f.rcd.body 2) = G := ⟨_, rfl⟩
        have hfo : fndOne l f = G.bind fun b => if rdE b = 0 then some (rdQ b, f.rcd.seq - takeV f.rcd.body 2, f.rcd.seq) else none := by rw [fndOne, if_pos hc', hG]
        rw [hfo]
        refine wp_loop (FndI l f G) (takeV f.rcd.body 2) (IW.of ⟨[], [], 0, by simp, by simp, by simp, by simp, by simp, by simp, by simp, by simp, Nat.le_refl _, by simp, by rw [hG]; cases G <;> rfl, by simp, by simp [hk]⟩) fun k s m ⟨acc, junk, n0, s6, s11, s2, s3, s4, s5, s16, s17, hkn, s15, hGG, hal, hm⟩ => ?_
        subst hm
        have jl : junk.length + 14 = 14 + junk.length := by omega
        cases k with
        | zero =>
          have hGa : G = some acc := by rw [hGG]; simp [gather]
          have hal2 : acc.length ≤ 1099511627776 := by omega
          by_cases hrd : rdE acc = 0
          · simp [F_snap_Found_L0, s6, s11, s2, s3, s4, s5, s16, s17, s15, hal2, hrd, hGa, St.of, St.cont, loopAt, fnd0]
            exact leaf2 _ _ _ _ _
          · simp [F_snap_Found_L0, s6, s11, s2, s3, s4, s5, s16, s17, s15, hal2, hrd, hGa, St.of, St.cont, loopAt]
            exact leaf _ _
        | succ k =>
          have hcast : ((k + 1 : Nat) : Int) = (k : Int) + 1 := by omega
          rw [hcast] at s17 hGG
          have w4 := IntWalk.i64_in (f.rcd.seq - ((k : Int) + 1) + 1) (by omega)
          have hq : f.rcd.seq - ((k : Int) + 1) < f.rcd.seq := by omega
          have hlook := kvF_look l (f.rcd.seq - ((k : Int) + 1))
          have hsub : f.rcd.seq - ((k : Int) + 1) + 1 = f.rcd.seq - k := by omega
          rw [gather, hsub] at hGG
          cases hlk : lookF l (f.rcd.seq - ((k : Int) + 1)) with
          | none =>
            rw [hlk] at hGG hlook
            simp only [Option.bind_none, Option.map_none] at hGG
            simp only [Option.map_none] at hlook
            simp [F_snap_Found_L0, s6, s11, s2, s3, s4, s5, s16, s17, s15, hlook, hq, hGG, St.of, St.cont, loopAt]
            exact leaf _ _
          | some p =>
            rw [hlk] at hGG hlook
            simp only [Option.map_some, enc_rec] at hlook
            simp only [Option.bind_some] at hGG
            by_cases hp : p.kind = 2
            · rw [if_pos hp] at hGG
              have hpb : p.body.length ≤ 2 ^ 20 := by
                unfold lookF at hlk
                rw [Option.map_eq_some_iff] at hlk
                obtain ⟨g, hg, rfl⟩ := hlk
                exact (hl.2 g (List.mem_of_find?_eq_some hg)).1
              have hal3 : acc.length + p.body.length ≤ 140737488355328 := by omega
              simp [F_snap_Found_L0, s6, s11, s2, s3, s4, s5, s16, s17, s15, hlook, hq, hp, w4, hal3]
              exact ⟨k, by omega, IW.of ⟨acc ++ p.body, _, n0, by simp [s6], by simp [s11], by simp [s2], by simp [s3], by simp [s4], by simp [s5], by simp [s16], by simp [hsub], by omega, by simp,
                by rw [hGG]; cases gather (lookF l) (f.rcd.seq - k) k <;> simp, by rw [List.length_append]; omega, by simp; rfl⟩⟩
            · rw [if_neg hp] at hGG
              simp only [Option.map_none] at hGG
              simp [F_snap_Found_L0, s6, s11, s2, s3, s4, s5, s16, s17, s15, hlook, hq, hp, hGG, St.of, St.cont, loopAt]
              exact leaf _ _
      · have hno : fndOne l f = none := by rw [fndOne, if_neg hc]
        simp [roundW, putAll, St.of, St.cont, FndM2, loopAt, bwArg, hno, hb2, w1]
        repeat' first | apply And.intro | intro _
        all_goals first
          | exact leaf _ _
          | exact absurd ⟨by assumption, by assumption, by assumption, by assumption⟩ hc
    · show (((fndS l).elim _ _ : Mem).boxes[_]?) = _
      cases fndS l <;> simp [loopAt, FndM2, FndM3]
    · cases fndS l <;> simp
    · show blockQ _ _ _ _ ((fndS l).elim _ _)
      cases hS : fndS l with
      | none =>
        simp [FndM2, St.out, fndV]
        exact ⟨⟨rfl, by decide⟩, rfl, rfl, rfl, rfl, rfl, rfl⟩
      | some y =>
        obtain ⟨q, a, b⟩ := y
        simp [FndM2, FndM3, St.out, fndV]
end Go.Av

namespace Go.Av
open Enc (enc dec)
open Cel (cs dc)
open Go.Proofs Pl

/-- Few extents, of few bytes. -/
def few7 (l : List Xt) : Bool := decide (l.length ≤ 70) && l.all fun x => decide (x.data.length ≤ 3000)
def few11 (q : Sta) : Bool := decide (q.pts.length ≤ 10) && decide (q.staged.length ≤ 6000) && few7 q.map && q.pts.all fun p => few7 p.map
def Few7I (l : List Xt) (k : Nat) (s : Nat → V) (m : Mem) : Prop :=
  ∃ i : Nat, i + k = l.length ∧ s 0 = .lit 5 (l.map cs) ∧ s 3 = .val (.int .i64 i) ∧ (l.take i).all (fun x => decide (x.data.length ≤ 3000)) = true
theorem c_few7 (l : List Xt) (hl : l.length ≤ 9223372036854775807) : Pure Tryz.prog n_w07_Few [enc l] (enc (few7 l)) [] := by
  refine Pure.ofC OOk.nil hm F_w07_Few_ok (by simp [F_w07_Few]) rfl ?_
  have w1 := IntWalk.i64_in (l.length : Int) (by omega)
  by_cases h : l.length ≤ 70
  · have h2 : ¬ (70 : Int) < l.length := by omega
    simp [F_w07_Few, w1, h2, few7, h]
    refine wp_loop (Few7I l) l.length (IW.of ⟨0, by omega, by simp, by simp, by simp⟩) fun k s m ⟨i, hik, s0, s3, ht⟩ => ?_
    by_cases hi : i < l.length
    · have w3 := IntWalk.i64_in ((i : Int) + 1) (by omega)
      have hsn : l.take (i + 1) = l.take i ++ [l[i]] := by rw [List.take_add_one, List.getElem?_eq_getElem hi]; rfl
      by_cases hd : l[i].data.length ≤ 3000
      · have hd2 : ¬ (3000 : Int) < l[i].data.length := by omega
        simp [F_w07_Few_L0, s0, s3, w1, hi, hd, hd2, w3]
        refine ⟨k - 1, by omega, IW.of ⟨i + 1, by omega, by simp [s0], by simp, ?_⟩⟩
        rw [hsn, List.all_append, ht]
        simp [hd]
      · have hd2 : (3000 : Int) < l[i].data.length := by omega
        simp [F_w07_Few_L0, s0, s3, w1, hi, hd, hd2]
        exact ⟨l[i], List.getElem_mem hi, by omega⟩
    · simp [F_w07_Few_L0, s0, s3, w1, hi]
      rw [List.take_of_length_le (by omega)] at ht
      simpa using ht
  · have h2 : (70 : Int) < l.length := by omega
    simp [F_w07_Few, w1, h2, few7, h]
@[simp] def sp_few7 (l : List Xt) : Option (V × List Tip) := if l.length ≤ 9223372036854775807 then some (enc (few7 l), []) else none
theorem sp_few7_ok : EOk Tryz.prog n_w07_Few (sp1 sp_few7) := sp1_ok fun l r h => by
  simp only [sp_few7] at h
  split at h <;> cases h
  exact c_few7 l (by assumption)
def D40 : Orc := Orc.nil.add n_w07_Few (sp1 sp_few7)
theorem D40_ok : OOk Tryz.prog D40 := OOk.nil.add sp_few7_ok
/-- What is always so of a state that was handed in. -/
def staBig (q : Sta) : Prop := q.map.length ≤ 9223372036854775807 ∧ q.pts.length ≤ 9223372036854775807 ∧ (∀ p ∈ q.pts, p.map.length ≤ 9223372036854775807) ∧ q.staged.length ≤ 9223372036854775807
def Few11I (q : Sta) (k : Nat) (s : Nat → V) (m : Mem) : Prop :=
  ∃ i : Nat, i + k = q.pts.length ∧ s 1 = .ptr 0 0 ∧ s 3 = .val (.int .i64 i) ∧ (q.pts.take i).all (fun p => few7 p.map) = true ∧ m = ⟨[cs q], []⟩
theorem c_few11 (q : Sta) (hq : staBig q) : Pure Tryz.prog n_w11_Few [enc q] (enc (few11 q)) [] := by
  refine Pure.ofC D40_ok hm F_w11_Few_ok (by simp [F_w11_Few]) rfl ?_
  obtain ⟨g1, g2, g3, g4⟩ := hq
  have g1' : q.map.length ≤ 9223372036854775807 := g1
  have w1 := IntWalk.i64_in (q.pts.length : Int) (by omega)
  have w2 := IntWalk.i64_in (q.staged.length : Int) (by omega)
  by_cases h1 : q.pts.length ≤ 10
  · have h1' : ¬ (10 : Int) < q.pts.length := by omega
    by_cases h2 : q.staged.length ≤ 6000
    · have h2' : ¬ (6000 : Int) < q.staged.length := by omega
      cases h3 : few7 q.map with
      | false => simp [F_w11_Few, D40, w1, w2, h1, h1', h2, h2', h3, g1', few11]
      | true =>
        simp [F_w11_Few, D40, w1, w2, h1, h1', h2, h2', h3, g1', few11]
        refine wp_loop (Few11I q) q.pts.length (IW.of ⟨0, by omega, by simp, by simp, by simp, by simp⟩) fun k s m ⟨i, hik, s1, s3, ht, hm⟩ => ?_
        subst hm
        by_cases hi : i < q.pts.length
        · have w3 := IntWalk.i64_in ((i : Int) + 1) (by omega)
          have hsn : q.pts.take (i + 1) = q.pts.take i ++ [q.pts[i]] := by rw [List.take_add_one, List.getElem?_eq_getElem hi]; rfl
          have g5 : q.pts[i].map.length ≤ 9223372036854775807 := g3 _ (List.getElem_mem hi)
          cases hd : few7 q.pts[i].map with
          | true =>
            simp [F_w11_Few_L0, D40, s1, s3, w1, hi, hd, w3, g5]
            refine ⟨k - 1, by omega, IW.of ⟨i + 1, by omega, by simp [s1], by simp, ?_, rfl⟩⟩
            rw [hsn, List.all_append, ht]
            simp [hd]
          | false =>
            simp [F_w11_Few_L0, D40, s1, s3, w1, hi, hd, g5]
            exact ⟨q.pts[i], List.getElem_mem hi, hd⟩
        · simp [F_w11_Few_L0, s1, s3, w1, hi]
          rw [List.take_of_length_le (by omega)] at ht
          simpa using ht
    · have h2' : (6000 : Int) < q.staged.length := by omega
      simp [F_w11_Few, D40, w1, w2, h1, h1', h2, h2', few11]
  · have h1' : (10 : Int) < q.pts.length := by omega
    simp [F_w11_Few, D40, w1, h1, h1', few11]
/-- Records, as they are found. -/
def foundL (l : List Rec) : List Fnd := l.map fun r => ⟨r, 0, 0⟩
def FoundI (l : List Rec) (k : Nat) (s : Nat → V) (m : Mem) : Prop :=
  ∃ (i t : Nat) (a : List Tip), i + k = l.length ∧ s 0 = .lit 3 (l.map cs) ∧ s 4 = .val (.int .i64 i) ∧ s 3 = .row t 5 ((foundL (l.take i)).map cs) ∧ m = ⟨[], a⟩ ∧ a[t]? = some (81, 5, i)
theorem c_found (l : List Rec) (hl : l.length ≤ 2 ^ 40) : Pure Tryz.prog n_w12_found [enc l] (.row 0 5 ((foundL l).map cs)) [(81, 5, (foundL l).length)] := by
  refine Pure.ofR OOk.nil hm F_w12_found_ok (by simp [F_w12_found]) (by simp [V.res, V.res1]) ?_
  have w1 := IntWalk.i64_in (l.length : Int) (by omega)
  simp [F_w12_found]
  refine wp_loop (FoundI l) l.length (IW.of ⟨0, 1, _, by omega, by simp, by simp, by simp [foundL], rfl, rfl⟩) fun k s m ⟨i, t, a, hik, s0, s4, s3, hm, ht⟩ => ?_
  subst hm
  by_cases hi : i < l.length
  · have w3 := IntWalk.i64_in ((i : Int) + 1) (by omega)
    have hsn : foundL (l.take (i + 1)) = foundL (l.take i) ++ [⟨l[i], 0, 0⟩] := by unfold foundL; rw [List.take_add_one, List.getElem?_eq_getElem hi, Option.toList_some, List.map_append]; rfl
    have hfl : (foundL (l.take i)).length = i := by simp [foundL]; omega
    simp [F_w12_found_L0, s0, s4, s3, w1, w3, hi, hfl, ht]
    exact ⟨by omega, k - 1, by omega, IW.of ⟨i + 1, t, _, by omega, by simp [s0], by simp, by rw [hsn]; simp, rfl, by simp [(List.getElem?_eq_some_iff.1 ht).1]⟩⟩
  · have hle : l.take i = l := List.take_of_length_le (by omega)
    rw [hle] at s3
    have e : i = (foundL l).length := by simp [foundL]; omega
    simp [F_w12_found_L0, s0, s4, s3, w1, hi]
    rw [← e]; exact ht
end Go.Av

namespace Go.Av
open Enc (enc dec)
open Cel (cs dc)
open Go.Proofs Pl

theorem unpackE_ww {b : List UInt8} (h : b.length = 8) : unpackE [119, 119] b = 0 := by
  match b, h with
  | a1 :: a2 :: a3 :: a4 :: a5 :: a6 :: a7 :: a8 :: [], _ => simp [unpackE, unpackS, sizeL, okT, mayB]
theorem unpackE_bwwbh {b : List UInt8} (h : b.length = 12) : unpackE [98, 119, 119, 98, 104] b = 0 := by
  match b, h with
  | a1 :: a2 :: a3 :: a4 :: a5 :: a6 :: a7 :: a8 :: a9 :: a10 :: a11 :: a12 :: [], _ => simp [unpackE, unpackS, sizeL, okT, mayB]
theorem unpack_h {b : List UInt8} (h : b.length = 2) : unpackN [104] b = [leN b] ∧ unpackE [104] b = 0 := by
  match b, h with
  | a1 :: a2 :: [], _ => simp [unpackN, unpackE, unpackS, sizeL, okT, mayB]
theorem numW_false {w : Bool} {l f : List UInt8} {n : Int} (h : numW w l f n = false) :
    w = false ∧ ¬ (l.length : Int) < n ∧ unpackE f (l.take n.toNat) = 0 ∧ numL w l f n = unpackN f (l.take n.toNat) ∧ numR w l n = l.drop n.toNat := by
  have h0 := h
  simp only [numW, Bool.or_eq_false_iff, decide_eq_false_iff_not, Decidable.not_not, ne_eq] at h
  obtain ⟨h1, h2⟩ := h
  have h3 := cut_ok h1
  have e : cutL w l n = l.take n.toNat := by rw [cutL, if_neg h3]
  rw [e] at h2
  have hr : numR w l n = l.drop n.toNat := by rw [numR, if_neg h3]
  simp only [not_or, Bool.not_eq_true] at h3
  exact ⟨h3.1, h3.2, h2, by rw [numL, if_neg (by simp [h0]), e], hr⟩
theorem num_fwd {x f : List UInt8} {n : Int} (r : List UInt8) (hx : (x.length : Int) = n) (hu : unpackE f x = 0) :
    numW false (x ++ r) f n = false ∧ numL false (x ++ r) f n = unpackN f x ∧ numR false (x ++ r) n = r := by
  subst hx
  have e : cutL false (x ++ r) x.length = x := by
    rw [cutL, if_neg (by simp; omega)]
    simp
  have hw : numW false (x ++ r) f x.length = false := by simp [numW, cutW, e, hu]; omega
  refine ⟨hw, by rw [numL, if_neg (by simp [hw]), e], ?_⟩
  rw [numR, if_neg (by simp; omega)]
  simp
theorem leN_leB_lt {v w : Nat} (h : v < 256 ^ w) : leN (leB v w) = v := by rw [leN_leB, Nat.mod_eq_of_lt h]
theorem mp_fwd {n : Int} {M : List Xt} (h : mapOk n M = true) (r : List UInt8) : mpW false (mapB M ++ r) = false ∧ mpL false (mapB M ++ r) = M ∧ mpR false (mapB M ++ r) = r := by
  obtain ⟨h1, h2, h3, h4⟩ := mapOk_wr h
  rw [h3] at h2
  have e : mapB M ++ r = leB (wrB M).length 2 ++ (wrB M ++ r) := by simp [mapB]
  rw [e]
  obtain ⟨u1, u2⟩ := unpack_h (leB_length (wrB M).length 2)
  obtain ⟨a1, a2, a3⟩ := num_fwd (n := 2) (wrB M ++ r) (by rw [leB_length]; rfl) u2
  have hN : mpN false (leB (wrB M).length 2 ++ (wrB M ++ r)) = (wrB M).length := by
    rw [mpN, a2, u1, List.headD_cons, leN_leB_lt (by omega)]
  have hT : mpT false (leB (wrB M).length 2 ++ (wrB M ++ r)) = wrB M := by
    rw [mpT, a1, a3, hN, cutL, if_neg (by simp; omega)]
    simp
  have hX := readX_some.2 ⟨h1, rfl⟩
  refine ⟨?_, by simp [mpL, hT, readL, hX], ?_⟩
  · simp [mpW, a1, a3, hN, hT, readE, hX, cutW]; omega
  · rw [mpR, a1, a3, hN, numR, if_neg (by simp; omega)]
    simp
theorem mp_bwd {w : Bool} {l : List UInt8} (h : mpW w l = false) : w = false ∧ l = mapB (mpL w l) ++ mpR w l := by
  simp only [mpW, Bool.or_eq_false_iff, decide_eq_false_iff_not, ne_eq, Decidable.not_not] at h
  obtain ⟨h1, h2⟩ := h
  have hw : numW w l [104] 2 = false := by
    cases hh : numW w l [104] 2 with
    | false => rfl
    | true => simp [cutW, hh] at h1
  have h3 := cut_ok h1
  obtain ⟨rfl, b2, b3, b4, b5⟩ := numW_false hw
  have l2 : (l.take (2 : Int).toNat).length = 2 := by
    have e : (2 : Int).toNat = 2 := rfl
    rw [e]; simp; omega
  have hN : mpN false l = leN (l.take (2 : Int).toNat) := by rw [mpN, b4, (unpack_h l2).1]; rfl
  have h4 := h3
  simp only [not_or, b5, Int.not_lt] at h4
  have hT : mpT false l = (l.drop (2 : Int).toNat).take (mpN false l) := by rw [mpT, cutL, if_neg h3, b5]; rfl
  have lT : (mpT false l).length = mpN false l := by rw [hT]; simp at h4 ⊢; omega
  have hX : ∃ M, readX (mpT false l) = some M := by
    cases hh : readX (mpT false l) with
    | some M => exact ⟨M, rfl⟩
    | none => simp [readE, hh] at h2
  obtain ⟨M, hM⟩ := hX
  have hM2 := (readX_some.1 hM).2
  have hL : mpL false l = M := by simp [mpL, readL, hM]
  have hR : mpR false l = (l.drop (2 : Int).toNat).drop (mpN false l) := by rw [mpR, numR, if_neg h3, b5]; rfl
  refine ⟨rfl, ?_⟩
  rw [hL, hR, mapB, hM2, lT, hN]
  have e2 := leB_leN (l.take (2 : Int).toNat)
  rw [l2] at e2
  rw [e2, ← hN, hT, List.append_assoc, List.take_append_drop, List.take_append_drop]
theorem rdPts_fwd {q : Sta} (hq : q.last ≤ 2147483647 ∧ q.gen ≤ 2147483647) : ∀ (P : List Pt) (r : List UInt8), (∀ p ∈ P, ptFine q p) → rdPts P.length false (P.flatMap ptB ++ r) = (P, false, r)
  | [], r, _ => rfl
  | p :: P, r, h => by
    obtain ⟨f1, f2, f3, f4, f5⟩ := h p (List.mem_cons_self ..)
    have e : (p :: P).flatMap ptB ++ r = (leB p.id.toNat 4 ++ leB p.gen.toNat 4) ++ (mapB p.map ++ (P.flatMap ptB ++ r)) := by simp [ptB]
    have l8 : (leB p.id.toNat 4 ++ leB p.gen.toNat 4).length = 8 := by simp [leB_length]
    obtain ⟨a1, a2, a3⟩ := num_fwd (n := 8) (mapB p.map ++ (P.flatMap ptB ++ r)) (by rw [l8]; rfl) (unpackE_ww l8)
    obtain ⟨m1, m2, m3⟩ := mp_fwd f1 (P.flatMap ptB ++ r)
    have ih := rdPts_fwd hq P r fun p hp => h p (List.mem_cons_of_mem _ hp)
    rw [e, List.length_cons, rdPts, if_neg (by simp)]
    simp only [a1, a2, a3, m1, m2, m3, ih, unpack_ww l8]
    have t1 : (leB p.id.toNat 4 ++ leB p.gen.toNat 4).take 4 = leB p.id.toNat 4 := List.take_left' (leB_length _ _)
    have t2 : (leB p.id.toNat 4 ++ leB p.gen.toNat 4).drop 4 = leB p.gen.toNat 4 := List.drop_left' (leB_length _ _)
    have t3 : (leB p.gen.toNat 4).take 4 = leB p.gen.toNat 4 := List.take_of_length_le (by simp [leB_length])
    rw [t1, t2, t3, leN_leB_lt (by omega), leN_leB_lt (by omega)]
    simp only [List.headD_cons, List.drop_one, List.tail_cons, List.drop_succ_cons, List.drop_zero]
    have i1 : ((p.id.toNat : Nat) : Int) = p.id := by omega
    have i2 : ((p.gen.toNat : Nat) : Int) = p.gen := by omega
    rw [i1, i2]
theorem rdPts_bwd : ∀ (k : Nat) (w : Bool) (l : List UInt8) (P : List Pt) (r : List UInt8), rdPts k w l = (P, false, r) → w = false ∧ P.length = k ∧ l = P.flatMap ptB ++ r
  | 0, w, l, P, r, h => by
    simp only [rdPts, Prod.mk.injEq] at h
    obtain ⟨rfl, rfl, rfl⟩ := h
    simp
  | k + 1, w, l, P, r, h => by
    rw [rdPts] at h
    split at h
    · rename_i hw
      simp only [Prod.mk.injEq] at h
      rw [hw] at h
      exact absurd h.2.1 (by decide)
    · rename_i hw
      simp only [Prod.mk.injEq] at h
      obtain ⟨h1, h2⟩ := h
      obtain ⟨i1, i2, i3⟩ := rdPts_bwd k _ _ _ _ (Prod.ext (rfl : (rdPts k (mpW (numW w l [119, 119] 8) (numR w l 8)) (mpR (numW w l [119, 119] 8) (numR w l 8))).1 = _) h2)
      obtain ⟨m1, m2⟩ := mp_bwd i1
      obtain ⟨rfl, b2, b3, b4, b5⟩ := numW_false m1
      have e8 : (8 : Int).toNat = 8 := rfl
      rw [e8] at b3 b4 b5
      have l8 : (l.take 8).length = 8 := by simp; omega
      subst h1
      refine ⟨rfl, by simp [i2], ?_⟩
      rw [List.flatMap_cons, List.append_assoc, ← i3, ptB, b4, unpack_ww l8]
      simp only [List.headD_cons, List.drop_succ_cons, List.drop_zero, Int.toNat_natCast]
      have t1 := leB_leN ((l.take 8).take 4)
      have t2 := leB_leN (((l.take 8).drop 4).take 4)
      have k1 : ((l.take 8).take 4).length = 4 := by simp; omega
      have k2 : (((l.take 8).drop 4).take 4).length = 4 := by simp; omega
      rw [k1] at t1
      rw [k2] at t2
      rw [t1, t2]
      have t3 : ((l.take 8).drop 4).take 4 = (l.take 8).drop 4 := List.take_of_length_le (by simp; omega)
      rw [t3, List.take_append_drop, List.append_assoc, ← m2, b5, List.take_append_drop]
theorem five {x1 x2 x3 x4 x5 : List UInt8} (h1 : x1.length = 1) (h2 : x2.length = 4) (h3 : x3.length = 4) (h4 : x4.length = 1) (h5 : x5.length = 2) :
    (x1 ++ (x2 ++ (x3 ++ (x4 ++ x5)))).take 1 = x1 ∧ ((x1 ++ (x2 ++ (x3 ++ (x4 ++ x5)))).drop 1).take 4 = x2 ∧ ((x1 ++ (x2 ++ (x3 ++ (x4 ++ x5)))).drop 5).take 4 = x3 ∧
      ((x1 ++ (x2 ++ (x3 ++ (x4 ++ x5)))).drop 9).take 1 = x4 ∧ ((x1 ++ (x2 ++ (x3 ++ (x4 ++ x5)))).drop 10).take 2 = x5 := by
  match x1, h1, x2, h2, x3, h3, x4, h4, x5, h5 with
  | [_], _, [_, _, _, _], _, [_, _, _, _], _, [_], _, [_, _], _ => exact ⟨rfl, rfl, rfl, rfl, rfl⟩
theorem five_bwd {b : List UInt8} (h : b.length = 12) : leB (leN (b.take 1)) 1 ++ (leB (leN ((b.drop 1).take 4)) 4 ++ (leB (leN ((b.drop 5).take 4)) 4 ++ (leB (leN ((b.drop 9).take 1)) 1 ++ leB (leN ((b.drop 10).take 2)) 2))) = b := by
  match b, h with
  | a1 :: a2 :: a3 :: a4 :: a5 :: a6 :: a7 :: a8 :: a9 :: a10 :: a11 :: a12 :: [], _ =>
    have e1 := leB_leN [a1]
    have e2 := leB_leN [a2, a3, a4, a5]
    have e3 := leB_leN [a6, a7, a8, a9]
    have e4 := leB_leN [a10]
    have e5 := leB_leN [a11, a12]
    show leB (leN [a1]) 1 ++ (leB (leN [a2, a3, a4, a5]) 4 ++ (leB (leN [a6, a7, a8, a9]) 4 ++ (leB (leN [a10]) 1 ++ leB (leN [a11, a12]) 2))) = _
    have e1 : leB (leN [a1]) 1 = [a1] := e1
    have e2 : leB (leN [a2, a3, a4, a5]) 4 = [a2, a3, a4, a5] := e2
    have e3 : leB (leN [a6, a7, a8, a9]) 4 = [a6, a7, a8, a9] := e3
    have e4 : leB (leN [a10]) 1 = [a10] := e4
    have e5 : leB (leN [a11, a12]) 2 = [a11, a12] := e5
    rw [e1, e2, e3, e4, e5]
    rfl
theorem rdS_fwd {q : Sta} (h : staOk q = true) (r : List UInt8) : rdS false (bodyS q ++ r) = (q, false, r) := by
  obtain ⟨f1, f2, f3, f4, f5, f6, f7, f8⟩ := staOk_fine h
  have hb := mapOk_le f1
  have l12 : (headB q).length = 12 := by simp [headB, leB_length]
  have e : bodyS q ++ r = headB q ++ (q.staged ++ (mapB q.map ++ (q.pts.flatMap ptB ++ r))) := by simp [bodyS]
  obtain ⟨a1, a2, a3⟩ := num_fwd (n := 12) (q.staged ++ (mapB q.map ++ (q.pts.flatMap ptB ++ r))) (by rw [l12]; rfl) (unpackE_bwwbh l12)
  obtain ⟨m1, m2, m3⟩ := mp_fwd f1 (q.pts.flatMap ptB ++ r)
  have ih := rdPts_fwd ⟨f6, f3⟩ q.pts r f8
  obtain ⟨v1, v2, v3, v4, v5⟩ := five (leB_length q.blocks.toNat 1) (leB_length q.gen.toNat 4) (leB_length q.last.toNat 4) (leB_length q.pts.length 1) (leB_length q.staged.length 2)
  have hN : unpackN [98, 119, 119, 98, 104] (headB q) = [q.blocks.toNat, q.gen.toNat, q.last.toNat, q.pts.length, q.staged.length] := by
    rw [unpack_bwwbh l12, headB, v1, v2, v3, v4, v5, leN_leB_lt (by omega), leN_leB_lt (by omega), leN_leB_lt (by omega), leN_leB_lt (by omega), leN_leB_lt (by omega)]
  have hc : cutL false (q.staged ++ (mapB q.map ++ (q.pts.flatMap ptB ++ r))) q.staged.length = q.staged := by
    rw [cutL, if_neg (by simp; omega)]
    simp
  have hc2 : numR false (q.staged ++ (mapB q.map ++ (q.pts.flatMap ptB ++ r))) q.staged.length = mapB q.map ++ (q.pts.flatMap ptB ++ r) := by
    rw [numR, if_neg (by simp; omega)]
    simp
  have hc3 : cutW false (q.staged ++ (mapB q.map ++ (q.pts.flatMap ptB ++ r))) q.staged.length = false := by simp [cutW]; omega
  rw [e, rdS]
  simp only [a1, a2, a3, hN, List.getD_cons_zero, List.getD_cons_succ, hc, hc2, hc3, m1, m2, m3, ih]
  have i1 : ((q.blocks.toNat : Nat) : Int) = q.blocks := by omega
  have i2 : ((q.gen.toNat : Nat) : Int) = q.gen := by omega
  have i3 : ((q.last.toNat : Nat) : Int) = q.last := by omega
  rw [i1, i2, i3]
theorem rdS_bwd {w : Bool} {l : List UInt8} {q : Sta} {r : List UInt8} (h : rdS w l = (q, false, r)) : w = false ∧ l = bodyS q ++ r := by
  simp only [rdS, Prod.mk.injEq] at h
  obtain ⟨h1, h2⟩ := h
  obtain ⟨i1, i2, i3⟩ := rdPts_bwd _ _ _ _ _ (Prod.ext (rfl : (rdPts _ _ _).1 = _) h2)
  obtain ⟨m1, m2⟩ := mp_bwd i1
  have c1 := cut_ok m1
  have hw : numW w l [98, 119, 119, 98, 104] 12 = false := by simpa using fun hh => c1 (.inl hh)
  obtain ⟨rfl, b2, b3, b4, b5⟩ := numW_false hw
  have e12 : (12 : Int).toNat = 12 := rfl
  rw [e12] at b3 b4 b5
  have l12 : (l.take 12).length = 12 := by simp; omega
  subst h1
  refine ⟨rfl, ?_⟩
  simp only [not_or, Int.not_lt] at c1
  rw [b5] at c1
  have hn4 := c1.2
  simp only [Int.ofNat_le] at hn4
  have hcl : cutL (numW false l [98, 119, 119, 98, 104] 12) (numR false l 12) ((numL false l [98, 119, 119, 98, 104] 12).getD 4 0) = (l.drop 12).take ((numL false l [98, 119, 119, 98, 104] 12).getD 4 0) := by
    rw [cutL, if_neg (by simp only [not_or, Int.not_lt]; rw [b5]; exact c1), b5]; rfl
  have hcr : numR (numW false l [98, 119, 119, 98, 104] 12) (numR false l 12) ((numL false l [98, 119, 119, 98, 104] 12).getD 4 0) = (l.drop 12).drop ((numL false l [98, 119, 119, 98, 104] 12).getD 4 0) := by
    rw [numR, if_neg (by simp only [not_or, Int.not_lt]; rw [b5]; exact c1), b5]; rfl
  have hlen : ((l.drop 12).take ((numL false l [98, 119, 119, 98, 104] 12).getD 4 0)).length = (numL false l [98, 119, 119, 98, 104] 12).getD 4 0 := by
    rw [List.length_take]; omega
  have h5 := five_bwd l12
  rw [hcr] at m2
  simp only [bodyS, headB, Int.toNat_natCast, i2, hcl, hlen, List.append_assoc]
  rw [← i3]
  simp only [hcr, ← m2]
  rw [List.take_append_drop]
  have hN : numL false l [98, 119, 119, 98, 104] 12 = _ := b4.trans (unpack_bwwbh l12)
  rw [hN]
  simp only [List.getD_cons_zero, List.getD_cons_succ]
  have h6 : l = l.take 12 ++ l.drop 12 := (List.take_append_drop 12 l).symm
  conv => lhs; rw [h6, ← h5]
  simp only [List.append_assoc]
/-- What is read was written; what was written is read. -/
theorem readS_some {b : List UInt8} {q : Sta} : readS b = some q ↔ staOk q = true ∧ snapB q = b := by
  constructor
  · intro h
    simp only [readS] at h
    split at h
    · cases h
    · rename_i hn
      simp only [not_or, Bool.not_eq_true, ne_eq, Decidable.not_not, Bool.not_eq_false] at hn
      obtain ⟨n1, n2, n3⟩ := hn
      cases h
      obtain ⟨w0, hl⟩ := rdS_bwd (Prod.ext (rfl : (rdS (decide (openE b ≠ 0)) (openT b)).1 = _) (Prod.ext n1 n2))
      refine ⟨n3, ?_⟩
      have ho : openOk b = true := by
        simp only [openE, decide_eq_false_iff_not, ne_eq, Decidable.not_not] at w0
        split at w0
        · assumption
        · exact absurd w0 (by decide)
      rw [snapB, if_pos n3]
      simp only [List.append_nil] at hl
      rw [← hl, openT, if_pos ho]
      simp only [openOk, Bool.and_eq_true, beq_iff_eq] at ho
      exact ho.2
  · rintro ⟨h, rfl⟩
    rw [snapB, if_pos h]
    have hs : (sealS (bodyS q)).length = (bodyS q).length + 4 := by simp [sealS, leB_length]
    have ht : (sealS (bodyS q)).take ((sealS (bodyS q)).length - 4) = bodyS q := by
      rw [hs, Nat.add_sub_cancel, sealS, List.take_left' rfl]
    have ho : openOk (sealS (bodyS q)) = true := by
      simp only [openOk, ht, beq_self_eq_true, Bool.and_true, decide_eq_true_eq]
      omega
    have hT : openT (sealS (bodyS q)) = bodyS q := by rw [openT, if_pos ho, ht]
    have hE : decide (openE (sealS (bodyS q)) ≠ 0) = false := by simp [openE, ho]
    have hr := rdS_fwd h []
    rw [List.append_nil] at hr
    simp only [readS, hE, hT, hr]
    simp [h]
end Go.Av

namespace Go.Av
open Enc (enc dec)
open Cel (cs dc)
open Go.Proofs Pl

@[simp] def sp_stNew (n : Int) : Option (V × List Tip) := some (.tuple [enc (newS n), enc (newE n)], [])
theorem sp_stNew_ok : EOk Tryz.prog n_state_New (sp1 sp_stNew) := sp1_ok fun n r h => by cases h; exact c_st_New n
@[simp] def sp_snapRecs (q : Sta) (seq : Int) : Option (V × List Tip) := if q.map.length ≤ 2 ^ 30 ∧ q.pts.length ≤ 2 ^ 30 ∧ (∀ p ∈ q.pts, p.map.length ≤ 2 ^ 30) ∧ q.staged.length ≤ 2 ^ 30 then
  some (.tuple [.row 0 3 ((recsL q seq).map cs), enc (recsE q seq)], [(40, 3, (recsL q seq).length)]) else none
theorem sp_snapRecs_ok : EOk Tryz.prog n_snap_Records (sp2 sp_snapRecs) := sp2_ok fun q n r h => by
  simp only [sp_snapRecs] at h
  split at h <;> cases h
  exact c_snap_Records q n (by assumption)
@[simp] def sp_found (l : List Rec) : Option (V × List Tip) := if l.length ≤ 2 ^ 40 then some (.row 0 5 ((foundL l).map cs), [(81, 5, (foundL l).length)]) else none
theorem sp_found_ok : EOk Tryz.prog n_w12_found (sp1 sp_found) := sp1_ok fun l r h => by
  simp only [sp_found] at h
  split at h <;> cases h
  exact c_found l (by assumption)
@[simp] def sp_snapFound (l : List Fnd) : Option (V × List Tip) := if l.length ≤ 2 ^ 30 ∧ ∀ f ∈ l, f.rcd.body.length ≤ 2 ^ 20 ∧ f.rcd.seq < 2 ^ 63 then some (fndV (fndS l), []) else none
theorem sp_snapFound_ok : EOk Tryz.prog n_snap_Found (sp1 sp_snapFound) := sp1_ok fun l r h => by
  simp only [sp_snapFound] at h
  split at h <;> cases h
  exact c_snap_Found l (by assumption)
@[simp] def sp_stSame (a b : Sta) : Option (V × List Tip) := if a.map.length ≤ 2 ^ 30 ∧ a.pts.length ≤ 2 ^ 30 ∧ (∀ p ∈ a.pts, p.map.length ≤ 2 ^ 30) ∧ a.staged.length ≤ 2 ^ 30 then some (enc (decide (a = b)), []) else none
theorem sp_stSame_ok : EOk Tryz.prog n_r11_Same (sp2 sp_stSame) := sp2_ok fun a b r h => by
  simp only [sp_stSame] at h
  split at h <;> cases h
  exact c_r11_Same a b (by assumption)
def D41 : Orc := ((((((Orc.nil.add n_state_New (sp1 sp_stNew)).add n_snap_Write (sp1 sp_snapWrite)).add n_snap_Read (sp1 sp_snapRead)).add n_snap_Records (sp2 sp_snapRecs)).add n_w12_found (sp1 sp_found)).add n_snap_Found (sp1 sp_snapFound)).add n_r11_Same (sp2 sp_stSame)
theorem D41_ok : OOk Tryz.prog D41 := ((((((OOk.nil.add sp_stNew_ok).add sp_snapWrite_ok).add sp_snapRead_ok).add sp_snapRecs_ok).add sp_found_ok).add sp_snapFound_ok).add sp_stSame_ok

theorem readS_back {q : Sta} (h : staOk q = true) : rdQ (snapB q) = q ∧ rdE (snapB q) = 0 := by
  have := readS_some.2 ⟨h, rfl⟩
  simp [rdQ, rdE, this]
def s8 : Sta := ⟨8, 1, [⟨0, 8, 0, 0, []⟩], [], 0, []⟩
theorem newS_8 : newS 8 = s8 := by decide
theorem s8_ok : staOk s8 = true := by decide
theorem s8_len : (snapB s8).length = 26 := by
  rw [snapB, if_pos s8_ok]
  simp [sealS, bodyS, headB, mapB, wrB, wr1, hdX, leB_length, s8]
theorem chunks_nil (n : Nat) : chunks n [] = [] := rfl
theorem s8_parts : snapParts s8 = [snapB s8] := by
  have h := s8_len
  rw [snapParts, chunks_cons (by decide) (by intro e; rw [e] at h; cases h), List.take_of_length_le (by omega), List.drop_of_length_le (by omega), chunks_nil]
def s8r : List Rec := [⟨2, 5, snapB s8⟩, ⟨3, 6, [1, 0]⟩]
theorem s8_recs : recsL s8 5 = s8r ∧ recsE s8 5 = 0 := by
  have h : seqOk 5 = true := by decide
  rw [recsL, recsE, s8_parts, s8_ok, h]
  exact ⟨rfl, rfl⟩
theorem s8_found : fndS (foundL s8r) = some (s8, 5, 6) := by
  have e1 : fndOne (foundL s8r) ⟨⟨3, 6, [1, 0]⟩, 0, 0⟩ = some (s8, 5, 6) := by
    obtain ⟨h1, h2⟩ := readS_back s8_ok
    have ht : takeV [1, 0] 2 = 1 := by decide
    rw [fndOne, if_pos ⟨rfl, by decide, by decide, by decide⟩, ht]
    simp [gather, lookF, foundL, s8r, h1, h2]
  show (bwTo (foundL s8r) 2).findSome? _ = _
  show List.findSome? _ ((1, (⟨⟨3, 6, [1, 0]⟩, 0, 0⟩ : Fnd)) :: _) = _
  rw [List.findSome?_cons, e1]
@[simp] theorem fndV_some (q : Sta) (a b : Int) : fndV (some (q, a, b)) = .tuple [enc q, enc a, enc b, enc (0 : Int)] := rfl
@[simp] theorem fndV_none : fndV none = .tuple [enc Sta.zero, enc (0 : Int), enc (0 : Int), enc (120 : Int)] := rfl
theorem s8_lens : s8.map.length ≤ 1073741824 ∧ s8.pts.length ≤ 1073741824 ∧ (∀ p : Pt, p ∈ s8.pts → p.map.length ≤ 1073741824) ∧ s8.staged.length ≤ 1073741824 := ⟨by decide, by decide, by decide, by decide⟩
theorem s8_flens : (foundL s8r).length ≤ 1073741824 ∧ ∀ f : Fnd, f ∈ foundL s8r → f.rcd.body.length ≤ 1048576 ∧ f.rcd.seq < 9223372036854775808 := by
  have h := s8_len
  refine ⟨by decide, fun f hf => ?_⟩
  simp [foundL, s8r] at hf
  rcases hf with rfl | rfl
  · exact ⟨by simp; omega, by decide⟩
  · exact ⟨by decide, by decide⟩
set_option maxRecDepth 4000 in
theorem c_awake : Pure Tryz.prog n_w12_awake [] (.val (.bool true)) [] := by
  refine Pure.ofC D41_ok hm F_w12_awake_ok (by simp [F_w12_awake]) rfl ?_
  obtain ⟨h1, h2⟩ := readS_back s8_ok
  obtain ⟨h3, h4⟩ := s8_recs
  have h5 := s8_found
  have h6 := s8_len
  have h7 : staE s8 = 0 := by decide
  have h8 : staE Sta.zero = 110 := by decide
  have h8' : staE ⟨0, 0, [], [], 0, []⟩ = 110 := by decide
  have h9 : rdE [] = 120 := by
    have : readS [] = none := by
      cases hr : readS [] with
      | none => rfl
      | some q =>
        obtain ⟨k1, k2⟩ := readS_some.1 hr
        have := congrArg List.length k2
        rw [snapB, if_pos k1] at this
        simp [sealS, leB_length] at this
    simp [rdE, this]
  have h10 : fndS [] = none := rfl
  have k1 : s8r.length = 2 := rfl
  have k2 : s8r[0]? = some ⟨2, 5, snapB s8⟩ := rfl
  have k3 : s8r[1]? = some ⟨3, 6, [1, 0]⟩ := rfl
  simp [F_w12_awake, D41, newS_8, h1, h2, h3, h4, h5, h6, h7, h8, h8', h9, h10, s8_lens.1, s8_lens.2.1, eq_true s8_lens.2.2.1, s8_lens.2.2.2, s8_flens.1, eq_true s8_flens.2, k1, k2, k3]
  exact ⟨fun _ => ⟨fun _ => rfl, rfl⟩, rfl⟩
end Go.Av

namespace Go.Av
open Enc (enc dec)
open Cel (cs dc)
open Go.Proofs Pl

theorem few11_len {q : Sta} (h : few11 q = true) : staLen q := by
  simp only [few11, few7, Bool.and_eq_true, decide_eq_true_eq, List.all_eq_true] at h
  obtain ⟨⟨⟨h1, h2⟩, h3, _⟩, h4⟩ := h
  exact ⟨by omega, by omega, fun p hp => by have := (h4 p hp).1; omega, by omega⟩
theorem staLen' {q : Sta} (h : staLen q) : q.map.length ≤ 1073741824 ∧ q.pts.length ≤ 1073741824 ∧ (∀ p : Pt, p ∈ q.pts → p.map.length ≤ 1073741824) ∧ q.staged.length ≤ 1073741824 := h
@[simp] def sp_awake : Option (V × List Tip) := some (.val (.bool true), [])
theorem sp_awake_ok : EOk Tryz.prog n_w12_awake (sp0 sp_awake) := sp0_ok fun r h => by cases h; exact c_awake
@[simp] def sp_few11 (q : Sta) : Option (V × List Tip) := if q.map.length ≤ 9223372036854775807 ∧ q.pts.length ≤ 9223372036854775807 ∧ (∀ p ∈ q.pts, p.map.length ≤ 9223372036854775807) ∧ q.staged.length ≤ 9223372036854775807 then some (enc (few11 q), []) else none
theorem sp_few11_ok : EOk Tryz.prog n_w11_Few (sp1 sp_few11) := sp1_ok fun q r h => by
  simp only [sp_few11] at h
  split at h <;> cases h
  exact c_few11 q (by assumption)
theorem snapB_pos {q : Sta} (h : staOk q = true) : 0 < (snapB q).length := by
  rw [snapB, if_pos h]; simp [sealS, leB_length]
theorem staE_ok {q : Sta} (h : staOk q = true) : staE q = 0 := by simp [staE, h]
theorem staE_no {q : Sta} (h : staOk q = false) : staE q = 110 := by simp [staE, h]
end Go.Av

namespace Go.Av
open Enc (enc dec)
open Cel (cs dc)
open Go.Proofs Pl

theorem chunksF_flat {n : Nat} (hn : 0 < n) : ∀ (k : Nat) (l : List UInt8), l.length ≤ k → (chunksF n k l).flatten = l
  | 0, l, h => by
    have : l = [] := List.length_eq_zero_iff.1 (by omega)
    subst this
    rfl
  | k + 1, l, h => by
    rw [chunksF]
    split
    · rename_i e; rw [e]; rfl
    · rename_i e
      have := List.length_pos_iff.2 e
      rw [List.flatten_cons, chunksF_flat hn k (l.drop n) (by simp; omega), List.take_append_drop]
theorem chunksF_ne {n : Nat} (hn : 0 < n) : ∀ (k : Nat) (l : List UInt8), ∀ c ∈ chunksF n k l, 0 < c.length ∧ c.length ≤ n
  | 0, l, c, h => by simp [chunksF] at h
  | k + 1, l, c, h => by
    rw [chunksF] at h
    split at h
    · cases h
    · rename_i e
      have := List.length_pos_iff.2 e
      rcases List.mem_cons.1 h with rfl | h
      · simp; omega
      · exact chunksF_ne hn k _ c h
theorem parts_flat (q : Sta) : (snapParts q).flatten = snapB q := chunksF_flat (by decide) _ _ (Nat.le_refl _)
theorem parts_ne {q : Sta} : ∀ c ∈ snapParts q, 0 < c.length ∧ c.length ≤ 4096 := chunksF_ne (by decide) _ _
theorem partsR_get : ∀ (l : List (List UInt8)) (seq : Int) (i : Nat) (c : List UInt8), l[i]? = some c → (partsR seq l)[i]? = some ⟨2, seq + i, c⟩
  | [], _, _, _, h => by simp at h
  | d :: l, seq, 0, c, h => by simp at h; subst h; simp [partsR]
  | d :: l, seq, i + 1, c, h => by
    have := partsR_get l (seq + 1) i c (by simpa using h)
    have e : seq + 1 + (i : Int) = seq + ((i + 1 : Nat) : Int) := by omega
    rw [partsR, List.getElem?_cons_succ, this, e]
theorem put_two {k : Nat} (h : k < 65536) : bytesPut [] k 2 = [UInt8.ofNat k, UInt8.ofNat (k / 256)] ∧ errPut k 2 = 0 := by
  have hm : mayB k 2 = true := by simp [mayB]; omega
  have e : leB k 2 = [UInt8.ofNat k, UInt8.ofNat (k / 256)] := by simp [leB, List.range_succ]
  simp [bytesPut, errPut, hm, e]
/-- A snapshot's records, one by one. -/
theorem recs_facts {q : Sta} (h : staOk q = true) {seq : Int} (hs : seqOk seq = true) : recsE q seq = 0 ∧ (recsL q seq).length = (snapParts q).length + 1 ∧ 0 < (snapParts q).length ∧ (snapParts q).length ≤ 20000 ∧
    (∀ (i : Nat) (c : List UInt8), (snapParts q)[i]? = some c → (recsL q seq)[i]? = some ⟨2, seq + i, c⟩) ∧
    (recsL q seq)[(snapParts q).length]? = some ⟨3, seq + (snapParts q).length, [UInt8.ofNat (snapParts q).length, UInt8.ofNat ((snapParts q).length / 256)]⟩ := by
  have hsl := snapB_length q
  have hpl : (snapParts q).length ≤ 20000 := Nat.le_trans (chunksF_length _ _ _) hsl
  have hpos : 0 < (snapParts q).length := by
    have h1 := snapB_pos h
    rw [← parts_flat q] at h1
    cases hp : snapParts q with
    | nil => rw [hp] at h1; cases h1
    | cons a l => simp
  obtain ⟨e1, e2⟩ := put_two (k := (snapParts q).length) (by omega)
  have hl : recsL q seq = partsR seq (snapParts q) ++ [⟨3, seq + (snapParts q).length, [UInt8.ofNat (snapParts q).length, UInt8.ofNat ((snapParts q).length / 256)]⟩] := by rw [recsL, if_pos ⟨h, hs⟩, e1]
  refine ⟨by rw [recsE, if_pos h, if_pos hs, e2], by rw [hl]; simp [partsR_length], hpos, hpl, fun i c hc => ?_, ?_⟩
  · rw [hl, List.getElem?_append_left (by rw [partsR_length]; exact (List.getElem?_eq_some_iff.1 hc).1)]
    exact partsR_get _ _ _ _ hc
  · rw [hl, List.getElem?_append_right (by rw [partsR_length]; exact Nat.le_refl _), partsR_length]
    simp
end Go.Av

namespace Go.Av
open Enc (enc dec)
open Cel (cs dc)
open Go.Proofs Pl

theorem foundL_append (X Y : List Rec) : foundL (X ++ Y) = foundL X ++ foundL Y := List.map_append
theorem look_found (S : List Rec) (x : Int) : lookF (foundL S) x = S.find? fun r => r.seq == x := by
  rw [lookF, foundL, List.find?_map, Option.map_map]
  cases h : S.find? ((fun f : Fnd => f.rcd.seq == x) ∘ fun r => (⟨r, 0, 0⟩ : Fnd)) with
  | none => exact h.symm
  | some r => exact h.symm
theorem gather_some {look : Int → Option Rec} : ∀ (P : List (List UInt8)) (b : Int), (∀ (i : Nat) (c : List UInt8), P[i]? = some c → ∃ p, look (b + i) = some p ∧ p.kind = 2 ∧ p.body = c) → gather look b P.length = some P.flatten
  | [], _, _ => rfl
  | c :: P, b, h => by
    obtain ⟨p, h1, h2, h3⟩ := h 0 c rfl
    have ih := gather_some P (b + 1) fun i d hd => by
      obtain ⟨p, k1, k2⟩ := h (i + 1) d (by simpa using hd)
      have : b + ((i + 1 : Nat) : Int) = b + 1 + i := by omega
      rw [this] at k1
      exact ⟨p, k1, k2⟩
    have h0 : b + ((0 : Nat) : Int) = b := by omega
    rw [h0] at h1
    rw [List.length_cons, gather, h1, Option.bind_some, if_pos h2, ih, h3]
    rfl
theorem fndS_eq (l : List Fnd) : fndS l = l.reverse.findSome? (fndOne l) := by
  have h := bwTo_snd l l.length (Nat.le_refl _)
  rw [List.take_length] at h
  rw [← h, List.findSome?_map]
  rfl
theorem takes_two (n : Nat) (h : n < 65536) : takeE [UInt8.ofNat n, UInt8.ofNat (n / 256)] 2 = 0 ∧ takeR [UInt8.ofNat n, UInt8.ofNat (n / 256)] 2 = [] ∧ takeV [UInt8.ofNat n, UInt8.ofNat (n / 256)] 2 = n := by
  have e1 : (UInt8.ofNat n).toNat = n % 256 := UInt8.toNat_ofNat'
  have e2 : (UInt8.ofNat (n / 256)).toNat = n / 256 := by rw [UInt8.toNat_ofNat']; omega
  have ho : okT [UInt8.ofNat n, UInt8.ofNat (n / 256)] 2 = true := by simp [okT, mayB]
  refine ⟨by simp [takeE, ho], by simp [takeR, ho], ?_⟩
  rw [takeV, if_pos ho]
  show leN [UInt8.ofNat n, UInt8.ofNat (n / 256)] = n
  simp only [leN, e1, e2]
  omega
/-- The last snapshot is whole. -/
theorem block_some {q : Sta} (h : staOk q = true) {b : Nat} (hs : seqOk b = true) {S : List Rec} (hl : ∀ r ∈ recsL q b, lookF (foundL S) r.seq = some r) (X : List Rec) :
    (foundL (X ++ recsL q b)).reverse.findSome? (fndOne (foundL S)) = some (q, (b : Int), ((b + (snapParts q).length : Nat) : Int)) := by
  obtain ⟨r1, r2, r3, r4, r5, r6⟩ := recs_facts h hs
  obtain ⟨t1, t2, t3⟩ := takes_two (snapParts q).length (by omega)
  have hsp : recsL q b = (recsL q b).take (snapParts q).length ++ [⟨3, (b : Int) + (snapParts q).length, [UInt8.ofNat (snapParts q).length, UInt8.ofNat ((snapParts q).length / 256)]⟩] := by
    conv => lhs; rw [← List.take_append_drop (snapParts q).length (recsL q b)]
    congr 1
    rw [List.drop_eq_getElem_cons (by omega), (List.getElem?_eq_some_iff.1 r6).2, List.drop_eq_nil_of_le (by omega)]
  have hg := gather_some (look := lookF (foundL S)) (snapParts q) b fun i c hc => by
    have h1 := r5 i c hc
    exact ⟨_, hl _ (List.mem_of_getElem? h1), rfl, rfl⟩
  obtain ⟨b1, b2⟩ := readS_back h
  have he : fndOne (foundL S) ⟨⟨3, (b : Int) + (snapParts q).length, [UInt8.ofNat (snapParts q).length, UInt8.ofNat ((snapParts q).length / 256)]⟩, 0, 0⟩ = some (q, (b : Int), ((b + (snapParts q).length : Nat) : Int)) := by
    rw [fndOne]
    dsimp only
    rw [t1, t2, t3]
    have e : (b : Int) + ((snapParts q).length : Int) - ((snapParts q).length : Int) = b := by omega
    rw [if_pos ⟨rfl, rfl, rfl, by omega⟩, e, hg, Option.bind_some, parts_flat, if_pos b2, b1]
    simp
  rw [hsp, ← List.append_assoc, foundL_append, List.reverse_append]
  show List.findSome? _ (_ :: _) = _
  rw [List.findSome?_cons, he]
end Go.Av

namespace Go.Av.Pl
theorem empty_of {n : Nat} {zs : List Zo} (h : n < stN 0 zs) : ∃ z ∈ zs, z.st = 0 := by
  have h1 : 0 < stN 0 zs := by omega
  unfold stN at h1
  obtain ⟨z, hz, hz0⟩ := List.countP_pos_iff.1 h1
  exact ⟨z, hz, by simpa using hz0⟩
theorem place_empty' {d : Dv} (hok : dOk d = true) {n : Nat} (hn : 1 ≤ n) (hs : (n : Int) ≤ d.size) (h : ∃ z ∈ d.zones, z.st = 0) : placeE d n = 0 := by
  unfold placeE
  rw [if_neg (by rintro (h | h | h) <;> first | (rw [hok] at h; cases h) | omega)]
  by_cases h1 : 0 ≤ dFirst d 1 n
  · rw [if_pos h1]
  · rw [if_neg h1, if_neg]
    intro h2
    obtain ⟨z, hz, hz0⟩ := h
    have := zIdx_none h2 z hz
    have h3 := (dOk_iff.1 hok).1 z hz
    have h4 := zOk_iff.1 h3
    have h5 : z.data.length = 0 := by
      rcases h4.2 with h | h | h
      · exact h.2
      · omega
      · omega
    have h6 : zRoom z d.size = d.size := by
      unfold zRoom
      rw [if_pos ⟨h3, by simp [zTakes, hz0]⟩, h5]
      omega
    simp only [hz0, h6, decide_true, Bool.true_and, decide_eq_false_iff_not] at this
    exact this hs
/-- There is room while there are zones that are empty. -/
theorem app_room : ∀ (l : List Rec) {d : Dv} {k : Nat}, DG d k → k + 2 * l.length ≤ 2 ^ 61 → l.length ≤ stN 0 d.zones → (∀ r ∈ l, recOk r = true ∧ (r.body.length : Int) + 20 ≤ d.size) → ∀ R, appR d l = some R → R.2.2 = 0
  | [], d, k, _, _, _, _, R, h => by cases h; rfl
  | r :: l, d, k, hg, hk, hn, hl, R, h => by
    simp only [List.length_cons] at hk hn
    obtain ⟨hr, hrs⟩ := hl r List.mem_cons_self
    have hbl := recB_length hr
    rcases one_good hg (by omega) hr with ⟨h1, _⟩ | ⟨p, hp, d', hone, hS⟩
    · exact absurd (place_empty' hg.ok (by omega) (by omega) (empty_of (n := l.length) (by omega))) h1
    · simp only [appR, hone, Option.bind_some, ne_eq, not_true_eq_false, if_false, Option.map_eq_some_iff] at h
      obtain ⟨Q, hQ, rfl⟩ := h
      have he : l.length ≤ stN 0 d'.zones := by
        have key : ∀ (zs : List Zo) (hpz : p < zs.length) (z : Zo), stN 0 zs ≤ stN 0 (zs.set p z) + 1 := fun zs hpz z => by
          have := stN_set 0 zs p hpz z
          split at this <;> split at this <;> omega
        rcases hS.zones with ⟨_, e⟩ | ⟨_, _, e | ⟨j, hj, hji, hj1, _, e⟩⟩
        · rw [e]; have := key d.zones hp (zAdd d.zones[p] d.size (recB r)); omega
        · rw [e]; have := key d.zones hp (zAdd d.zones[p] d.size (recB r)); omega
        · rw [e]
          have h1 := stN_set 0 d.zones j hj (zEnd d.zones[j])
          rw [if_neg (by rw [hj1]; decide), if_neg (by show ¬ (3 : Int) = 0; decide)] at h1
          have := key (d.zones.set j (zEnd d.zones[j])) (by rw [List.length_set]; exact hp) (zAdd d.zones[p] d.size (recB r))
          omega
      exact app_room l hS.good (by omega) he (fun x hx => by rw [hS.size]; exact hl x (List.mem_cons_of_mem _ hx)) Q hQ
theorem new_empty (z : Nat) (n : Int) (hz : 1 ≤ z ∧ z ≤ 64) (hn : 1 ≤ n ∧ n ≤ 1048576) : stN 0 (dNew z n).zones = z := by
  have e : dNew z n = ⟨n, List.replicate z ⟨0, 0, [], 0⟩, -1, false, 0⟩ := by
    unfold dNew
    rw [if_neg (by omega), Int.toNat_natCast]
  rw [e]
  show (List.replicate z (⟨0, 0, [], 0⟩ : Zo)).countP _ = z
  rw [List.countP_replicate]
  simp
end Go.Av.Pl
namespace Go.Av
open Pl
theorem chunksF_mul : ∀ (k : Nat) (l : List UInt8), 4096 * (chunksF 4096 k l).length ≤ l.length + 4095
  | 0, l => by simp [chunksF]
  | k + 1, l => by
    rw [chunksF]
    split
    · simp
    · rename_i h
      have h2 := chunksF_mul k (l.drop 4096)
      have h1 : 0 < l.length := List.length_pos_iff.2 (by simpa using h)
      rw [List.length_cons]
      rw [List.length_drop] at h2
      omega
theorem parts_le (q : Sta) : (snapParts q).length ≤ 5 := by
  have h1 := chunksF_mul (snapB q).length (snapB q)
  have h2 := snapB_length q
  have e : (snapParts q).length = (chunksF 4096 (snapB q).length (snapB q)).length := rfl
  omega
/-- Records that follow a snapshot's, up to so many. -/
def moreL (seq : Int) (n0 : Nat) : Nat → List Rec
  | 0 => []
  | k + 1 => moreL seq n0 k ++ [⟨1, seq + (n0 + k : Nat), [UInt8.ofNat k]⟩]
theorem moreL_len (seq : Int) (n0 : Nat) : ∀ k, (moreL seq n0 k).length = k
  | 0 => rfl
  | k + 1 => by rw [moreL, List.length_append, moreL_len seq n0 k]; rfl
theorem moreL_get (seq : Int) (n0 : Nat) : ∀ (k i : Nat) (r : Rec), (moreL seq n0 k)[i]? = some r → r = ⟨1, seq + (n0 + i : Nat), [UInt8.ofNat i]⟩
  | 0, i, r, h => by simp [moreL] at h
  | k + 1, i, r, h => by
    rw [moreL] at h
    by_cases hi : i < k
    · rw [List.getElem?_append_left (by rw [moreL_len]; exact hi)] at h
      exact moreL_get seq n0 k i r h
    · rw [List.getElem?_append_right (by rw [moreL_len]; omega), moreL_len] at h
      have : i - k = 0 := by
        have := (List.getElem?_eq_some_iff.1 h).1
        simp at this
        omega
      have hik : i = k := by omega
      subst hik
      simp at h
      exact h.symm
/-- A snapshot's records, and so many more. -/
def slR (q : Sta) (seq : Int) (k : Nat) : List Rec := recsL q seq ++ moreL seq (recsL q seq).length k
theorem sl_facts {q : Sta} (h : staOk q = true) {seq : Nat} (hs : seq ≤ 2 ^ 40) {k : Nat} (hk : k ≤ 3) :
    (slR q seq k).length = (recsL q seq).length + k ∧ 2 ≤ (recsL q seq).length ∧ (recsL q seq).length ≤ 6 ∧ (∀ (i : Nat) (r : Rec), (slR q seq k)[i]? = some r → r.seq = ((seq + i : Nat) : Int) ∧ recOk r = true) := by
  have hsq : seqOk (seq : Int) = true := by simp only [seqOk, decide_eq_true_eq]; omega
  obtain ⟨r1, r2, r3, r4, r5, r6⟩ := recs_facts h hsq
  have hp := parts_le q
  refine ⟨by rw [slR, List.length_append, moreL_len], by omega, by omega, fun i r hr => ?_⟩
  rw [slR] at hr
  by_cases hi : i < (recsL q seq).length
  · rw [List.getElem?_append_left hi] at hr
    by_cases hi2 : i < (snapParts q).length
    · have h5 := r5 i _ (List.getElem?_eq_getElem hi2)
      rw [h5] at hr
      cases hr
      have hb := (parts_ne _ (List.getElem_mem hi2)).2
      exact ⟨by show (seq : Int) + (i : Int) = _; omega, recOk_iff.2 ⟨by show (1 : Int) ≤ 2; decide, by show (2 : Int) ≤ 5; decide, by show (0 : Int) ≤ (seq : Int) + (i : Int); omega, by show (seq : Int) + (i : Int) ≤ 4611686018427387903; omega, hb⟩⟩
    · have : i = (snapParts q).length := by omega
      subst this
      rw [r6] at hr
      cases hr
      exact ⟨by show (seq : Int) + ((snapParts q).length : Int) = _; omega, recOk_iff.2 ⟨by show (1 : Int) ≤ 3; decide, by show (3 : Int) ≤ 5; decide, by show (0 : Int) ≤ (seq : Int) + ((snapParts q).length : Int); omega, by show (seq : Int) + ((snapParts q).length : Int) ≤ 4611686018427387903; omega, by simp⟩⟩
  · rw [List.getElem?_append_right (by omega)] at hr
    have hlt := (List.getElem?_eq_some_iff.1 hr).1
    rw [moreL_len] at hlt
    rw [moreL_get _ _ _ _ _ hr]
    refine ⟨?_, recOk_iff.2 ⟨by show (1 : Int) ≤ 1; decide, by show (1 : Int) ≤ 5; decide, ?_, ?_, by simp⟩⟩
    · show (seq : Int) + (((recsL q seq).length + (i - (recsL q seq).length) : Nat) : Int) = _
      omega
    · show (0 : Int) ≤ (seq : Int) + (((recsL q seq).length + (i - (recsL q seq).length) : Nat) : Int)
      omega
    · show (seq : Int) + (((recsL q seq).length + (i - (recsL q seq).length) : Nat) : Int) ≤ 4611686018427387903
      omega
theorem lookF_rcd (l : List Fnd) (x : Int) : lookF l x = lookF (foundL (l.map (·.rcd))) x := by
  rw [look_found, lookF, List.find?_map]
  rfl
theorem fndOne_rcd (l : List Fnd) (f : Fnd) : fndOne l f = fndOne (foundL (l.map (·.rcd))) ⟨f.rcd, 0, 0⟩ := by
  have e : lookF l = lookF (foundL (l.map (·.rcd))) := funext (lookF_rcd l)
  unfold fndOne
  rw [e]
theorem fndS_rcd (l : List Fnd) : fndS l = fndS (foundL (l.map (·.rcd))) := by
  rw [fndS_eq, fndS_eq]
  have : ∀ (m : List Fnd), m.findSome? (fndOne l) = (foundL (m.map (·.rcd))).findSome? (fndOne (foundL (l.map (·.rcd)))) := by
    intro m
    induction m with
    | nil => rfl
    | cons f m ih =>
      show _ = List.findSome? _ (_ :: _)
      rw [List.findSome?_cons, List.findSome?_cons, ih, fndOne_rcd l f]
      rfl
  have h2 := this l.reverse
  rw [h2, List.map_reverse]
  have e3 : foundL (l.map (·.rcd)).reverse = (foundL (l.map (·.rcd))).reverse := by simp [foundL]
  rw [e3]
theorem sl_found {q : Sta} (h : staOk q = true) {seq : Nat} (hs : seq ≤ 2 ^ 40) {k : Nat} (hk : k ≤ 3) : fndS (foundL (slR q seq k)) = some (q, (seq : Int), ((seq + (snapParts q).length : Nat) : Int)) := by
  have hsq : seqOk (seq : Int) = true := by simp only [seqOk, decide_eq_true_eq]; omega
  obtain ⟨f1, f2, f3, f4⟩ := sl_facts h hs hk
  have hlook : ∀ r ∈ recsL q seq, lookF (foundL (slR q seq k)) r.seq = some r := fun r hr => by
    obtain ⟨i, hi, rfl⟩ := List.getElem_of_mem hr
    rw [look_found]
    have hi2 : i < (slR q seq k).length := by omega
    have e : (slR q seq k)[i] = (recsL q seq)[i] := by simp [slR, hi]
    have h1 := (f4 i _ (List.getElem?_eq_getElem hi2)).1
    have : (slR q seq k).find? (fun r => r.seq == (recsL q seq)[i].seq) = some (slR q seq k)[i] := by
      rw [List.find?_eq_some_iff_getElem]
      refine ⟨by rw [e]; simp, i, hi2, rfl, fun j hj => ?_⟩
      have h2 := (f4 j _ (List.getElem?_eq_getElem (by omega))).1
      rw [← e, h1, h2]
      simp
      omega
    rw [this, e]
  rw [fndS_eq, slR, foundL_append, List.reverse_append, List.findSome?_append]
  have hnone : (foundL (moreL (seq : Int) (recsL q seq).length k)).reverse.findSome? (fndOne (foundL (recsL q seq ++ moreL seq (recsL q seq).length k))) = none := by
    rw [List.findSome?_eq_none_iff]
    intro f hf
    have hf2 := List.mem_reverse.1 hf
    obtain ⟨r, hr, rfl⟩ := List.mem_map.1 hf2
    obtain ⟨i, hi⟩ := List.getElem?_of_mem hr
    have := moreL_get _ _ _ _ _ hi
    subst this
    unfold fndOne
    rw [if_neg]
    rintro ⟨h1, _⟩
    have h2 : (1 : Int) = 3 := h1
    exact absurd h2 (by decide)
  rw [foundL_append] at hnone
  rw [hnone, Option.none_or]
  have := block_some h hsq (S := slR q seq k) hlook []
  rw [List.nil_append] at this
  rw [slR, foundL_append] at this
  exact this
end Go.Av

namespace Go.Av
open Enc (enc dec)
open Cel (cs dc)
open Go.Proofs Pl

theorem allF_len (zs : List Zo) (i : Nat) (hi : i < zs.length) (n : Nat) : allF (zs.drop i) n = scanF zs[i] n ++ allF (zs.drop (i + 1)) (n + 1) := by
  rw [List.drop_eq_getElem_cons hi, allF]
@[simp] def sp_rScan (b : List UInt8) : Option (V × List Tip) := if b.length ≤ 2 ^ 38 then some (.tuple [enc (scanR b), enc (scanP b)], []) else none
theorem sp_rScan_ok : EOk Tryz.prog n_record_Scan (sp1 sp_rScan) := sp1_ok fun b r h => by
  simp only [sp_rScan] at h
  split at h <;> cases h
  exact c_rScan b (by assumption)
def AllO (sp : List V → Mem → Option (V × Mem)) : Orc := ((Orc.nil.add n_dev_Check (sp1 sp_dCheck)).add n_record_Scan (sp1 sp_rScan)).addL n_slices_SortStableFunc_Found sp
theorem AllO_ok {sp : List V → Mem → Option (V × Mem)} (h : EOkL Tryz.prog n_slices_SortStableFunc_Found sp) : OOk Tryz.prog (AllO sp) := ((OOk.nil.add sp_dCheck_ok).add sp_rScan_ok).addL h
def AllI (zs : List Zo) (k : Nat) (s : Nat → V) (m : Mem) : Prop :=
  ∃ (i : Nat) (acc : List Fnd) (bx : List (List V)), i + k = zs.length ∧ allF zs 0 = acc ++ allF (zs.drop i) i ∧ (∀ c ∈ bx, isObj c = false) ∧ s 14 = .lit 4 (zs.map cs) ∧ s 15 = .val (.int .i64 zs.length) ∧ s 16 = .val (.int .i64 i) ∧ s 2 = .row 0 5 (acc.map cs) ∧ m = ⟨bx, [(81, 5, acc.length)]⟩
def AllJ (zs : List Zo) (i : Nat) (z : Zo) (acc : List Fnd) (k : Nat) (s : Nat → V) (m : Mem) : Prop :=
  ∃ (j : Nat) (bx : List (List V)), j + k = (scanF z i).length ∧ (∀ c ∈ bx, isObj c = false) ∧ s 14 = .lit 4 (zs.map cs) ∧ s 15 = .val (.int .i64 zs.length) ∧ s 16 = .val (.int .i64 i) ∧ s 4 = .val (.int .i64 i) ∧ s 27 = .lit 3 ((scanR z.data).map cs) ∧ s 7 = .lit 1 ((scanP z.data).map cs) ∧ s 28 = .val (.int .i64 (scanF z i).length) ∧ s 29 = .val (.int .i64 j) ∧
    s 2 = .row 0 5 ((acc ++ (scanF z i).take j).map cs) ∧ m = ⟨bx, [(81, 5, acc.length + j)]⟩
theorem scanF_get {z : Zo} {i j : Nat} {f : Fnd} (h : (scanF z i)[j]? = some f) : (scanR z.data)[j]? = some f.rcd ∧ (scanP z.data)[j]? = some f.at_ ∧ f.zone = i := by
  unfold scanF at h
  rw [List.getElem?_map, Option.map_eq_some_iff] at h
  obtain ⟨p, hp, rfl⟩ := h
  simp [scanR, scanP, hp]
theorem melt_fnd : ∀ l : List Fnd, (l.map cs).flatten.all meltV = true
  | [] => rfl
  | f :: l => by
    have h1 : ∀ b : List UInt8, (b.map cs).all byteE = true := fun b => by
      rw [List.all_map, List.all_eq_true]
      intro x _
      rfl
    rw [List.map_cons, List.flatten_cons, List.all_append, melt_fnd l, Bool.and_true]
    simp [meltV, h1]
theorem c_lAll (d : Dv) (hok : dOk d = true) (hn : (allF d.zones 0).length ≤ 20) : Pure Tryz.prog n_log_All [enc d] (.tuple [enc (sortF (allF d.zones 0)), enc (0 : Int)]) [] := by
  obtain ⟨sp, hsp, e⟩ := sp_sort_ex
  obtain ⟨hs, hne⟩ := dOk_sm hok
  have hsn := hs.n
  have hzl := (dOk_iff.1 hok).2.2.1
  by_cases h0 : allF d.zones 0 = []
  · refine Pure.ofC (AllO_ok sp_sort0_ok) hm F_log_All_ok (by simp [F_log_All]) (by simp [V.res, V.res1]) ?_
    simp only [Nat.reducePow] at hsn
    simp [F_log_All, AllO, decX_map, hsn, hok, h0, sortF]
    refine wp_loop (AllI d.zones) d.zones.length (IW.of ⟨0, [], _, by omega, by simp, ?_, by simp, by simp, by simp, by simp, rfl⟩) fun k s m ⟨i, acc, bx, hik, hall, hbx, s14, s15, s16, s2, hm⟩ => ?_
    · simp
    subst hm
    rw [h0] at hall
    obtain ⟨rfl, hal2⟩ := List.append_eq_nil_iff.1 hall.symm
    clear hall
    by_cases hi : i < d.zones.length
    · have hg : d.zones[i]? = some d.zones[i] := List.getElem?_eq_getElem hi
      have w1 := IntWalk.i64_in ((i : Int) + 1) (by omega)
      have hzd := hs.z _ (List.getElem_mem hi)
      have hzd2 : d.zones[i].data.length ≤ 274877906944 := by omega
      rw [allF_len _ _ hi] at hal2
      obtain ⟨e1, e2⟩ := List.append_eq_nil_iff.1 hal2
      have hR : scanR d.zones[i].data = [] := by
        have : (scanR d.zones[i].data).length = (scanF d.zones[i] i).length := by simp [scanR, scanF]
        rw [e1] at this
        exact List.eq_nil_of_length_eq_zero this
      simp [F_log_All_L1, AllO, s14, s15, s16, s2, hi, hg, hzd2, decX_cs, hR]
      refine wp_loop (AllJ d.zones i d.zones[i] []) 0 (IW.of ⟨0, _, by simp [e1], ?_, by simpa using s14, by simpa using s15, by simpa using s16, by simp, by simp [hR], by simp, by simp [e1], by simp, by simpa using s2, by simp; rfl⟩) fun k' s m ⟨j, bx, hjk, hbx, s14, s15, s16, s4, s27, s7, s28, s29, s2, hm⟩ => ?_
      · intro c hc
        rcases List.mem_append.1 hc with hc | hc
        · exact hbx c hc
        · simp only [List.mem_singleton] at hc
          subst hc
          rfl
      subst hm
      rw [e1] at hjk s28 s2
      have ej : j = 0 := by simp at hjk; omega
      subst ej
      simp [F_log_All_L0, s14, s15, s16, s28, s29, s2, w1]
      exact ⟨k - 1, by omega, IW.of (show AllI d.zones _ _ _ from ⟨i + 1, [], bx, by omega, by rw [h0, e2]; rfl, hbx, by simpa using s14, by simpa using s15, by simp, by simpa using s2, by simp⟩)⟩
    · simp [F_log_All_L1, s14, s15, s16, s2, hi, sp_sort0]
  · refine Pure.ofM (AllO_ok hsp) hm F_log_All_ok (by simp [F_log_All]) (0 + 1 + 1 + 1) 2 ?_ (by simp [clean_cs]) (by simp [V.res, V.res1])
    simp only [Nat.reducePow] at hsn
    simp [F_log_All, wpK, AllO, decX_map, hsn, hok]
    refine wp_loop (AllI d.zones) d.zones.length (IW.of ⟨0, [], _, by omega, by simp, ?_, by simp, by simp, by simp, by simp, rfl⟩) fun k s m ⟨i, acc, bx, hik, hall, hbx, s14, s15, s16, s2, hm⟩ => ?_
    · simp
    subst hm
    by_cases hi : i < d.zones.length
    · have hg : d.zones[i]? = some d.zones[i] := List.getElem?_eq_getElem hi
      have w1 := IntWalk.i64_in ((i : Int) + 1) (by omega)
      have hzd := hs.z _ (List.getElem_mem hi)
      have hzd2 : d.zones[i].data.length ≤ 274877906944 := by omega
      rw [allF_len _ _ hi] at hall
      have hlen : acc.length + (scanF d.zones[i] i).length ≤ 20 := by
        rw [hall] at hn
        simp only [List.length_append] at hn
        omega
      have hR : (scanR d.zones[i].data).length = (scanF d.zones[i] i).length := by simp [scanR, scanF]
      simp [F_log_All_L1, AllO, s14, s15, s16, s2, hi, hg, hzd2, decX_cs, hR]
      refine wp_loop (AllJ d.zones i d.zones[i] acc) (scanF d.zones[i] i).length (IW.of ⟨0, _, by omega, ?_, by simpa using s14, by simpa using s15, by simpa using s16, by simp, by simp, by simp, by simp, by simp, by simpa using s2, by simp; rfl⟩) fun k' s m ⟨j, bx, hjk, hbx, s14, s15, s16, s4, s27, s7, s28, s29, s2, hm⟩ => ?_
      · intro c hc
        rcases List.mem_append.1 hc with hc | hc
        · exact hbx c hc
        · simp only [List.mem_singleton] at hc
          subst hc
          rfl
      subst hm
      by_cases hj : j < (scanF d.zones[i] i).length
      · have hf : (scanF d.zones[i] i)[j]? = some (scanF d.zones[i] i)[j] := List.getElem?_eq_getElem hj
        obtain ⟨q1, q2, q3⟩ := scanF_get hf
        have hsn2 : (scanF d.zones[i] i).take (j + 1) = (scanF d.zones[i] i).take j ++ [(scanF d.zones[i] i)[j]] := by rw [List.take_add_one, hf]; rfl
        generalize hF : (scanF d.zones[i] i)[j] = f at q1 q2 q3 hsn2
        have w2 := IntWalk.i64_in ((j : Int) + 1) (by omega)
        have hjl : j ≤ (scanF d.zones[i] i).length := by omega
        simp [F_log_All_L0, AllO, s14, s15, s16, s4, s27, s7, s28, s29, s2, hj, q1, q2, w2, hjl]
        refine ⟨by omega, k' - 1, by omega, IW.of (show AllJ d.zones i d.zones[i] acc _ _ _ from ⟨j + 1, _, by omega, fun c hc => ?_, by simpa using s14, by simpa using s15, by simpa using s16, by simpa using s4, by simpa using s27, by simpa using s7, by simpa using s28, by simp, ?_, rfl⟩)⟩
        · rcases List.mem_append.1 hc with hc | hc
          · exact hbx c hc
          · simp only [List.mem_singleton] at hc
            subst hc
            rfl
        · rw [hsn2]
          simp [q3]
      · have e2 : (scanF d.zones[i] i).take j = scanF d.zones[i] i := List.take_of_length_le (by omega)
        have e3 : j = (scanF d.zones[i] i).length := by omega
        rw [e2] at s2
        simp [F_log_All_L0, s14, s15, s16, s28, s29, s2, hj, w1]
        exact ⟨k - 1, by omega, IW.of (show AllI d.zones _ _ _ from ⟨i + 1, acc ++ scanF d.zones[i] i, bx, by omega, by rw [hall, List.append_assoc], hbx, by simpa using s14, by simpa using s15, by simp, by simpa using s2, by rw [e3]; simp⟩)⟩
    · rw [List.drop_eq_nil_of_le (by omega)] at hall
      simp only [allF, List.append_nil] at hall
      simp [F_log_All_L1, s14, s15, s16, s2, hi]
      have hacc : acc ≠ [] := by rw [← hall]; exact h0
      have hal : 1 ≤ acc.length := List.length_pos_iff.2 hacc
      rw [hall] at hn
      have eM := e bx.length acc (meltM ⟨bx, [(81, 5, acc.length)]⟩ 0 81 5 (acc.map cs)) (by simp [meltM, fC]) hal hn
      have eS : ∀ s : Nat → V, meltS 2 5 (acc.map cs) ⟨bx, [(81, 5, acc.length)]⟩ s 2 = .ref (.sli 0 5 acc.length) bx.length := fun s => by simp [meltS]
      have hun : ∀ t, unref1 0 ⟨(List.replicate bx.length deadC ++ [(acc.map cs).flatten]).set bx.length (fC (sortF acc)), t⟩ (.ref (.sli 0 5 acc.length) bx.length) = .lit 5 ((sortF acc).map cs) := fun t => by
        have h1 : ((List.replicate bx.length deadC ++ [(acc.map cs).flatten]).set bx.length (fC (sortF acc)))[bx.length]? = some (fC (sortF acc)) := List.getElem?_set_self (by simp)
        simp only [unref1, h1]
        have h2 := sortF_length acc
        rw [if_pos ⟨Nat.zero_le _, fC_obj _, by rw [fC_length, h2]; omega⟩, List.drop_zero]
        have h3 : ∀ l : List Fnd, (fC l).map V.top1 = fC l := by
          intro l
          induction l with
          | nil => rfl
          | cons z l ih =>
            rw [fC_cons, List.map_append, ih]
            rfl
        rw [h3, ← h2, chunk_fC]
      have hv : ∀ (k : Nat) (m : Mem) (x : Value), unref1 k m (.val x) = .val x := fun _ _ _ => rfl
      refine ⟨0, 81, 5, acc.map cs, ⟨by simpa using s2, by simp, by simpa using hacc, melt_fnd acc, hbx⟩, ?_⟩
      have hE := hall
      simp [meltM, srtM] at eM hun
      simp [eS, eM, srtM, meltM, unref, unrefA, hun, hv, hE, clean_cs]
end Go.Av

namespace Go.Av.Pl
end Go.Av.Pl
namespace Go.Av
open Enc (enc dec)
open Cel (cs dc)
open Go.Proofs Pl

@[simp] def sp_lAll (d : Dv) : Option (V × List Tip) := if dOk d = true ∧ (allF d.zones 0).length ≤ 20 then some (.tuple [enc (sortF (allF d.zones 0)), enc (0 : Int)], []) else none
theorem sp_lAll_ok : EOk Tryz.prog n_log_All (sp1 sp_lAll) := sp1_ok fun d r h => by
  simp only [sp_lAll] at h
  split at h <;> cases h
  rename_i hc
  exact c_lAll d hc.1 hc.2
@[simp] def sp_lRun (l : List Fnd) (n : Int) : Option (V × List Tip) := if l.length ≤ 2 ^ 30 ∧ -(2 ^ 63) ≤ n ∧ (n ≤ 2 ^ 62 ∨ l.all (fun f => decide (f.rcd.seq ≤ 2 ^ 62)) = true) then some (enc (runF l (l.length + 1) n), []) else none
theorem sp_lRun_ok : EOk Tryz.prog n_log_Run (sp2 sp_lRun) := sp2_ok fun l n r h => by
  simp only [sp_lRun] at h
  split at h <;> cases h
  rename_i hc
  exact c_lRun l n hc.1 ⟨hc.2.1, hc.2.2.imp id fun h f hf => by simpa using List.all_eq_true.1 h f hf⟩
end Go.Av
