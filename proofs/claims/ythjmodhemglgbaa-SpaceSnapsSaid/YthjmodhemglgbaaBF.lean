/-
  SnM: Contracts of package state, first part.
  SnS: Contracts of package state, second part: kept.
  PlD: States: no Go here.
  SnT: Contracts of package state, third part: Check, New.
  AvAl: Answers that are one of some; boxes of which less is said.
  DvVa: Contracts: copies of extents, and both as one.
  DvVb: Iterators that have boxes of their own; the parts of a map with an extent laid over.
  SnU: Contracts: state.New; likeness of states, of records.
  SnV: Contracts: likeness of records.
  SnW: Contracts of package snap: what is written.
  SnX: A state's bytes: their parts, plainly; snap.Write.
  DvVc: Contracts: parts of a map, an iterator; a map with an extent laid over, first part.
  AvMt: A row of one's own, from some place on a slice that is written; all else is forgotten there.
  AvTm: A new slice that a function answers, written to from then on: its elements may hold bytes.
  DvVe: Contracts: a map with some extents laid over, one behind the other.
  DvVf: Contracts: what changes do to a state: lay.
  DvVg: Contracts: what changes do to a state: write, zero, trim; stage, abort.
  DvVd: slices.Delete of one checkpoint: a walk of its text.
  DvVh: Contracts: what changes do to a state: drop.
  DvVi: Contracts: what changes do to a state: point.
  SnY: Contracts of package snap: Write.
  DvVj: Contracts: a state copied.
  DvVk: Contracts of package change: which changes may be.
-/
import Derived.Test.YthjmodhemglgbaaBE
import Derived.Test.YthjmodhemglgbaaRows
import Derived.WalkKit
import Derived.ProofKit
import Derived.OpenShut
import Derived.Lib.Hide
import Derived.Deep.LoopGhost
import Derived.Deep.RegionLaw
import Derived.Lib.Walk
import Derived.OwnWalk
import Derived.Lib.SliceRun
import Derived.Shelf.RegionOpenPlain
set_option linter.unusedSimpArgs false
set_option linter.unusedVariables false

namespace Go.Av
open Enc (enc dec)
open Cel (cs dc)
open Go.Proofs Pl

def newL (n : Int) : List Xt := if 1 ≤ n ∧ n ≤ 64 then [⟨0, n, 0, 0, []⟩] else []
def newE (n : Int) : Int := if 1 ≤ n ∧ n ≤ 64 then 0 else 81
theorem c_st_within (n a b : Int) : Pure Try.prog n_state_within [enc n, enc a, enc b] (enc (decide (a ≤ n ∧ n ≤ b))) [] := by
  refine Pure.ofC OOk.nil hm F_state_within_ok (by simp [F_state_within]) rfl ?_
  simp [F_state_within]
  by_cases h : a ≤ n
  · simp [h]
    try omega
  · simp [h]
    try omega

theorem c_upto1 (m : Mem) (p : Nat) (g : Int) (x : Xt) (hp : m.boxes[p]? = some [.val (.int .i64 g)]) : Loc Try.prog n_state_upto_1 [enc x, .ptr p 0] m (enc (decide (g < x.gen))) m := by
  refine Loc.ofC OOk.nil hm F_state_upto_1_ok (by simp [F_state_upto_1]) (.inl rfl) m.boxes.length m.tips.length (Nat.le_refl _) (Nat.le_refl _) fun hu => ?_
  have hpl : p < m.boxes.length := lt_of_some hp
  have f1 : ∀ (b : List (List V)), (m.boxes ++ b)[p]? = m.boxes[p]? := fun b => List.getElem?_append_left hpl
  clear hpl
  simp [F_state_upto_1, f1, hp, hu]
def sp_upto1 : List V → Mem → Option (V × Mem)
  | [a, .ptr p 0], m => (dec a : Option Xt).bind fun x => (boxI m p).map fun g => (enc (decide (g < x.gen)), m)
  | _, _ => none
theorem sp_upto1_ok : EOkL Try.prog n_state_upto_1 sp_upto1 := by
  intro args m v m' h
  unfold sp_upto1 at h
  split at h
  · simp only [Option.bind_eq_some_iff, Option.map_eq_some_iff] at h
    obtain ⟨x, hx, g, hg, h⟩ := h
    cases h
    exact (c_upto1 m _ g x (boxI_some hg)).wk (wk_dec (WkL.refl _) hx)
  · cases h
/-- The first one that is later. -/
def gtIdx (g : Int) (l : List Xt) : Int := match l.findIdx? (fun x => decide (g < x.gen)) with
  | some i => i
  | none => -1
def anyGt (g : Int) (l : List Xt) : Bool := l.any (fun x => decide (g < x.gen))
theorem gtIdx_nonneg (g : Int) (l : List Xt) : decide (0 ≤ gtIdx g l) = anyGt g l := by
  unfold gtIdx anyGt
  cases h : l.findIdx? (fun x => decide (g < x.gen)) with
  | none =>
    have h1 := List.findIdx?_eq_none_iff.1 h
    have : l.any (fun x => decide (g < x.gen)) = false := by
      rw [List.any_eq_false]
      intro x hx
      simpa using h1 x hx
    rw [this]; rfl
  | some i =>
    have h1 := List.findIdx?_eq_some_iff_getElem.1 h
    obtain ⟨hi, hp, _⟩ := h1
    have : l.any (fun x => decide (g < x.gen)) = true := List.any_eq_true.2 ⟨l[i], List.getElem_mem hi, hp⟩
    rw [this]
    simp
def D23 : Orc := Orc.nil.addL n_state_upto_1 sp_upto1
theorem D23_ok : OOk Try.prog D23 := OOk.nil.addL sp_upto1_ok
def IndexFI (m0 : Mem) (l : List Xt) (p : Nat) (g : Int) (k : Nat) (s : Nat → V) (m : Mem) : Prop :=
  ∃ (i : Nat), i + k = l.length ∧ (∀ j (hj : j < l.length), j < i → ¬ g < l[j].gen) ∧ s 0 = .lit 5 (l.map cs) ∧ s 1 = .func n_state_upto_1 [.ptr p 0] ∧ s 7 = .val (.int .i64 l.length) ∧ s 8 = .val (.int .i64 i) ∧ m = m0
theorem c_indexF (m : Mem) (p : Nat) (g : Int) (l : List Xt) (hl : l.length ≤ 2 ^ 40) (hp : m.boxes[p]? = some [.val (.int .i64 g)]) : Loc Try.prog n_slices_IndexFunc_Extent [enc l, .func n_state_upto_1 [.ptr p 0]] m (enc (gtIdx g l)) m := by
  refine Loc.ofC D23_ok hm F_slices_IndexFunc_Extent_ok (by simp [F_slices_IndexFunc_Extent]) (.inl rfl) m.boxes.length m.tips.length (Nat.le_refl _) (Nat.le_refl _) fun hu => ?_
  have hb := boxI_of hp
  simp [F_slices_IndexFunc_Extent]
  refine wp_loop (IndexFI m l p g) l.length (IW.of ⟨0, by omega, by simp, by simp, by simp, by simp, by simp, rfl⟩) fun k s m' ⟨i, hik, hno, h0, h1, h7, h8, hm'⟩ => ?_
  subst hm'
  by_cases hi : i < l.length
  · have hg : l[i]? = some l[i] := List.getElem?_eq_getElem hi
    have w1 := IntWalk.i64_in ((i : Int) + 1) (by omega)
    by_cases hx : g < l[i].gen
    · have e : gtIdx g l = i := by
        unfold gtIdx
        rw [List.findIdx?_eq_some_iff_getElem.2 ⟨hi, by simpa using hx, fun j hj => by simpa using hno j (by omega) hj⟩]
      simp [F_slices_IndexFunc_Extent_L0, D23, h0, h1, h7, h8, hi, hg, sp_upto1, hb, hx, hu, e]
    · simp [F_slices_IndexFunc_Extent_L0, D23, h0, h1, h7, h8, hi, hg, sp_upto1, hb, hx, w1]
      refine ⟨k - 1, by omega, IW.of (show IndexFI m' l p g _ _ _ from ⟨i + 1, by omega, fun j hj hji => ?_, by simpa using h0, by simpa using h1, by simpa using h7, by simp, rfl⟩)⟩
      by_cases hj' : j = i
      · subst hj'; exact hx
      · exact hno j hj (by omega)
  · have e : gtIdx g l = -1 := by
      unfold gtIdx
      rw [List.findIdx?_eq_none_iff.2]
      intro x hx
      obtain ⟨j, hj, rfl⟩ := List.getElem_of_mem hx
      simpa using hno j hj (by omega)
    simp [F_slices_IndexFunc_Extent_L0, D23, h0, h1, h7, h8, hi, hu, e]
def sp_indexF : List V → Mem → Option (V × Mem)
  | [a, .func 140 [.ptr p 0]], m => (dec a : Option (List Xt)).bind fun l => (boxI m p).bind fun g => if l.length ≤ 2 ^ 40 then some (enc (gtIdx g l), m) else none
  | _, _ => none
theorem sp_indexF_ok : EOkL Try.prog n_slices_IndexFunc_Extent sp_indexF := by
  intro args m v m' h
  unfold sp_indexF at h
  split at h
  · simp only [Option.bind_eq_some_iff] at h
    obtain ⟨x, hx, g, hg, h⟩ := h
    split at h <;> cases h
    exact (c_indexF m _ g x (by assumption) (boxI_some hg)).wk (wk_dec (WkL.refl _) hx)
  · cases h
def D24 : Orc := Orc.nil.addL n_slices_IndexFunc_Extent sp_indexF
theorem D24_ok : OOk Try.prog D24 := OOk.nil.addL sp_indexF_ok
theorem c_containsF (m : Mem) (p : Nat) (g : Int) (l : List Xt) (hl : l.length ≤ 2 ^ 40) (hp : m.boxes[p]? = some [.val (.int .i64 g)]) : Loc Try.prog n_slices_ContainsFunc_Extent [enc l, .func n_state_upto_1 [.ptr p 0]] m (enc (anyGt g l)) m := by
  refine Loc.ofC D24_ok hm F_slices_ContainsFunc_Extent_ok (by simp [F_slices_ContainsFunc_Extent]) (.inl rfl) m.boxes.length m.tips.length (Nat.le_refl _) (Nat.le_refl _) fun hu => ?_
  have hb := boxI_of hp
  have e := gtIdx_nonneg g l
  simp [F_slices_ContainsFunc_Extent, D24, sp_indexF, hb, decX_map, hl, hu, e]
def sp_containsF : List V → Mem → Option (V × Mem)
  | [a, .func 140 [.ptr p 0]], m => (dec a : Option (List Xt)).bind fun l => (boxI m p).bind fun g => if l.length ≤ 2 ^ 40 then some (enc (anyGt g l), m) else none
  | _, _ => none
theorem sp_containsF_ok : EOkL Try.prog n_slices_ContainsFunc_Extent sp_containsF := by
  intro args m v m' h
  unfold sp_containsF at h
  split at h
  · simp only [Option.bind_eq_some_iff] at h
    obtain ⟨x, hx, g, hg, h⟩ := h
    split at h <;> cases h
    exact (c_containsF m _ g x (by assumption) (boxI_some hg)).wk (wk_dec (WkL.refl _) hx)
  · cases h
def uptoOk (n : Int) (l : List Xt) (g : Int) : Bool := mapOk n l && !anyGt g l
@[simp] def sp_mapOk (n : Int) (l : List Xt) : Option (V × List Tip) := if l.length ≤ 2 ^ 40 then some (enc (mapOk n l), []) else none
theorem sp_mapOk_ok : EOk Try.prog n_extmap_Check (sp2 sp_mapOk) := sp2_ok fun n l r h => by
  simp only [sp_mapOk] at h
  split at h <;> cases h
  exact c_map_Check n l (by assumption)
def D25 : Orc := (Orc.nil.add n_extmap_Check (sp2 sp_mapOk)).addL n_slices_ContainsFunc_Extent sp_containsF
theorem D25_ok : OOk Try.prog D25 := (OOk.nil.add sp_mapOk_ok).addL sp_containsF_ok
theorem c_upto (n : Int) (l : List Xt) (g : Int) (hl : l.length ≤ 2 ^ 40) : Pure Try.prog n_state_upto [enc n, enc l, enc g] (enc (uptoOk n l g)) [] := by
  refine Pure.ofC D25_ok hm F_state_upto_ok (by simp [F_state_upto]) rfl ?_
  cases h : mapOk n l <;> simp [F_state_upto, D25, sp_containsF, hl, h, uptoOk, decX_map, boxI]
end Go.Av

namespace Go.Av
open Enc (enc dec)
open Cel (cs dc)
open Go.Proofs Pl

/-- Is what two extents share alike? -/
def keptOne (x y : Xt) : Bool := !cutOk y x.lba x.len ||
  (decide ((cutX x (cutX y x.lba x.len).lba (cutX y x.lba x.len).len).kind = (cutX y x.lba x.len).kind) && decide ((cutX x (cutX y x.lba x.len).lba (cutX y x.lba x.len).len).gen = (cutX y x.lba x.len).gen) && decide ((cutX x (cutX y x.lba x.len).lba (cutX y x.lba x.len).len).data = (cutX y x.lba x.len).data))
def keptX (was l : List Xt) (g : Int) : Bool := l.all fun x => decide (g < x.gen) || was.all (keptOne x)
@[simp] def sp_cut (x : Xt) (lba n : Int) : Option (V × List Tip) := some (.tuple [enc (cutX x lba n), enc (cutOk x lba n)], [])
theorem sp_cut_ok : EOk Try.prog n_extent_Cut (sp3 sp_cut) := sp3_ok fun x a b r h => by cases h; exact c_ext_Cut x a b
theorem sp_Equal_ok : EOk Try.prog n_bytes_Equal (sp2 sp_Equal) := sp2_ok fun a b r h => by cases h; exact c_bytes_Equal a b
def D26 : Orc := (Orc.nil.add n_extent_Cut (sp3 sp_cut)).add n_bytes_Equal (sp2 sp_Equal)
theorem D26_ok : OOk Try.prog D26 := (OOk.nil.add sp_cut_ok).add sp_Equal_ok
def KeptI (was l : List Xt) (g : Int) (k : Nat) (s : Nat → V) (m : Mem) : Prop :=
  ∃ (i : Nat), i + k = l.length ∧ (l.take i).all (fun x => decide (g < x.gen) || was.all (keptOne x)) = true ∧ s 0 = .lit 5 (was.map cs) ∧ s 2 = .val (.int .i64 g) ∧ s 15 = .lit 5 (l.map cs) ∧ s 16 = .val (.int .i64 l.length) ∧ s 17 = .val (.int .i64 i)
def KeptJ (was l : List Xt) (g : Int) (i : Nat) (x : Xt) (k : Nat) (s : Nat → V) (m : Mem) : Prop :=
  ∃ (j p : Nat), j + k = was.length ∧ (was.take j).all (keptOne x) = true ∧ s 0 = .lit 5 (was.map cs) ∧ s 2 = .val (.int .i64 g) ∧ s 15 = .lit 5 (l.map cs) ∧ s 16 = .val (.int .i64 l.length) ∧ s 17 = .val (.int .i64 i) ∧
    s 25 = .lit 5 (was.map cs) ∧ s 26 = .val (.int .i64 was.length) ∧ s 27 = .val (.int .i64 j) ∧ s 8 = .ptr p 0 ∧ m.boxes[p]? = some (cs x)
set_option maxRecDepth 4000 in
theorem c_kept (was l : List Xt) (g : Int) (hw : was.length ≤ 2 ^ 40) (hl : l.length ≤ 2 ^ 40) : Pure Try.prog n_state_kept [enc was, enc l, enc g] (enc (keptX was l g)) [] := by
  refine Pure.ofC D26_ok hm F_state_kept_ok (by simp [F_state_kept]) rfl ?_
  simp [F_state_kept]
  refine wp_loop (KeptI was l g) l.length (IW.of ⟨0, by omega, by simp, by simp, by simp, by simp, by simp, by simp⟩) fun k s m ⟨i, hik, hall, h0, h2, h15, h16, h17⟩ => ?_
  by_cases hi : i < l.length
  · have hg : l[i]? = some l[i] := List.getElem?_eq_getElem hi
    have ht1 : l.take (i + 1) = l.take i ++ [l[i]] := by rw [List.take_add_one, hg]; rfl
    have w1 := IntWalk.i64_in ((i : Int) + 1) (by omega)
    by_cases hx : g < l[i].gen
    · simp [F_state_kept_L1, D26, h0, h2, h15, h16, h17, hi, hg, hx, w1]
      refine ⟨k - 1, by omega, IW.of (show KeptI was l g _ _ _ from ⟨i + 1, by omega, ?_, by simpa using h0, by simpa using h2, by simpa using h15, by simpa using h16, by simp⟩)⟩
      rw [ht1, List.all_append, hall]
      simp [hx]
    · simp [F_state_kept_L1, D26, h0, h2, h15, h16, h17, hi, hg, hx]
      refine wp_loop (KeptJ was l g i l[i]) was.length (IW.of ⟨0, m.boxes.length, by omega, by simp, by simpa using h0, by simpa using h2, by simpa using h15, by simpa using h16, by simpa using h17, by simp, by simp, by simp, by simp, by simp⟩) fun k' s' m' ⟨j, p, hjk, hall', h0, h2, h15, h16, h17, h25, h26, h27, h8, hp⟩ => ?_
      by_cases hj : j < was.length
      · have hg' : was[j]? = some was[j] := List.getElem?_eq_getElem hj
        have ht2 : was.take (j + 1) = was.take j ++ [was[j]] := by rw [List.take_add_one, hg']; rfl
        have w2 := IntWalk.i64_in ((j : Int) + 1) (by omega)
        have hpl : p < m'.boxes.length := lt_of_some hp
        have f1 : ∀ (b : List (List V)), (m'.boxes ++ b)[p]? = m'.boxes[p]? := fun b => List.getElem?_append_left hpl
        simp only [cs_ext] at hp
        cases hc : cutOk was[j] l[i].lba l[i].len with
        | false =>
          simp [F_state_kept_L0, D26, h0, h2, h15, h16, h17, h25, h26, h27, h8, hj, hg', f1, hp, hc, w2]
          have e1 : keptOne l[i] was[j] = true := by simp [keptOne, hc]
          refine ⟨k' - 1, by omega, IW.of (show KeptJ was l g i l[i] _ _ _ from ⟨j + 1, p, by omega, ?_, by simpa using h0, by simpa using h2, by simpa using h15, by simpa using h16, by simpa using h17, by simpa using h25, by simpa using h26, by simp, by simpa using h8, by simp [f1, hp]⟩)⟩
          rw [ht2, List.all_append, hall']
          simp [e1]
        | true =>
          cases e1 : keptOne l[i] was[j] with
          | true =>
            have e2 := e1
            simp only [keptOne, hc, Bool.not_true, Bool.false_or, Bool.and_eq_true, decide_eq_true_eq] at e2
            obtain ⟨⟨q1, q2⟩, q3⟩ := e2
            simp [F_state_kept_L0, D26, h0, h2, h15, h16, h17, h25, h26, h27, h8, hj, hg', f1, hp, hc, w2, q1, q2, q3]
            refine ⟨k' - 1, by omega, IW.of (show KeptJ was l g i l[i] _ _ _ from ⟨j + 1, p, by omega, ?_, by simpa using h0, by simpa using h2, by simpa using h15, by simpa using h16, by simpa using h17, by simpa using h25, by simpa using h26, by simp, by simpa using h8, by simp [f1, hp]⟩)⟩
            rw [ht2, List.all_append, hall']
            simp [e1]
          | false =>
            have e2 := e1
            simp only [keptOne, hc, Bool.not_true, Bool.false_or, Bool.and_eq_false_iff, decide_eq_false_iff_not] at e2
            have e3 : keptX was l g = false := by
              rw [keptX, List.all_eq_false]
              refine ⟨l[i], List.getElem_mem hi, ?_⟩
              have : was.all (keptOne l[i]) = false := List.all_eq_false.2 ⟨was[j], List.getElem_mem hj, by simp [e1]⟩
              simp [hx, this]
            simp [F_state_kept_L0, D26, h0, h2, h15, h16, h17, h25, h26, h27, h8, hj, hg', f1, hp, hc, e3]
            intro a b c
            rcases e2 with (e2 | e2) | e2
            · exact absurd a e2
            · exact absurd b e2
            · exact absurd c e2
      · have hjl : j = was.length := by omega
        rw [hjl, List.take_length] at hall'
        simp [F_state_kept_L0, D26, h0, h2, h15, h16, h17, h25, h26, h27, hj, w1]
        refine ⟨k - 1, by omega, IW.of (show KeptI was l g _ _ _ from ⟨i + 1, by omega, ?_, by simpa using h0, by simpa using h2, by simpa using h15, by simpa using h16, by simp⟩)⟩
        rw [ht1, List.all_append, hall]
        simp [hall']
  · have hil : i = l.length := by omega
    rw [hil, List.take_length] at hall
    have e : keptX was l g = true := hall
    simp [F_state_kept_L1, D26, h0, h2, h15, h16, h17, hi, e]
end Go.Av

namespace Go.Av.Pl
structure Pt where
  id : Int
  gen : Int
  map : List Xt
deriving DecidableEq
structure Sta where
  blocks : Int
  gen : Int
  map : List Xt
  pts : List Pt
  last : Int
  staged : List UInt8
deriving DecidableEq
def Pt.zero : Pt := ⟨0, 0, []⟩
def Sta.zero : Sta := ⟨0, 0, [], [], 0, []⟩
def lastPt (w : Pt) : List Pt → Pt
  | [] => w
  | p :: l => lastPt p l
end Go.Av.Pl

namespace Go.Av
open Enc (enc dec)
open Cel (cs dc)
open Go.Proofs Pl

instance : Cel Pt where
  sz := 3
  cs x := [enc x.id, enc x.gen, enc x.map]
  dc l := match l with
    | [a, b, c] => (dec a).bind fun a => (dec b).bind fun b => (dec c).bind fun c => some ⟨a, b, c⟩
    | _ => none
  len _ := rfl
  ok l x h := by
    split at h
    · simp only [Option.bind_eq_some_iff] at h
      obtain ⟨a, ha, b, hb, c, hc, h⟩ := h
      cases h
      exact wk_dec (wk_dec (wk_dec wk_nil hc) hb) ha
    · cases h
  cl x := by simp [clean_cs]
  de x := by simp [decX_map]
instance : Enc Pt := encC
@[simp] theorem sz_pt : Cel.sz Pt = 3 := rfl
@[simp] theorem cs_pt (x : Pt) : cs x = [.val (.int .i64 x.id), .val (.int .i64 x.gen), .lit 5 (x.map.map cs)] := rfl
@[simp] theorem enc_pt (x : Pt) : (enc x : V) = .agg [.val (.int .i64 x.id), .val (.int .i64 x.gen), .lit 5 (x.map.map cs)] := rfl
@[simp] theorem dc_pt (a b c : V) : (dc [a, b, c] : Option Pt) = (dec a).bind fun a => (dec b).bind fun b => (dec c).bind fun c => some ⟨a, b, c⟩ := rfl
@[simp] theorem dec_pt (l : List V) : (dec (.agg l) : Option Pt) = dc l := rfl
instance : Cel Sta where
  sz := 6
  cs x := [enc x.blocks, enc x.gen, enc x.map, enc x.pts, enc x.last, enc x.staged]
  dc l := match l with
    | [a, b, c, d, e, f] => (dec a).bind fun a => (dec b).bind fun b => (dec c).bind fun c => (dec d).bind fun d => (dec e).bind fun e => (dec f).bind fun f => some ⟨a, b, c, d, e, f⟩
    | _ => none
  len _ := rfl
  ok l x h := by
    split at h
    · simp only [Option.bind_eq_some_iff] at h
      obtain ⟨a, ha, b, hb, c, hc, d, hd, e, he, f, hf, h⟩ := h
      cases h
      exact wk_dec (wk_dec (wk_dec (wk_dec (wk_dec (wk_dec wk_nil hf) he) hd) hc) hb) ha
    · cases h
  cl x := by simp [clean_cs]
  de x := by simp [decX_map]
instance : Enc Sta := encC
@[simp] theorem sz_sta : Cel.sz Sta = 6 := rfl
@[simp] theorem cs_sta (x : Sta) : cs x = [.val (.int .i64 x.blocks), .val (.int .i64 x.gen), .lit 5 (x.map.map cs), .lit 3 (x.pts.map cs), .val (.int .i64 x.last), .lit 1 (x.staged.map cs)] := rfl
@[simp] theorem enc_sta (x : Sta) : (enc x : V) = .agg [.val (.int .i64 x.blocks), .val (.int .i64 x.gen), .lit 5 (x.map.map cs), .lit 3 (x.pts.map cs), .val (.int .i64 x.last), .lit 1 (x.staged.map cs)] := rfl
@[simp] theorem dc_sta (a b c d e f : V) : (dc [a, b, c, d, e, f] : Option Sta) = (dec a).bind fun a => (dec b).bind fun b => (dec c).bind fun c => (dec d).bind fun d => (dec e).bind fun e => (dec f).bind fun f => some ⟨a, b, c, d, e, f⟩ := rfl
@[simp] theorem dec_sta (l : List V) : (dec (.agg l) : Option Sta) = dc l := rfl

def ptOk (s : Sta) (w p : Pt) : Bool := uptoOk s.blocks p.map p.gen && decide (w.id < p.id) && decide (p.id ≤ s.last) && decide (w.gen < p.gen) && decide (p.gen < s.gen) && keptX w.map p.map w.gen
def ptsOk (s : Sta) (w : Pt) : List Pt → Bool
  | [] => true
  | p :: l => ptOk s w p && ptsOk s p l
def staMay (s : Sta) : Bool := uptoOk s.blocks s.map s.gen && decide (1 ≤ s.gen ∧ s.gen ≤ 2147483647) && decide (s.pts.length ≤ 4) && decide (0 ≤ s.last ∧ s.last ≤ 2147483647) && decide (s.staged.length ≤ 4000)
def staOk (s : Sta) : Bool := (staMay s && ptsOk s Pt.zero s.pts) && keptX (lastPt Pt.zero s.pts).map s.map (lastPt Pt.zero s.pts).gen
def staE (s : Sta) : Int := if staOk s = true then 0 else 110
/-- Lists of a length that may be. -/
def staLen (s : Sta) : Prop := s.map.length ≤ 2 ^ 30 ∧ s.pts.length ≤ 2 ^ 30 ∧ (∀ p ∈ s.pts, p.map.length ≤ 2 ^ 30) ∧ s.staged.length ≤ 2 ^ 30
@[simp] def sp_upto (n : Int) (l : List Xt) (g : Int) : Option (V × List Tip) := if l.length ≤ 2 ^ 40 then some (enc (uptoOk n l g), []) else none
@[simp] def sp_kept (a b : List Xt) (g : Int) : Option (V × List Tip) := if a.length ≤ 2 ^ 40 ∧ b.length ≤ 2 ^ 40 then some (enc (keptX a b g), []) else none
def D27 : Orc := ((Orc.nil.add n_state_upto (sp3 sp_upto)).add n_state_kept (sp3 sp_kept)).add n_state_within (sp3 sp_within)
theorem D27_ok : OOk Try.prog D27 := by
  refine ((OOk.nil.add (sp3_ok fun n l g r h => ?_)).add (sp3_ok fun a b g r h => ?_)).add (sp3_ok fun a b c r h => by cases h; exact c_st_within a b c)
  · simp only [sp_upto] at h
    split at h <;> cases h
    exact c_upto n l g (by assumption)
  · simp only [sp_kept] at h
    split at h <;> cases h
    rename_i h
    exact c_kept a b g h.1 h.2
def StaI (q : Sta) (k : Nat) (s : Nat → V) (m : Mem) : Prop :=
  ∃ (i : Nat) (w : Pt) (may : Bool) (bx : List (List V)) (tips : List Tip), i + k = q.pts.length ∧ s 1 = .ptr 0 0 ∧ s 4 = .ptr 1 0 ∧ s 3 = .val (.bool may) ∧ s 37 = .lit 3 (q.pts.map cs) ∧ s 38 = .val (.int .i64 q.pts.length) ∧ s 39 = .val (.int .i64 i) ∧
    (staMay q && ptsOk q Pt.zero q.pts) = (may && ptsOk q w (q.pts.drop i)) ∧ lastPt Pt.zero q.pts = lastPt w (q.pts.drop i) ∧ w.map.length ≤ 2 ^ 30 ∧ m = ⟨cs q :: cs w :: bx, tips⟩
set_option maxRecDepth 4000 in
theorem c_st_Check (q : Sta) (hq : staLen q) : Pure Try.prog n_state_Check [enc q] (enc (staE q)) [] := by
  obtain ⟨hq1, hq2, hq3, hq4⟩ := hq
  refine Pure.ofC D27_ok hm F_state_Check_ok (by simp [F_state_Check]) rfl ?_
  have b1 : q.map.length ≤ 1099511627776 := by omega
  refine wp_seqC (fun s m => s 1 = .ptr 0 0 ∧ m = ⟨[cs q], []⟩) (by simp) fun s m ⟨h1, hm⟩ => ?_
  subst hm
  refine wp_seqC (fun s m => s 1 = .ptr 0 0 ∧ s 3 = .val (.bool (staMay q)) ∧ m = ⟨[cs q], []⟩) ?_ fun s m ⟨h1, h3, hm⟩ => ?_
  · simp [D27, h1, b1]
    have e4 : ((q.pts.length : Int) ≤ 4) ↔ q.pts.length ≤ 4 := by omega
    have e5 : ((q.staged.length : Int) ≤ 4000) ↔ q.staged.length ≤ 4000 := by omega
    simp only [e4, e5]
    by_cases c1 : uptoOk q.blocks q.map q.gen = true <;> by_cases c2 : 1 ≤ q.gen <;> by_cases c3 : q.gen ≤ 2147483647 <;> by_cases c4 : q.pts.length ≤ 4 <;> by_cases c5 : 0 ≤ q.last <;> by_cases c6 : q.last ≤ 2147483647 <;> simp [staMay, c1, c2, c3, c4, c5, c6] <;> try omega
  subst hm
  simp [D27, h1, h3]
  refine wp_loop (StaI q) q.pts.length (IW.of ⟨0, Pt.zero, staMay q, [], [], by omega, by simpa using h1, by simp, by simpa using h3, by simp, by simp, by simp, by simp, by simp, by simp [Pt.zero], by simp [Pt.zero]⟩) fun k s m ⟨i, w, may, bx, tips, hik, h1, h4, h3, h37, h38, h39, hmay, hlast, hw, hm⟩ => ?_
  subst hm
  by_cases hi : i < q.pts.length
  · have hg : q.pts[i]? = some q.pts[i] := List.getElem?_eq_getElem hi
    have w1 := IntWalk.i64_in ((i : Int) + 1) (by omega)
    have hpl := hq3 q.pts[i] (List.getElem_mem hi)
    rw [List.drop_eq_getElem_cons hi, ptsOk] at hmay
    rw [List.drop_eq_getElem_cons hi, lastPt] at hlast
    obtain ⟨p, hpe⟩ : ∃ p, p = q.pts[i] := ⟨_, rfl⟩
    rw [← hpe] at hmay hlast hpl
    have b2 : w.map.length ≤ 1099511627776 := by omega
    have b3 : p.map.length ≤ 1099511627776 := by omega
    have leaf : ∀ (may' : Bool) (s' : Nat → V) (m' : Mem) (bx' : List (List V)) (tips' : List Tip), s' 1 = .ptr 0 0 ∧ s' 4 = .ptr 1 0 ∧ s' 3 = .val (.bool may') ∧ s' 37 = .lit 3 (q.pts.map cs) ∧ s' 38 = .val (.int .i64 q.pts.length) ∧ s' 39 = .val (.int .i64 ((i : Int) + 1)) ∧ m' = ⟨cs q :: cs p :: bx', tips'⟩ → may' = (may && ptOk q w p) → ∃ j, j < k ∧ IW (StaI q j) s' m' := by
      intro may' s' m' bx' tips' ⟨k1, k2, k3, k4, k5, k6, k7⟩ hm'
      refine ⟨k - 1, by omega, IW.of (show StaI q _ _ _ from ⟨i + 1, p, may', bx', tips', by omega, k1, k2, k3, k4, k5, by simpa using k6, ?_, hlast, by omega, k7⟩)⟩
      rw [hmay, hm', Bool.and_assoc]
    simp [F_state_Check_L0, D27, h1, h4, h3, h37, h38, h39, hi, hg, ← hpe, w1, b2, b3]
    repeat' first
      | apply And.intro
      | intro _
    all_goals
      refine leaf _ _ _ _ _ ⟨by simpa using h1, by simpa using h4, by simp; rfl, by simpa using h37, by simpa using h38, by simp, rfl⟩ ?_
      simp_all [ptOk] <;> try (intros; omega)
  · have hil : i = q.pts.length := by omega
    rw [hil, List.drop_length] at hmay hlast
    simp [ptsOk] at hmay
    have e : staOk q = (may && keptX w.map q.map w.gen) := by rw [staOk, hmay, hlast]; rfl
    have b2 : w.map.length ≤ 1099511627776 := by omega
    cases may <;> cases hkx : keptX w.map q.map w.gen <;> simp [F_state_Check, hkx, F_state_Check_L0, D27, h1, h4, h3, h37, h38, h39, hi, b1, b2, staE, e]
end Go.Av

namespace Go.Av
open Enc (enc dec)
open Cel (cs dc)
open Go.RowKit

section
variable {B : Nat} {I0 : Nat → Nat → Prop} {w0 w : World} {M : Mp} {m : Mem}
/-- Of a box less is said. -/
theorem Good.boxWk (h2 : Good B I0 w0 M m w) {b : Nat} {cs cs' : List V} (hb : m.boxes[b]? = some cs) (hno : isObj cs = false) (hle : cs'.length = cs.length) (hrep : ∀ us, RepL M w cs us → RepL M w cs' us) :
    Good B I0 w0 M { m with boxes := m.boxes.set b cs' } w := by
  have hblt := lt_of_some hb
  exact {
    below := h2.below
    sizeB := h2.sizeB
    i0 := h2.i0
    i1 := h2.i1
    ilt := h2.ilt
    lβ := by have := h2.lβ; simpa using this
    nd := fun a b' q ha hb' => h2.ndSet (fun e => by rw [hb] at e; cases e; cases hno) _ ha hb'
    iβ := fun b1 o1 hI j hb1 => by
      have h5 := h2.iβ b1 o1 hI j hb1
      have h5' : m.boxes[j]? = some deadC := h5
      by_cases hij : b = j
      · subst hij
        rw [hb] at h5'
        cases h5'
        cases hno
      · exact (List.getElem?_set_ne hij).trans h5'
    box := fun i g ds k1 k2 => by
      by_cases hij : b = i
      · subst hij
        simp only [List.getElem?_set_self hblt] at k2
        obtain rfl := Option.some.inj k2
        obtain ⟨hB, ob, hh, hr⟩ := h2.box b g cs k1 hb
        have hκ := hr.κ hno
        obtain ⟨vs, T, rfl, hle2, hl, ho⟩ := hr.cells hno
        exact ⟨hB, _, hh, .inl ⟨hκ, vs, T, rfl, by rw [hle]; exact hle2, by rw [hle]; exact hrep _ hl, by rw [hle]; exact ho⟩⟩
      · simp only [List.getElem?_set_ne hij] at k2
        exact h2.box i g ds k1 k2
    κlt := h2.κlt
    ζb := fun i g ds k1 k2 k3 => by
      by_cases hij : b = i
      · subst hij; exact h2.ζb b g cs k1 hb hno
      · simp only [List.getElem?_set_ne hij] at k2; exact h2.ζb i g ds k1 k2 k3
    lγ := h2.lγ
    row := h2.row
    gen := h2.gen
    sep := h2.sep }
end
/-- In a state as well. -/
theorem Wkn.box {s : Nat → V} {m : Mem} {b : Nat} {cs cs' : List V} (hb : m.boxes[b]? = some cs) (hno : isObj cs = false) (hle : cs'.length = cs.length) (hrep : ∀ (M : Mp) (w : World) us, RepL M w cs us → RepL M w cs' us) :
    Wkn s m s { m with boxes := m.boxes.set b cs' } := by
  intro B I0 w0 M0 wst n a w ⟨M, h1, h2, h3, h4⟩
  exact ⟨M, h1, h2.boxWk hb hno hle (hrep M w), h3, h4⟩
theorem Loc.post {P : Program} {f : FuncId} {args : List V} {m m' : Mem} {r : V} (h : Loc P f args m r m') {b : Nat} {cs cs' : List V} (hb : m'.boxes[b]? = some cs) (hno : isObj cs = false) (hle : cs'.length = cs.length) (hrep : ∀ (M : Mp) (w : World) us, RepL M w cs us → RepL M w cs' us) :
    Loc P f args m r { m' with boxes := m'.boxes.set b cs' } :=
  ⟨h.1, fun B I0 w0 M w vals hg hr => (h.2 B I0 w0 M w vals hg hr).mono fun e w' ⟨x, M', he, hE, hg', hx⟩ => ⟨x, M', he, hE, hg'.boxWk hb hno hle (hrep M' w'), hx⟩⟩
section
variable {P : Program} {D : Orc} {own : Nat → Bool} {f : FuncId} {F : F} {args : List V}
/-- And with other words for the state behind some regions. -/
theorem Pure.ofB (hD : OOk P D) {al : FuncId → Bool} {wk : List O → Bool} (hm : P.follows .mixedOrders = true) (hF : compF P own f = some F) (hn : args.length ≤ F.n) {r : V} (hres : r.res = true)
    (h : wpB al wk P noY D F.c (argS args) ⟨[], []⟩ (Fin F.rs fun v _ => keepN [] v r)) : Pure P f args r [] :=
  Pure.ofN hm hF hn hres (vwp_mono _ _ _ (fun e s m hq => by
    cases e with
    | normal => obtain ⟨v, h1, h2⟩ := hq; exact ⟨v, h1, OutP.clean h2⟩
    | ret => obtain ⟨v, h1, h2⟩ := hq; exact ⟨v, h1, OutP.clean h2⟩
    | _ => exact hq) (wpB_sound hD _ h))
/-- A function that leaves boxes: the first k of them are kept, and the first j rows. -/
theorem Loc.ofB (hD : OOk P D) {al : FuncId → Bool} {wk : List O → Bool} (hm : P.follows .mixedOrders = true) (hF : compF P own f = some F) {m m' : Mem} {r : V} (hn : args.length ≤ F.n) (k j : Nat) (hk : m.boxes.length ≤ k) (hj : m.tips.length ≤ j)
    (h : underX m.boxes.length m.tips.length m.boxes = true → wpB al wk P noY D F.c (argS args) m (Fin F.rs fun v m1 => (v = r ∨ v.top = r) ∧ r.under k j = true ∧ underX k j (m1.boxes.take k) = true ∧ m' = ⟨m1.boxes.take k, m1.tips.take j⟩)) : Loc P f args m r m' := by
  have hcl : callable P f = true := by
    unfold compF at hF
    split at hF
    · assumption
    · cases hF
  refine ⟨hcl, fun B I0 w0 M w vals hg hr => ?_⟩
  refine (calls_sound hm hF hn hg hr YOk.no (wpB_sound hD _ (h hg.under))).2.mono fun e w' ⟨x, M', v, m1, he, hE, hg', hx, hv, hu, hb, hm'⟩ => ?_
  refine ⟨x, M'.cut k j, he, Mp.cut_ext M' k j hE (by rw [hg.lβ]; exact hk) (by rw [hg.lγ]; exact hj), by rw [hm']; exact hg'.cut hb, Rep.cut r x hu ?_⟩
  rcases hv with rfl | rfl
  · exact hx
  · exact hx.top
end
end Go.Av

namespace Go.Av.Pl
/-- Two extents as one. -/
def joinX (a b : Xt) : Xt := if joins a b = true then ⟨a.lba, a.len + b.len, a.kind, a.gen, a.data ++ b.data⟩ else Xt.zero
def joinE (a b : Xt) : Int := if joins a b = true then 0 else 70
end Go.Av.Pl
namespace Go.Av
open Enc (enc dec)
open Cel (cs dc)
open Go.Proofs Pl

def xtS (l : List Xt) : Prop := l.length ≤ 2 ^ 40 ∧ ∀ x ∈ l, x.data.length ≤ 2 ^ 40
instance (l : List Xt) : Decidable (xtS l) := by unfold xtS; infer_instance
def DvaO : Orc := Orc.nil.add n_bytes_Clone (sp1 sp_clone)
theorem DvaO_ok : OOk Try.prog DvaO := OOk.nil.add sp_clone_ok
def ExtI (l : List Xt) (k : Nat) (s : Nat → V) (m : Mem) : Prop :=
  ∃ (i t : Nat) (bx : List (List V)) (tips : List Tip), i + k = l.length ∧ s 2 = .row t 5 ((l.take i).map cs) ∧ s 5 = .lit 5 (l.map cs) ∧ s 6 = .val (.int .i64 l.length) ∧ s 7 = .val (.int .i64 i) ∧ m = ⟨bx, tips⟩ ∧ tips[t]? = some (174, 5, i)
theorem c_extents (l : List Xt) (hl : xtS l) : Pure Try.prog n_state_extents [enc l] (.row 0 5 (l.map cs)) [(174, 5, l.length)] := by
  refine Pure.ofR DvaO_ok hm F_state_extents_ok (by simp [F_state_extents]) (by simp [V.res, V.res1]) ?_
  obtain ⟨hl1, hl2⟩ := hl
  simp only [Nat.reducePow] at hl1 hl2
  simp [F_state_extents]
  refine wp_loop (ExtI l) l.length (IW.of ⟨0, 0, _, _, by omega, by simp, by simp, by simp, by simp, rfl, by simp⟩) fun k s m ⟨i, t, bx, tips, hik, s2, s5, s6, s7, hm, ht⟩ => ?_
  subst hm
  by_cases hi : i < l.length
  · have w1 := IntWalk.i64_in ((i : Int) + 1) (by omega)
    have hg : l[i]? = some l[i] := List.getElem?_eq_getElem hi
    have hx := hl2 _ (List.getElem_mem hi)
    have hx' : l[i].data.length ≤ 140737488355328 := by omega
    have htl := lt_of_some ht
    have e1 : l.take (i + 1) = l.take i ++ [l[i]] := by rw [List.take_add_one, hg]; rfl
    simp [F_state_extents_L0, DvaO, s2, s5, s6, s7, hi, hg, hx', w1, ht, List.getElem?_append_left htl, decX_map]
    refine ⟨⟨by omega, by omega⟩, k - 1, by omega, IW.rowSlot (d := 2) (t := t) (xs := (l.map cs).take i ++ [[.val (.int .i64 l[i].lba), .val (.int .i64 l[i].len), .val (.int .i64 l[i].kind), .val (.int .i64 l[i].gen), .row tips.length 1 (l[i].data.map cs)]]) (l.take (i + 1)) (by simp) (by rw [← List.map_take]; simp [decX_append, decX_map, -List.map_take]; exact e1.symm) rfl ⟨i + 1, t, _, _, by omega, by simp, by simpa using s5, by simpa using s6, by simp, rfl, ?_⟩⟩
    have e2 : min i l.length + 1 = i + 1 := by omega
    rw [List.getElem?_set_self (by simp; omega), e2]
  · have e : l.take i = l := List.take_of_length_le (by omega)
    rw [e] at s2
    have hi2 : i = l.length := by omega
    subst hi2
    simp [F_state_extents_L0, s2, s5, s6, s7, ht]
@[simp] def sp_extents (l : List Xt) : Option (V × List Tip) := if xtS l then some (.row 0 5 (l.map cs), [(174, 5, l.length)]) else none
theorem sp_extents_ok : EOk Try.prog n_state_extents (sp1 sp_extents) := sp1_ok fun l r h => by
  simp only [sp_extents] at h
  split at h <;> cases h
  exact c_extents l (by assumption)
theorem c_xown (l : List Xt) (hl : xtS l) : Pure Try.prog n_extmap_own [enc l] (.row 0 5 (l.map cs)) [(174, 5, l.length)] := by
  refine Pure.ofR OOk.nil hm F_extmap_own_ok (by simp [F_extmap_own]) (by simp [V.res, V.res1]) ?_
  obtain ⟨hl1, hl2⟩ := hl
  simp only [Nat.reducePow] at hl1 hl2
  simp [F_extmap_own]
  refine wp_loop (ExtI l) l.length (IW.of ⟨0, 0, _, _, by omega, by simp, by simp, by simp, by simp, rfl, by simp⟩) fun k s m ⟨i, t, bx, tips, hik, s2, s5, s6, s7, hm, ht⟩ => ?_
  subst hm
  by_cases hi : i < l.length
  · have w1 := IntWalk.i64_in ((i : Int) + 1) (by omega)
    have hg : l[i]? = some l[i] := List.getElem?_eq_getElem hi
    have hx := hl2 _ (List.getElem_mem hi)
    have hx' : l[i].data.length ≤ 140737488355328 := by omega
    have htl := lt_of_some ht
    have e1 : l.take (i + 1) = l.take i ++ [l[i]] := by rw [List.take_add_one, hg]; rfl
    simp [F_extmap_own_L0, s2, s5, s6, s7, hi, hg, hx', w1, ht, List.getElem?_append_left htl, decX_map]
    have e2 : min i l.length + 1 = i + 1 := by omega
    constructor
    · intro hd
      refine ⟨⟨by omega, by omega⟩, k - 1, by omega, IW.rowSlot (d := 2) (t := t) (xs := (l.map cs).take i ++ [[.val (.int .i64 l[i].lba), .val (.int .i64 l[i].len), .val (.int .i64 l[i].kind), .val (.int .i64 l[i].gen), .val (.slice none 0 0)]]) (l.take (i + 1)) (by simp) (by rw [← List.map_take]; simp [decX_append, decX_map, -List.map_take]; rw [e1, ← hd]) rfl ⟨i + 1, t, _, _, by omega, by simp, by simpa using s5, by simpa using s6, by simp, rfl, ?_⟩⟩
      rw [List.getElem?_set_self (by simp; omega), e2]
    · intro hd
      refine ⟨⟨by omega, by omega⟩, k - 1, by omega, IW.of ⟨i + 1, t, _, _, by omega, by rw [e1, List.map_append]; simp, by simpa using s5, by simpa using s6, by simp, rfl, ?_⟩⟩
      rw [List.getElem?_set_self (by simp; omega), e2]
  · have e : l.take i = l := List.take_of_length_le (by omega)
    rw [e] at s2
    have hi2 : i = l.length := by omega
    subst hi2
    simp [F_extmap_own_L0, s2, s5, s6, s7, ht]
@[simp] def sp_own (l : List Xt) : Option (V × List Tip) := if xtS l then some (.row 0 5 (l.map cs), [(174, 5, l.length)]) else none
theorem sp_own_ok : EOk Try.prog n_extmap_own (sp1 sp_own) := sp1_ok fun l r h => by
  simp only [sp_own] at h
  split at h <;> cases h
  exact c_xown l (by assumption)
def DvjO : Orc := (Orc.nil.add n_bytes_Clone (sp1 sp_clone)).add n_extent_Joins (sp2 sp_joins)
theorem DvjO_ok : OOk Try.prog DvjO := (OOk.nil.add sp_clone_ok).add sp_joins_ok
theorem c_ext_Join (a b : Xt) : Pure Try.prog n_extent_Join [enc a, enc b] (.tuple [enc (joinX a b), enc (joinE a b)]) [] := by
  refine Pure.ofC DvjO_ok hm F_extent_Join_ok (by simp [F_extent_Join]) (by simp [V.res, V.res1]) ?_
  cases hj : joins a b with
  | false => simp [F_extent_Join, DvjO, hj, joinX, joinE, Xt.zero]
  | true =>
    have h := hj
    simp only [joins, Bool.and_eq_true, decide_eq_true_eq] at h
    have h1 := ext_len h.1.1
    have h2 := ext_len h.1.2
    have h3 := extOk_iff.1 h.1.1
    have h4 := extOk_iff.1 h.1.2
    have w1 := IntWalk.i64_in (a.len + b.len) (by omega)
    simp [F_extent_Join, DvjO, hj, joinX, joinE, w1]
    omega
@[simp] def sp_join (a b : Xt) : Option (V × List Tip) := some (.tuple [enc (joinX a b), enc (joinE a b)], [])
theorem sp_join_ok : EOk Try.prog n_extent_Join (sp2 sp_join) := sp2_ok fun a b r h => by cases h; exact c_ext_Join a b
end Go.Av

namespace Go.Av.Pl
/-- The parts of a map, with an extent laid over; not joined. -/
def partsX (x : Xt) : Bool → List Xt → List Xt
  | _, [] => []
  | laid, y :: l => (if cutOk y 0 x.lba = true then [cutX y 0 x.lba] else []) ++ ((if laid = false ∧ x.lba < y.lba + y.len then [x] else []) ++
      ((if cutOk y (x.lba + x.len) 64 = true then [cutX y (x.lba + x.len) 64] else []) ++ partsX x (laid || decide (x.lba < y.lba + y.len)) l))
end Go.Av.Pl
namespace Go.Av
open Enc (enc dec)
open Cel (cs dc)
open Go.Proofs Pl

/-- What an iterator does: boxes of its own, and calls of 'yield'. -/
inductive YTr {α : Type} (Y : YRel) (L : Nat) (arg : α → List V) : List Nat → List (List V ⊕ α) → Mem → Mem → Prop
  | done {Q : List Nat} {m : Mem} : YTr Y L arg Q [] m m
  | add {Q : List Nat} {c : List V} {r : List (List V ⊕ α)} {m m2 : Mem} (h : YTr Y L arg (m.boxes.length :: Q) r { m with boxes := m.boxes ++ [c] } m2) : YTr Y L arg Q (.inl c :: r) m m2
  | next {Q : List Nat} {a : α} {r : List (List V ⊕ α)} {m m1 m2 : Mem} (h : Y L (arg a) m (.val (.bool true)) m1) (hk : ∀ q ∈ Q, m1.boxes[q]? = m.boxes[q]?) (h2 : YTr Y L arg Q r m1 m2) : YTr Y L arg Q (.inr a :: r) m m2
def yieldsT {α : Type} : List (List V ⊕ α) → List α
  | [] => []
  | .inl _ :: r => yieldsT r
  | .inr a :: r => a :: yieldsT r
theorem yieldsT_append {α : Type} : ∀ a b : List (List V ⊕ α), yieldsT (a ++ b) = yieldsT a ++ yieldsT b
  | [], _ => rfl
  | .inl _ :: r, b => by simp [yieldsT, yieldsT_append r b]
  | .inr a :: r, b => by simp [yieldsT, yieldsT_append r b]
theorem YTr.build {α : Type} {Y : YRel} {L : Nat} {arg : α → List V} {J : List Nat → List α → Mem → Prop} (all : List α) (hadd : ∀ Q acc m c, J Q acc m → J (m.boxes.length :: Q) acc { m with boxes := m.boxes ++ [c] })
    (hy : ∀ Q acc a r m, all = acc ++ a :: r → J Q acc m → ∃ m1, Y L (arg a) m (.val (.bool true)) m1 ∧ (∀ q ∈ Q, m1.boxes[q]? = m.boxes[q]?) ∧ J Q (acc ++ [a]) m1) :
    ∀ (tr : List (List V ⊕ α)) (Q : List Nat) (acc : List α) (m : Mem), all = acc ++ yieldsT tr → J Q acc m → ∃ m2 Q2, YTr Y L arg Q tr m m2 ∧ J Q2 all m2
  | [], Q, acc, m, h, hj => by
    simp only [yieldsT, List.append_nil] at h
    subst h
    exact ⟨m, Q, .done, hj⟩
  | .inl c :: r, Q, acc, m, h, hj => by
    obtain ⟨m2, Q2, h1, h2⟩ := YTr.build all hadd hy r _ acc _ h (hadd Q acc m c hj)
    exact ⟨m2, Q2, .add h1, h2⟩
  | .inr a :: r, Q, acc, m, h, hj => by
    obtain ⟨m1, h1, h2, h3⟩ := hy Q acc a (yieldsT r) m h hj
    obtain ⟨m2, Q2, h4, h5⟩ := YTr.build all hadd hy r Q (acc ++ [a]) m1 (by rw [h]; simp [yieldsT]) h3
    exact ⟨m2, Q2, .next h1 h2 h4, h5⟩

def partsT (x : Xt) : Bool → List Xt → List (List V ⊕ Xt)
  | _, [] => []
  | laid, y :: l => .inl (cs y) :: .inl (cs (cutX y 0 x.lba)) :: ((if cutOk y 0 x.lba = true then [.inr (cutX y 0 x.lba)] else []) ++ ((if laid = false ∧ x.lba < y.lba + y.len then [.inr x] else []) ++
      (.inl (cs (cutX y (x.lba + x.len) 64)) :: ((if cutOk y (x.lba + x.len) 64 = true then [.inr (cutX y (x.lba + x.len) 64)] else []) ++ partsT x (laid || decide (x.lba < y.lba + y.len)) l))))
theorem yields_parts (x : Xt) : ∀ (laid : Bool) (l : List Xt), yieldsT (partsT x laid l) = partsX x laid l
  | _, [] => rfl
  | laid, y :: l => by
    rw [partsT, partsX]
    simp only [yieldsT, yieldsT_append, yields_parts x _ l]
    congr 1
    · split <;> rfl
    · congr 1
      · split <;> rfl
      · congr 1
        split <;> rfl
@[simp] theorem xt_eta (y : Xt) : (⟨y.lba, y.len, y.kind, y.gen, y.data⟩ : Xt) = y := rfl
def xArg (x : Xt) : List V := [.agg (cs x)]
def P1I (Y : YRel) (L a : Nat) (x : Xt) (l : List Xt) (m' : Mem) (k : Nat) (s : Nat → V) (m : Mem) : Prop :=
  ∃ (i : Nat) (laid : Bool) (Q : List Nat), i + k = l.length ∧ s 0 = .yld L ∧ s 1 = .ptr a 0 ∧ s 4 = .val (.int .i64 (x.lba + x.len)) ∧ s 5 = .val (.bool laid) ∧ s 17 = .lit 5 (l.map cs) ∧ s 18 = .val (.int .i64 l.length) ∧ s 19 = .val (.int .i64 i) ∧
    a ∈ Q ∧ m.boxes[a]? = some (cs x) ∧ YTr Y L xArg Q (partsT x laid (l.drop i)) m m'
@[simp] def sp_cutV (x : Xt) (a n : Int) : Option (V × List Tip) := some (.tuple [enc (cutX x a n), enc (cutOk x a n)], [])
theorem sp_cutV_ok : EOk Try.prog n_extent_Cut (sp3 sp_cutV) := sp3_ok fun x a n r h => by cases h; exact c_ext_Cut x a n
def DvbO : Orc := Orc.nil.add n_extent_Cut (sp3 sp_cutV)
theorem DvbO_ok : OOk Try.prog DvbO := OOk.nil.add sp_cutV_ok
theorem c_parts1 (Y : YRel) (L a b : Nat) (x : Xt) (l : List Xt) (hx : extOk x = true) (hl : l.length ≤ 2 ^ 40) (hy : ∀ y ∈ l, extOk y = true) (m m' : Mem) (Q : List Nat) (haQ : a ∈ Q) (ha : m.boxes[a]? = some (cs x)) (hb : m.boxes[b]? = some [.lit 5 (l.map cs)])
    (h : YTr Y L xArg Q (partsT x false l) m m') : LocY Try.prog Y n_extmap_parts_1 [.yld L, .ptr a 0, .ptr b 0] m (.tuple []) m' := by
  refine LocY.ofX DvbO_ok hm F_extmap_parts_1_ok (by simp [F_extmap_parts_1]) ?_
  have hx' := extOk_iff.1 hx
  have w1 := IntWalk.i64_in (x.lba + x.len) (by omega)
  simp at ha
  simp [F_extmap_parts_1, ha, hb, w1]
  refine wp_loop (P1I Y L a x l m') l.length (IW.of ⟨0, false, Q, by omega, by simp, by simp, by simp, by simp, by simp, by simp, by simp, haQ, by simpa using ha, h⟩) fun k s m ⟨i, laid, Q, hik, s0, s1, s4, s5, s17, s18, s19, haQ, ha, hr⟩ => ?_
  by_cases hi : i < l.length
  · have w2 := IntWalk.i64_in ((i : Int) + 1) (by omega)
    have hg : l[i]? = some l[i] := List.getElem?_eq_getElem hi
    obtain ⟨y, hye⟩ : ∃ y, y = l[i] := ⟨_, rfl⟩
    rw [List.drop_eq_getElem_cons hi, ← hye, partsT] at hr
    have hyo := extOk_iff.1 (hy y (by rw [hye]; exact List.getElem_mem hi))
    have w3 := IntWalk.i64_in (y.lba + y.len) (by omega)
    have hal := lt_of_some ha
    simp at ha
    have f1 : ∀ (b : List (List V)), (m.boxes ++ b)[a]? = m.boxes[a]? := fun b => List.getElem?_append_left hal
    have fin : ∀ (laid' : Bool) (Q' : List Nat) (s' : Nat → V) (m1 : Mem), laid' = (laid || decide (x.lba < y.lba + y.len)) → s' 0 = .yld L → s' 1 = .ptr a 0 → s' 4 = .val (.int .i64 (x.lba + x.len)) → s' 5 = .val (.bool laid') → s' 17 = .lit 5 (l.map cs) → s' 18 = .val (.int .i64 l.length) → s' 19 = .val (.int .i64 ((i : Int) + 1)) →
        a ∈ Q' → m1.boxes[a]? = some (cs x) → YTr Y L xArg Q' (partsT x (laid || decide (x.lba < y.lba + y.len)) (l.drop (i + 1))) m1 m' → ∃ j, j < k ∧ IW (P1I Y L a x l m' j) s' m1 := fun laid' Q' s' m1 e q0 q1 q4 q5 q17 q18 q19 qa qb qr =>
      ⟨k - 1, by omega, IW.of ⟨i + 1, laid', Q', by omega, q0, q1, q4, q5, q17, q18, by simpa using q19, qa, qb, by rw [e]; exact qr⟩⟩
    cases hr with
    | add hr =>
    cases hr with
    | add hr =>
    simp at hr
    by_cases c1 : cutOk y 0 x.lba = true
    · rw [if_pos c1] at hr
      by_cases c2 : laid = false ∧ x.lba < y.lba + y.len
      · rw [if_pos c2] at hr
        obtain ⟨rfl, c2⟩ := c2
        by_cases c3 : cutOk y (x.lba + x.len) 64 = true
        · rw [if_pos c3] at hr
          cases hr with
          | next y1 k1 hr =>
          simp [F_extmap_parts_1_L0, DvbO, hi, hg, ← hye, f1, ha, s0, s1, s4, s5, s17, s18, s19, w2, w3, c1, c2, c3]
          refine ⟨_, _, y1, ?_⟩
          have a1 := k1 _ (List.mem_cons_of_mem _ (List.mem_cons_of_mem _ haQ))
          have q1 := k1 _ (List.mem_cons_of_mem _ (List.mem_cons_self ..))
          simp [f1, ha] at a1 q1
          have g1 : ∀ (b : List (List V)), (_ ++ b : List (List V))[a]? = _ := fun b => List.getElem?_append_left (lt_of_some a1)
          have r1 : ∀ (b : List (List V)), (_ ++ b : List (List V))[m.boxes.length]? = _ := fun b => List.getElem?_append_left (lt_of_some q1)
          cases hr with
          | next y2 k2 hr =>
          simp [s0, s1, s4, s5, s17, s18, s19, w2, w3, DvbO, a1, q1, g1, r1, c1, c2, c3]
          refine ⟨_, _, y2, ?_⟩
          have a2 := k2 _ (List.mem_cons_of_mem _ (List.mem_cons_of_mem _ haQ))
          have q2 := k2 _ (List.mem_cons_of_mem _ (List.mem_cons_self ..))
          simp [a1, q1, g1, r1] at a2 q2
          have g2 : ∀ (b : List (List V)), (_ ++ b : List (List V))[a]? = _ := fun b => List.getElem?_append_left (lt_of_some a2)
          have r2 : ∀ (b : List (List V)), (_ ++ b : List (List V))[m.boxes.length]? = _ := fun b => List.getElem?_append_left (lt_of_some q2)
          cases hr with
          | add hr =>
          cases hr with
          | next y3 k3 hr =>
          simp [s0, s1, s4, s5, s17, s18, s19, w2, w3, DvbO, a2, q2, g2, r2, c1, c2, c3]
          refine ⟨_, _, y3, ?_⟩
          have a3 := k3 _ (List.mem_cons_of_mem _ (List.mem_cons_of_mem _ (List.mem_cons_of_mem _ haQ)))
          have q3 := k3 _ (List.mem_cons_of_mem _ (List.mem_cons_of_mem _ (List.mem_cons_self ..)))
          simp [a2, q2, g2, r2] at a3 q3
          have g3 : ∀ (b : List (List V)), (_ ++ b : List (List V))[a]? = _ := fun b => List.getElem?_append_left (lt_of_some a3)
          have r3 : ∀ (b : List (List V)), (_ ++ b : List (List V))[m.boxes.length]? = _ := fun b => List.getElem?_append_left (lt_of_some q3)
          simp [s0, s1, s4, s5, s17, s18, s19, w2, w3, DvbO, a3, q3, g3, r3, c1, c2, c3]
          exact fin _ _ _ _ rfl (by simp [s0]) (by simp [s1]) (by simp [s4]) (by simp [s5, c2]) (by simp [s17]) (by simp [s18]) (by simp) (List.mem_cons_of_mem _ (List.mem_cons_of_mem _ (List.mem_cons_of_mem _ haQ))) (by simp [a3, g3]) (by simpa using hr)
        · rw [if_neg c3] at hr
          simp only [Bool.not_eq_true] at c3
          cases hr with
          | next y1 k1 hr =>
          simp [F_extmap_parts_1_L0, DvbO, hi, hg, ← hye, f1, ha, s0, s1, s4, s5, s17, s18, s19, w2, w3, c1, c2, c3]
          refine ⟨_, _, y1, ?_⟩
          have a1 := k1 _ (List.mem_cons_of_mem _ (List.mem_cons_of_mem _ haQ))
          have q1 := k1 _ (List.mem_cons_of_mem _ (List.mem_cons_self ..))
          simp [f1, ha] at a1 q1
          have g1 : ∀ (b : List (List V)), (_ ++ b : List (List V))[a]? = _ := fun b => List.getElem?_append_left (lt_of_some a1)
          have r1 : ∀ (b : List (List V)), (_ ++ b : List (List V))[m.boxes.length]? = _ := fun b => List.getElem?_append_left (lt_of_some q1)
          cases hr with
          | next y2 k2 hr =>
          simp [s0, s1, s4, s5, s17, s18, s19, w2, w3, DvbO, a1, q1, g1, r1, c1, c2, c3]
          refine ⟨_, _, y2, ?_⟩
          have a2 := k2 _ (List.mem_cons_of_mem _ (List.mem_cons_of_mem _ haQ))
          have q2 := k2 _ (List.mem_cons_of_mem _ (List.mem_cons_self ..))
          simp [a1, q1, g1, r1] at a2 q2
          have g2 : ∀ (b : List (List V)), (_ ++ b : List (List V))[a]? = _ := fun b => List.getElem?_append_left (lt_of_some a2)
          have r2 : ∀ (b : List (List V)), (_ ++ b : List (List V))[m.boxes.length]? = _ := fun b => List.getElem?_append_left (lt_of_some q2)
          cases hr with
          | add hr =>
          simp [s0, s1, s4, s5, s17, s18, s19, w2, w3, DvbO, a2, q2, g2, r2, c1, c2, c3]
          exact fin _ _ _ _ rfl (by simp [s0]) (by simp [s1]) (by simp [s4]) (by simp [s5, c2]) (by simp [s17]) (by simp [s18]) (by simp) (List.mem_cons_of_mem _ (List.mem_cons_of_mem _ (List.mem_cons_of_mem _ haQ))) (by simp [a2, g2]) (by simpa using hr)
      · rw [if_neg c2] at hr
        have c2' : laid = true ∨ (laid = false ∧ ¬ x.lba < y.lba + y.len) := by cases laid <;> simp_all
        by_cases c3 : cutOk y (x.lba + x.len) 64 = true
        · rw [if_pos c3] at hr
          rcases c2' with rfl | ⟨rfl, c4⟩
          · cases hr with
            | next y1 k1 hr =>
            simp [F_extmap_parts_1_L0, DvbO, hi, hg, ← hye, f1, ha, s0, s1, s4, s5, s17, s18, s19, w2, w3, c1, c3]
            refine ⟨_, _, y1, ?_⟩
            have a1 := k1 _ (List.mem_cons_of_mem _ (List.mem_cons_of_mem _ haQ))
            have q1 := k1 _ (List.mem_cons_of_mem _ (List.mem_cons_self ..))
            simp [f1, ha] at a1 q1
            have g1 : ∀ (b : List (List V)), (_ ++ b : List (List V))[a]? = _ := fun b => List.getElem?_append_left (lt_of_some a1)
            have r1 : ∀ (b : List (List V)), (_ ++ b : List (List V))[m.boxes.length]? = _ := fun b => List.getElem?_append_left (lt_of_some q1)
            cases hr with
            | add hr =>
            cases hr with
            | next y2 k2 hr =>
            simp [s0, s1, s4, s5, s17, s18, s19, w2, w3, DvbO, a1, q1, g1, r1, c1, c3]
            refine ⟨_, _, y2, ?_⟩
            have a2 := k2 _ (List.mem_cons_of_mem _ (List.mem_cons_of_mem _ (List.mem_cons_of_mem _ haQ)))
            have q2 := k2 _ (List.mem_cons_of_mem _ (List.mem_cons_of_mem _ (List.mem_cons_self ..)))
            simp [a1, q1, g1, r1] at a2 q2
            have g2 : ∀ (b : List (List V)), (_ ++ b : List (List V))[a]? = _ := fun b => List.getElem?_append_left (lt_of_some a2)
            have r2 : ∀ (b : List (List V)), (_ ++ b : List (List V))[m.boxes.length]? = _ := fun b => List.getElem?_append_left (lt_of_some q2)
            simp [s0, s1, s4, s5, s17, s18, s19, w2, w3, DvbO, a2, q2, g2, r2, c1, c3]
            exact fin _ _ _ _ rfl (by simp [s0]) (by simp [s1]) (by simp [s4]) (by simp [s5]) (by simp [s17]) (by simp [s18]) (by simp) (List.mem_cons_of_mem _ (List.mem_cons_of_mem _ (List.mem_cons_of_mem _ haQ))) (by simp [a2, g2]) (by simpa using hr)
          · cases hr with
            | next y1 k1 hr =>
            simp [F_extmap_parts_1_L0, DvbO, hi, hg, ← hye, f1, ha, s0, s1, s4, s5, s17, s18, s19, w2, w3, c1, c4, Int.not_lt.1 c4, c3]
            refine ⟨_, _, y1, ?_⟩
            have a1 := k1 _ (List.mem_cons_of_mem _ (List.mem_cons_of_mem _ haQ))
            have q1 := k1 _ (List.mem_cons_of_mem _ (List.mem_cons_self ..))
            simp [f1, ha] at a1 q1
            have g1 : ∀ (b : List (List V)), (_ ++ b : List (List V))[a]? = _ := fun b => List.getElem?_append_left (lt_of_some a1)
            have r1 : ∀ (b : List (List V)), (_ ++ b : List (List V))[m.boxes.length]? = _ := fun b => List.getElem?_append_left (lt_of_some q1)
            cases hr with
            | add hr =>
            cases hr with
            | next y2 k2 hr =>
            simp [s0, s1, s4, s5, s17, s18, s19, w2, w3, DvbO, a1, q1, g1, r1, c1, c4, Int.not_lt.1 c4, c3]
            refine ⟨_, _, y2, ?_⟩
            have a2 := k2 _ (List.mem_cons_of_mem _ (List.mem_cons_of_mem _ (List.mem_cons_of_mem _ haQ)))
            have q2 := k2 _ (List.mem_cons_of_mem _ (List.mem_cons_of_mem _ (List.mem_cons_self ..)))
            simp [a1, q1, g1, r1] at a2 q2
            have g2 : ∀ (b : List (List V)), (_ ++ b : List (List V))[a]? = _ := fun b => List.getElem?_append_left (lt_of_some a2)
            have r2 : ∀ (b : List (List V)), (_ ++ b : List (List V))[m.boxes.length]? = _ := fun b => List.getElem?_append_left (lt_of_some q2)
            simp [s0, s1, s4, s5, s17, s18, s19, w2, w3, DvbO, a2, q2, g2, r2, c1, c4, Int.not_lt.1 c4, c3]
            exact fin _ _ _ _ rfl (by simp [s0]) (by simp [s1]) (by simp [s4]) (by simp [s5, c4, Int.not_lt.1 c4]) (by simp [s17]) (by simp [s18]) (by simp) (List.mem_cons_of_mem _ (List.mem_cons_of_mem _ (List.mem_cons_of_mem _ haQ))) (by simp [a2, g2]) (by simpa using hr)
        · rw [if_neg c3] at hr
          simp only [Bool.not_eq_true] at c3
          rcases c2' with rfl | ⟨rfl, c4⟩
          · cases hr with
            | next y1 k1 hr =>
            simp [F_extmap_parts_1_L0, DvbO, hi, hg, ← hye, f1, ha, s0, s1, s4, s5, s17, s18, s19, w2, w3, c1, c3]
            refine ⟨_, _, y1, ?_⟩
            have a1 := k1 _ (List.mem_cons_of_mem _ (List.mem_cons_of_mem _ haQ))
            have q1 := k1 _ (List.mem_cons_of_mem _ (List.mem_cons_self ..))
            simp [f1, ha] at a1 q1
            have g1 : ∀ (b : List (List V)), (_ ++ b : List (List V))[a]? = _ := fun b => List.getElem?_append_left (lt_of_some a1)
            have r1 : ∀ (b : List (List V)), (_ ++ b : List (List V))[m.boxes.length]? = _ := fun b => List.getElem?_append_left (lt_of_some q1)
            cases hr with
            | add hr =>
            simp [s0, s1, s4, s5, s17, s18, s19, w2, w3, DvbO, a1, q1, g1, r1, c1, c3]
            exact fin _ _ _ _ rfl (by simp [s0]) (by simp [s1]) (by simp [s4]) (by simp [s5]) (by simp [s17]) (by simp [s18]) (by simp) (List.mem_cons_of_mem _ (List.mem_cons_of_mem _ (List.mem_cons_of_mem _ haQ))) (by simp [a1, g1]) (by simpa using hr)
          · cases hr with
            | next y1 k1 hr =>
            simp [F_extmap_parts_1_L0, DvbO, hi, hg, ← hye, f1, ha, s0, s1, s4, s5, s17, s18, s19, w2, w3, c1, c4, Int.not_lt.1 c4, c3]
            refine ⟨_, _, y1, ?_⟩
            have a1 := k1 _ (List.mem_cons_of_mem _ (List.mem_cons_of_mem _ haQ))
            have q1 := k1 _ (List.mem_cons_of_mem _ (List.mem_cons_self ..))
            simp [f1, ha] at a1 q1
            have g1 : ∀ (b : List (List V)), (_ ++ b : List (List V))[a]? = _ := fun b => List.getElem?_append_left (lt_of_some a1)
            have r1 : ∀ (b : List (List V)), (_ ++ b : List (List V))[m.boxes.length]? = _ := fun b => List.getElem?_append_left (lt_of_some q1)
            cases hr with
            | add hr =>
            simp [s0, s1, s4, s5, s17, s18, s19, w2, w3, DvbO, a1, q1, g1, r1, c1, c4, Int.not_lt.1 c4, c3]
            exact fin _ _ _ _ rfl (by simp [s0]) (by simp [s1]) (by simp [s4]) (by simp [s5, c4, Int.not_lt.1 c4]) (by simp [s17]) (by simp [s18]) (by simp) (List.mem_cons_of_mem _ (List.mem_cons_of_mem _ (List.mem_cons_of_mem _ haQ))) (by simp [a1, g1]) (by simpa using hr)
    · rw [if_neg c1] at hr
      simp only [Bool.not_eq_true] at c1
      by_cases c2 : laid = false ∧ x.lba < y.lba + y.len
      · rw [if_pos c2] at hr
        obtain ⟨rfl, c2⟩ := c2
        by_cases c3 : cutOk y (x.lba + x.len) 64 = true
        · rw [if_pos c3] at hr
          cases hr with
          | next y1 k1 hr =>
          simp [F_extmap_parts_1_L0, DvbO, hi, hg, ← hye, f1, ha, s0, s1, s4, s5, s17, s18, s19, w2, w3, c1, c2, c3]
          refine ⟨_, _, y1, ?_⟩
          have a1 := k1 _ (List.mem_cons_of_mem _ (List.mem_cons_of_mem _ haQ))
          have q1 := k1 _ (List.mem_cons_of_mem _ (List.mem_cons_self ..))
          simp [f1, ha] at a1 q1
          have g1 : ∀ (b : List (List V)), (_ ++ b : List (List V))[a]? = _ := fun b => List.getElem?_append_left (lt_of_some a1)
          have r1 : ∀ (b : List (List V)), (_ ++ b : List (List V))[m.boxes.length]? = _ := fun b => List.getElem?_append_left (lt_of_some q1)
          cases hr with
          | add hr =>
          cases hr with
          | next y2 k2 hr =>
          simp [s0, s1, s4, s5, s17, s18, s19, w2, w3, DvbO, a1, q1, g1, r1, c1, c2, c3]
          refine ⟨_, _, y2, ?_⟩
          have a2 := k2 _ (List.mem_cons_of_mem _ (List.mem_cons_of_mem _ (List.mem_cons_of_mem _ haQ)))
          have q2 := k2 _ (List.mem_cons_of_mem _ (List.mem_cons_of_mem _ (List.mem_cons_self ..)))
          simp [a1, q1, g1, r1] at a2 q2
          have g2 : ∀ (b : List (List V)), (_ ++ b : List (List V))[a]? = _ := fun b => List.getElem?_append_left (lt_of_some a2)
          have r2 : ∀ (b : List (List V)), (_ ++ b : List (List V))[m.boxes.length]? = _ := fun b => List.getElem?_append_left (lt_of_some q2)
          simp [s0, s1, s4, s5, s17, s18, s19, w2, w3, DvbO, a2, q2, g2, r2, c1, c2, c3]
          exact fin _ _ _ _ rfl (by simp [s0]) (by simp [s1]) (by simp [s4]) (by simp [s5, c2]) (by simp [s17]) (by simp [s18]) (by simp) (List.mem_cons_of_mem _ (List.mem_cons_of_mem _ (List.mem_cons_of_mem _ haQ))) (by simp [a2, g2]) (by simpa using hr)
        · rw [if_neg c3] at hr
          simp only [Bool.not_eq_true] at c3
          cases hr with
          | next y1 k1 hr =>
          simp [F_extmap_parts_1_L0, DvbO, hi, hg, ← hye, f1, ha, s0, s1, s4, s5, s17, s18, s19, w2, w3, c1, c2, c3]
          refine ⟨_, _, y1, ?_⟩
          have a1 := k1 _ (List.mem_cons_of_mem _ (List.mem_cons_of_mem _ haQ))
          have q1 := k1 _ (List.mem_cons_of_mem _ (List.mem_cons_self ..))
          simp [f1, ha] at a1 q1
          have g1 : ∀ (b : List (List V)), (_ ++ b : List (List V))[a]? = _ := fun b => List.getElem?_append_left (lt_of_some a1)
          have r1 : ∀ (b : List (List V)), (_ ++ b : List (List V))[m.boxes.length]? = _ := fun b => List.getElem?_append_left (lt_of_some q1)
          cases hr with
          | add hr =>
          simp [s0, s1, s4, s5, s17, s18, s19, w2, w3, DvbO, a1, q1, g1, r1, c1, c2, c3]
          exact fin _ _ _ _ rfl (by simp [s0]) (by simp [s1]) (by simp [s4]) (by simp [s5, c2]) (by simp [s17]) (by simp [s18]) (by simp) (List.mem_cons_of_mem _ (List.mem_cons_of_mem _ (List.mem_cons_of_mem _ haQ))) (by simp [a1, g1]) (by simpa using hr)
      · rw [if_neg c2] at hr
        have c2' : laid = true ∨ (laid = false ∧ ¬ x.lba < y.lba + y.len) := by cases laid <;> simp_all
        by_cases c3 : cutOk y (x.lba + x.len) 64 = true
        · rw [if_pos c3] at hr
          rcases c2' with rfl | ⟨rfl, c4⟩
          · cases hr with
            | add hr =>
            simp at hr
            cases hr with
            | next y1 k1 hr =>
            simp [F_extmap_parts_1_L0, DvbO, hi, hg, ← hye, f1, ha, s0, s1, s4, s5, s17, s18, s19, w2, w3, c1, c3]
            refine ⟨_, _, y1, ?_⟩
            have a1 := k1 _ (List.mem_cons_of_mem _ (List.mem_cons_of_mem _ (List.mem_cons_of_mem _ haQ)))
            have q1 := k1 _ (List.mem_cons_of_mem _ (List.mem_cons_of_mem _ (List.mem_cons_self ..)))
            simp [f1, ha] at a1 q1
            have g1 : ∀ (b : List (List V)), (_ ++ b : List (List V))[a]? = _ := fun b => List.getElem?_append_left (lt_of_some a1)
            have r1 : ∀ (b : List (List V)), (_ ++ b : List (List V))[m.boxes.length]? = _ := fun b => List.getElem?_append_left (lt_of_some q1)
            simp [s0, s1, s4, s5, s17, s18, s19, w2, w3, DvbO, a1, q1, g1, r1, c1, c3]
            exact fin _ _ _ _ rfl (by simp [s0]) (by simp [s1]) (by simp [s4]) (by simp [s5]) (by simp [s17]) (by simp [s18]) (by simp) (List.mem_cons_of_mem _ (List.mem_cons_of_mem _ (List.mem_cons_of_mem _ haQ))) (by simp [a1, g1]) (by simpa using hr)
          · cases hr with
            | add hr =>
            simp at hr
            cases hr with
            | next y1 k1 hr =>
            simp [F_extmap_parts_1_L0, DvbO, hi, hg, ← hye, f1, ha, s0, s1, s4, s5, s17, s18, s19, w2, w3, c1, c4, Int.not_lt.1 c4, c3]
            refine ⟨_, _, y1, ?_⟩
            have a1 := k1 _ (List.mem_cons_of_mem _ (List.mem_cons_of_mem _ (List.mem_cons_of_mem _ haQ)))
            have q1 := k1 _ (List.mem_cons_of_mem _ (List.mem_cons_of_mem _ (List.mem_cons_self ..)))
            simp [f1, ha] at a1 q1
            have g1 : ∀ (b : List (List V)), (_ ++ b : List (List V))[a]? = _ := fun b => List.getElem?_append_left (lt_of_some a1)
            have r1 : ∀ (b : List (List V)), (_ ++ b : List (List V))[m.boxes.length]? = _ := fun b => List.getElem?_append_left (lt_of_some q1)
            simp [s0, s1, s4, s5, s17, s18, s19, w2, w3, DvbO, a1, q1, g1, r1, c1, c4, Int.not_lt.1 c4, c3]
            exact fin _ _ _ _ rfl (by simp [s0]) (by simp [s1]) (by simp [s4]) (by simp [s5, c4, Int.not_lt.1 c4]) (by simp [s17]) (by simp [s18]) (by simp) (List.mem_cons_of_mem _ (List.mem_cons_of_mem _ (List.mem_cons_of_mem _ haQ))) (by simp [a1, g1]) (by simpa using hr)
        · rw [if_neg c3] at hr
          simp only [Bool.not_eq_true] at c3
          rcases c2' with rfl | ⟨rfl, c4⟩
          · cases hr with
            | add hr =>
            simp [F_extmap_parts_1_L0, DvbO, hi, hg, ← hye, f1, ha, s0, s1, s4, s5, s17, s18, s19, w2, w3, c1, c3]
            exact fin _ _ _ _ rfl (by simp [s0]) (by simp [s1]) (by simp [s4]) (by simp [s5]) (by simp [s17]) (by simp [s18]) (by simp) (List.mem_cons_of_mem _ (List.mem_cons_of_mem _ (List.mem_cons_of_mem _ haQ))) (by simp [f1, ha]) (by simpa using hr)
          · cases hr with
            | add hr =>
            simp [F_extmap_parts_1_L0, DvbO, hi, hg, ← hye, f1, ha, s0, s1, s4, s5, s17, s18, s19, w2, w3, c1, c4, Int.not_lt.1 c4, c3]
            exact fin _ _ _ _ rfl (by simp [s0]) (by simp [s1]) (by simp [s4]) (by simp [s5, c4, Int.not_lt.1 c4]) (by simp [s17]) (by simp [s18]) (by simp) (List.mem_cons_of_mem _ (List.mem_cons_of_mem _ (List.mem_cons_of_mem _ haQ))) (by simp [f1, ha]) (by simpa using hr)
  · have hil : i = l.length := by omega
    rw [hil, List.drop_length, partsT] at hr
    have hm1 : m = m' := by
      cases hr
      rfl
    simp [F_extmap_parts_1_L0, s0, s1, s4, s5, s17, s18, s19, hi]
    exact hm1
end Go.Av

namespace Go.Av
open Enc (enc dec)
open Cel (cs dc)
open Go.Proofs Pl

@[simp] def sp_mnew (n : Int) : Option (V × List Tip) := some (.tuple [.row 0 5 ((newL n).map cs), enc (newE n)], [(174, 5, (newL n).length)])
@[simp] def sp_all (a b : List Xt) : Option (V × List Tip) := if a.length ≤ 2 ^ 40 then some (enc (decide (a = b)), []) else none
@[simp] def sp_points (a b : Pt) : Option (V × List Tip) := if a.map.length ≤ 2 ^ 40 then some (enc (decide (a = b)), []) else none
end Go.Av



namespace Go.Av
open Enc (enc dec)
open Cel (cs dc)
open Go.Proofs Pl

/-- More bytes, and an error: in the boxes of a state's bytes. -/
def putM (m : Mem) (b : List UInt8) (e : Int) : Option Mem := match m.boxes with
  | b0 :: [.row t 1 xs] :: [.val (.int .i64 w)] :: bx => if m.tips[t]? = some (5, 1, xs.length) ∧ xs.length + b.length ≤ 2 ^ 40 then
      some ⟨b0 :: [.row t 1 (xs ++ b.map cs)] :: [.val (.int .i64 (max w e))] :: bx, m.tips.set t (5, 1, xs.length + b.length)⟩ else none
  | _ => none
theorem c_put (b0 : List V) (bx xs : List (List V)) (t : Nat) (w e : Int) (tips : List Tip) (b : List UInt8) (ht : tips[t]? = some (5, 1, xs.length)) (hb : xs.length + b.length ≤ 2 ^ 40) :
    Loc Try.prog n_snap_Write_1 [enc b, enc e, .ptr 1 0, .ptr 2 0] ⟨b0 :: [.row t 1 xs] :: [.val (.int .i64 w)] :: bx, tips⟩ (.tuple []) ⟨b0 :: [.row t 1 (xs ++ b.map cs)] :: [.val (.int .i64 (max w e))] :: bx, tips.set t (5, 1, xs.length + b.length)⟩ := by
  refine Loc.ofC OOk.nil hm F_snap_Write_1_ok (by simp [F_snap_Write_1]) (.inr ⟨[], rfl, rfl⟩) (bx.length + 3) tips.length (by simp) (by simp) fun hu => ?_
  simp only [List.length_cons, underX, Bool.and_eq_true, underL, V.under, decide_eq_true_eq, Bool.and_true] at hu
  obtain ⟨u1, ⟨u2, u3⟩, _, u4⟩ := hu
  simp [F_snap_Write_1, ht]
  refine ⟨by omega, ⟨u1, ⟨u2, ?_⟩, u4⟩, ?_⟩
  · rw [underX_app, u3, under_cs]; rfl
  · rw [List.take_of_length_le (by simp)]
theorem putM_of {b0 : List V} {bx xs : List (List V)} {t : Nat} {w e : Int} {tips : List Tip} {b : List UInt8} (ht : tips[t]? = some (5, 1, xs.length)) (hb : xs.length + b.length ≤ 2 ^ 40) :
    putM ⟨b0 :: [.row t 1 xs] :: [.val (.int .i64 w)] :: bx, tips⟩ b e = some ⟨b0 :: [.row t 1 (xs ++ b.map cs)] :: [.val (.int .i64 (max w e))] :: bx, tips.set t (5, 1, xs.length + b.length)⟩ := by
  simp only [putM]
  rw [if_pos ⟨ht, hb⟩]
theorem putM_some {m m' : Mem} {b : List UInt8} {e : Int} (h : putM m b e = some m') : ∃ b0 t xs w bx tips, m = ⟨b0 :: [.row t 1 xs] :: [.val (.int .i64 w)] :: bx, tips⟩ ∧ tips[t]? = some (5, 1, xs.length) ∧ xs.length + b.length ≤ 2 ^ 40 ∧ m' = ⟨b0 :: [.row t 1 (xs ++ b.map cs)] :: [.val (.int .i64 (max w e))] :: bx, tips.set t (5, 1, xs.length + b.length)⟩ := by
  obtain ⟨bo, tips⟩ := m
  unfold putM at h
  simp only at h
  split at h
  · split at h <;> cases h
    rename_i hc
    exact ⟨_, _, _, _, _, _, rfl, hc.1, hc.2, rfl⟩
  · cases h
def sp_put : List V → Mem → Option (V × Mem)
  | [a, e, .ptr 1 0, .ptr 2 0], m => (dec a : Option (List UInt8)).bind fun b => (dec e : Option Int).bind fun e => (putM m b e).map fun m' => (.tuple [], m')
  | _, _ => none
theorem sp_put_ok : EOkL Try.prog n_snap_Write_1 sp_put := by
  intro args m v m' h
  unfold sp_put at h
  split at h
  · simp only [Option.bind_eq_some_iff, Option.map_eq_some_iff] at h
    obtain ⟨b, hb, e, he, m1, h1, h⟩ := h
    cases h
    obtain ⟨b0, t, xs, w, bx, tips, rfl, ht, hl, rfl⟩ := putM_some h1
    exact (c_put b0 bx xs t w e tips b ht hl).wk (wk_dec (wk_dec (WkL.refl _) he) hb)
  · cases h
@[simp] def sp_xwrite (l : List Xt) : Option (V × List Tip) := if l.length ≤ 2 ^ 20 then some (.tuple [.row 0 1 ((writeB l).map cs), enc (writeE l)], [(5, 1, (writeB l).length)]) else none
theorem sp_xwrite_ok : EOk Try.prog n_extent_Write (sp1 sp_xwrite) := sp1_ok fun l r h => by
  simp only [sp_xwrite] at h
  split at h <;> cases h
  exact c_ext_Write l (by assumption)
theorem sp_Put_ok : EOk Try.prog n_le_Put (sp3 sp_Put) := sp3_ok fun b v w r h => by
  simp only [sp_Put] at h
  split at h <;> cases h
  exact c_le_Put b v w (by assumption)
/-- A map's bytes, behind how many; and the error. -/
def cntB (l : List Xt) : List UInt8 := bytesPut [] (writeB l).length 2 ++ writeB l
def cntE (w : Int) (l : List Xt) : Int := max (max w (errPut (writeB l).length 2)) (writeE l)
theorem writeB_length (l : List Xt) : (writeB l).length ≤ 1 + 64 * 2055 := by
  unfold writeB
  split
  · rename_i h
    simp only [wrOk, Bool.and_eq_true, decide_eq_true_eq, List.all_eq_true] at h
    have : ∀ l : List Xt, (∀ x ∈ l, extOk x = true) → (l.flatMap wr1).length ≤ l.length * 2055 := by
      intro l
      induction l with
      | nil => intro _; simp
      | cons x l ih =>
        intro hx
        have h1 := wr1_length (hx x List.mem_cons_self)
        have h2 := ih fun y hy => hx y (List.mem_cons_of_mem _ hy)
        rw [List.flatMap_cons, List.length_append, List.length_cons]
        omega
    have := this l h.2
    rw [wrB, List.length_cons]
    omega
  · simp
def D32 : Orc := ((Orc.nil.add n_extent_Write (sp1 sp_xwrite)).add n_le_Put (sp3 sp_Put)).addL n_snap_Write_1 sp_put
theorem D32_ok : OOk Try.prog D32 := ((OOk.nil.add sp_xwrite_ok).add sp_Put_ok).addL sp_put_ok
theorem c_counted (b0 : List V) (bx xs : List (List V)) (t : Nat) (w : Int) (tips : List Tip) (l : List Xt) (ht : tips[t]? = some (5, 1, xs.length)) (hl : l.length ≤ 2 ^ 20) (hb : xs.length ≤ 2 ^ 39) :
    Loc Try.prog n_snap_Write_2 [enc l, .ptr 3 0] ⟨b0 :: [.row t 1 xs] :: [.val (.int .i64 w)] :: [.func 66 [.ptr 1 0, .ptr 2 0]] :: bx, tips⟩ (.tuple [])
      ⟨b0 :: [.row t 1 (xs ++ (cntB l).map cs)] :: [.val (.int .i64 (cntE w l))] :: [.func 66 [.ptr 1 0, .ptr 2 0]] :: bx, tips.set t (5, 1, xs.length + (cntB l).length)⟩ := by
  refine Loc.ofC D32_ok hm F_snap_Write_2_ok (by simp [F_snap_Write_2]) (.inr ⟨[], rfl, rfl⟩) (bx.length + 4) tips.length (by simp) (by simp) fun hu => ?_
  simp only [List.length_cons, underX, Bool.and_eq_true, underL, V.under, decide_eq_true_eq, Bool.and_true] at hu
  obtain ⟨u1, ⟨u2, u3⟩, _, _, u4⟩ := hu
  have hwl := writeB_length l
  have htl : t < tips.length := lt_of_some ht
  have w1 : IntKind.u64.wrap ((writeB l).length : Int) = (writeB l).length := IntWalk.u64_in _ (by omega)
  have hbp : (bytesPut [] (writeB l).length 2).length ≤ 2 := by
    unfold bytesPut
    split <;> simp [leB_length]
  have ht1 : (tips ++ [(5, 1, (writeB l).length)])[t]? = some (5, 1, xs.length) := by rw [List.getElem?_append_left htl]; exact ht
  have p1 := putM_of (b0 := b0) (bx := [.func 66 [.ptr 1 0, .ptr 2 0]] :: bx) (w := w) (e := errPut (writeB l).length 2) (b := bytesPut [] (writeB l).length 2) ht1 (by omega)
  have ht2 : ((tips ++ [(5, 1, (writeB l).length)]).set t (5, 1, xs.length + (bytesPut [] (writeB l).length 2).length))[t]? = some (5, 1, (xs ++ (bytesPut [] (writeB l).length 2).map cs).length) := by
    rw [List.getElem?_set_self (by simp; omega)]; simp
  have p2 := putM_of (b0 := b0) (bx := [.func 66 [.ptr 1 0, .ptr 2 0]] :: bx) (w := max w (errPut (writeB l).length 2)) (e := writeE l) (b := writeB l) ht2 (by simp; omega)
  simp [F_snap_Write_2, D32, hl, w1, sp_put, p1, p2, decX_map]
  refine ⟨⟨u1, ⟨htl, by rw [underX_app, underX_app, u3, under_cs, under_cs]; rfl⟩, u4⟩, ⟨by simp [cntB], by simp only [cntE]; omega⟩, ?_⟩
  rw [List.set_append_left _ _ htl, List.take_left' (by simp)]
  simp [cntB, Nat.add_assoc]
def cntM (m : Mem) (l : List Xt) : Option Mem := match m.boxes with
  | b0 :: [.row t 1 xs] :: [.val (.int .i64 w)] :: [.func 66 [.ptr 1 0, .ptr 2 0]] :: bx => if m.tips[t]? = some (5, 1, xs.length) ∧ xs.length ≤ 2 ^ 39 ∧ l.length ≤ 2 ^ 20 then
      some ⟨b0 :: [.row t 1 (xs ++ (cntB l).map cs)] :: [.val (.int .i64 (cntE w l))] :: [.func 66 [.ptr 1 0, .ptr 2 0]] :: bx, m.tips.set t (5, 1, xs.length + (cntB l).length)⟩ else none
  | _ => none
def sp_counted : List V → Mem → Option (V × Mem)
  | [a, .ptr 3 0], m => (dec a : Option (List Xt)).bind fun l => (cntM m l).map fun m' => (.tuple [], m')
  | _, _ => none
theorem sp_counted_ok : EOkL Try.prog n_snap_Write_2 sp_counted := by
  intro args m v m' h
  unfold sp_counted at h
  split at h
  · simp only [Option.bind_eq_some_iff, Option.map_eq_some_iff] at h
    obtain ⟨l, hl, m1, h1, h⟩ := h
    cases h
    obtain ⟨bo, tips⟩ := m
    unfold cntM at h1
    simp only at h1
    split at h1
    · split at h1 <;> cases h1
      rename_i hc
      exact (c_counted _ _ _ _ _ tips l hc.1 hc.2.2 hc.2.1).wk (wk_dec (WkL.refl _) hl)
    · cases h1
  · cases h
end Go.Av

namespace Go.Av
open Enc (enc dec)
open Cel (cs dc)
open Go.Proofs Pl

theorem mapFrom_len : ∀ {l : List Xt} {a b : Int} {p : Option Xt}, mapFrom a p l = some b → (l.length : Int) ≤ b - a ∧ ((l.flatMap wr1).length : Int) ≤ 39 * (b - a) ∧ l.all extOk = true
  | [], a, b, p, h => by simp only [mapFrom, Option.some.injEq] at h; simp; omega
  | x :: l, a, b, p, h => by
    simp only [mapFrom] at h
    split at h
    · rename_i hc
      obtain ⟨h1, h2, h3⟩ := mapFrom_len h
      have hx := extOk_iff.1 hc.1
      have h4 : (wr1 x).length = 7 + x.data.length := by simp [wr1, hdX_length]
      have h5 := hx.2.2.2.2.2.2.2.2
      rw [List.flatMap_cons, List.length_append, List.length_cons]
      refine ⟨by omega, ?_, by simp [hc.1, h3]⟩
      split at h5 <;> omega
    · cases h
theorem mapOk_wr {n : Int} {l : List Xt} (h : mapOk n l = true) : wrOk l = true ∧ (writeB l).length ≤ 2500 ∧ writeB l = wrB l ∧ writeE l = 0 := by
  have hn := mapOk_le h
  simp only [mapOk, Bool.and_eq_true, decide_eq_true_eq] at h
  obtain ⟨h1, h2, h3⟩ := mapFrom_len h.2
  have hw : wrOk l = true := by simp only [wrOk, h3, Bool.and_true, decide_eq_true_eq]; omega
  have e : writeB l = wrB l := by simp [writeB, hw]
  refine ⟨hw, ?_, e, by simp [writeE, hw]⟩
  rw [e, wrB, List.length_cons]
  omega
/-- A map's bytes, behind how many. -/
def mapB (l : List Xt) : List UInt8 := leB (wrB l).length 2 ++ wrB l
theorem cnt_ok {n : Int} {l : List Xt} (h : mapOk n l = true) : cntB l = mapB l ∧ cntE 0 l = 0 := by
  obtain ⟨h1, h2, h3, h4⟩ := mapOk_wr h
  have hm : mayB (wrB l).length 2 = true := by rw [← h3]; simp [mayB]; omega
  rw [cntB, cntE, h3, h4]
  simp [bytesPut, errPut, hm, mapB]
theorem mapB_length {n : Int} {l : List Xt} (h : mapOk n l = true) : (mapB l).length ≤ 2502 := by
  obtain ⟨h1, h2, h3, h4⟩ := mapOk_wr h
  rw [h3] at h2
  simp [mapB, leB_length]
  omega
def headB (s : Sta) : List UInt8 := leB s.blocks.toNat 1 ++ (leB s.gen.toNat 4 ++ (leB s.last.toNat 4 ++ (leB s.pts.length 1 ++ leB s.staged.length 2)))
def ptB (p : Pt) : List UInt8 := (leB p.id.toNat 4 ++ leB p.gen.toNat 4) ++ mapB p.map
def bodyS (s : Sta) : List UInt8 := ((headB s ++ s.staged) ++ mapB s.map) ++ s.pts.flatMap ptB
def snapB (s : Sta) : List UInt8 := if staOk s = true then sealS (bodyS s) else []
/-- What is known of a checkpoint of a state that may be. -/
def ptFine (q : Sta) (p : Pt) : Prop := mapOk q.blocks p.map = true ∧ 0 < p.id ∧ p.id ≤ q.last ∧ 0 < p.gen ∧ p.gen < q.gen
theorem ptsOk_fine {q : Sta} : ∀ {l : List Pt} {w : Pt}, ptsOk q w l = true → 0 ≤ w.id → 0 ≤ w.gen → ∀ p ∈ l, ptFine q p
  | [], _, _, _, _, p, hp => by cases hp
  | x :: l, w, h, h1, h2, p, hp => by
    simp only [ptsOk, ptOk, Bool.and_eq_true, decide_eq_true_eq, uptoOk] at h
    obtain ⟨⟨⟨⟨⟨⟨⟨a1, _⟩, a2⟩, a3⟩, a4⟩, a5⟩, _⟩, hr⟩ := h
    rcases List.mem_cons.1 hp with rfl | hp
    · exact ⟨a1, by omega, a3, by omega, a5⟩
    · exact ptsOk_fine hr (by omega) (by omega) p hp
theorem staOk_fine {q : Sta} (h : staOk q = true) : mapOk q.blocks q.map = true ∧ 1 ≤ q.gen ∧ q.gen ≤ 2147483647 ∧ q.pts.length ≤ 4 ∧ 0 ≤ q.last ∧ q.last ≤ 2147483647 ∧ q.staged.length ≤ 4000 ∧ ∀ p ∈ q.pts, ptFine q p := by
  simp only [staOk, staMay, uptoOk, Bool.and_eq_true, decide_eq_true_eq] at h
  obtain ⟨⟨⟨⟨⟨⟨h1, h2⟩, h3⟩, h4⟩, h5⟩, h6⟩, _⟩ := h
  exact ⟨h1.1, h2.1, h2.2, h3, h4.1, h4.2, h5, ptsOk_fine h6 (Int.le_refl _) (Int.le_refl _)⟩
end Go.Av

namespace Go.Av.Pl
theorem snocI {α : Type} {p : List α → Prop} (h0 : p []) (h1 : ∀ l x, p l → p (l ++ [x])) : ∀ l, p l := fun l => by
  have key : ∀ r : List α, p r.reverse := fun r => by
    induction r with
    | nil => exact h0
    | cons x r ih => rw [List.reverse_cons]; exact h1 _ _ ih
  have := key l.reverse
  rwa [List.reverse_reverse] at this
/-- One more part: it goes on the last one, or stands behind. -/
def addX (out : List Xt) (y : Xt) : List Xt := match out.getLast? with
  | some z => if joins z y = true then out.dropLast ++ [joinX z y] else out ++ [y]
  | none => [y]
def outsX (l : List Xt) : List Xt := l.foldl addX []
theorem outsX_snoc (l : List Xt) (y : Xt) : outsX (l ++ [y]) = addX (outsX l) y := by simp [outsX]
theorem addX_snoc (l : List Xt) (z y : Xt) : addX (l ++ [z]) y = if joins z y = true then l ++ [joinX z y] else l ++ [z] ++ [y] := by
  simp [addX]
theorem addX_len (l : List Xt) (y : Xt) : (addX l y).length ≤ l.length + 1 := by
  rcases List.eq_nil_or_concat l with rfl | ⟨r, z, rfl⟩
  · simp [addX]
  · rw [List.concat_eq_append, addX_snoc]
    split <;> simp
theorem outsX_len : ∀ l : List Xt, (outsX l).length ≤ l.length := by
  refine snocI (by simp [outsX]) fun l y ih => ?_
  · rw [outsX_snoc]
    have := addX_len (outsX l) y
    simp; omega
theorem cutX_ok {y : Xt} {a n : Int} (h : cutOk y a n = true) : extOk (cutX y a n) = true := by
  have h0 := h
  simp only [cutOk, Bool.and_eq_true, decide_eq_true_eq] at h
  have hy := extOk_iff.1 h.1
  rw [extOk_iff]
  simp only [cutX, h0, if_true]
  refine ⟨by omega, by omega, by omega, by omega, by omega, by omega, by omega, by omega, ?_⟩
  have hl := hy.2.2.2.2.2.2.2.2
  by_cases hk : y.kind = 2
  · simp only [hk, if_true] at hl ⊢
    rw [List.length_drop, List.length_take]
    omega
  · simp [hk]
theorem joinX_ok {z y : Xt} (h : joins z y = true) : extOk (joinX z y) = true := by
  have h0 := h
  simp only [joins, Bool.and_eq_true, decide_eq_true_eq] at h
  have hz := extOk_iff.1 h.1.1
  have hy := extOk_iff.1 h.1.2
  rw [extOk_iff]
  simp only [joinX, h0, if_true]
  refine ⟨by omega, by omega, by omega, by omega, by omega, by omega, by omega, by omega, ?_⟩
  have l1 := hz.2.2.2.2.2.2.2.2
  have l2 := hy.2.2.2.2.2.2.2.2
  rw [List.length_append]
  by_cases hk : z.kind = 2
  · have hk2 : y.kind = 2 := by omega
    simp only [hk, hk2, if_true] at l1 l2 ⊢
    omega
  · have hk2 : ¬ y.kind = 2 := by omega
    simp only [hk, hk2, if_false] at l1 l2 ⊢
    omega
theorem addX_ok {l : List Xt} {y : Xt} (h : ∀ x ∈ l, extOk x = true) (hy : extOk y = true) : ∀ x ∈ addX l y, extOk x = true := by
  rcases List.eq_nil_or_concat l with rfl | ⟨r, z, rfl⟩
  · simpa [addX] using hy
  · rw [List.concat_eq_append] at h ⊢
    rw [addX_snoc]
    intro x hx
    split at hx
    · rename_i hj
      rcases List.mem_append.1 hx with hx | hx
      · exact h x (List.mem_append_left _ hx)
      · rw [List.mem_singleton] at hx; rw [hx]; exact joinX_ok hj
    · rcases List.mem_append.1 hx with hx | hx
      · exact h x hx
      · rw [List.mem_singleton] at hx; rw [hx]; exact hy
theorem outsX_ok : ∀ l : List Xt, (∀ x ∈ l, extOk x = true) → ∀ x ∈ outsX l, extOk x = true := by
  refine snocI (fun _ x hx => by simp [outsX] at hx) fun l y ih h => ?_
  · skip
    rw [outsX_snoc]
    exact addX_ok (ih fun x hx => h x (List.mem_append_left _ hx)) (h y (by simp))
theorem partsX_ok {x : Xt} (hx : extOk x = true) : ∀ (b : Bool) (l : List Xt), ∀ p ∈ partsX x b l, extOk p = true
  | _, [], p, hp => by simp [partsX] at hp
  | b, y :: l, p, hp => by
    rw [partsX] at hp
    simp only [List.mem_append] at hp
    rcases hp with hp | hp | hp | hp
    · split at hp
      · rename_i h; rw [List.mem_singleton] at hp; rw [hp]; exact cutX_ok h
      · cases hp
    · split at hp
      · rw [List.mem_singleton] at hp; rw [hp]; exact hx
      · cases hp
    · split at hp
      · rename_i h; rw [List.mem_singleton] at hp; rw [hp]; exact cutX_ok h
      · cases hp
    · exact partsX_ok hx _ l p hp
theorem partsX_len (x : Xt) : ∀ (b : Bool) (l : List Xt), (partsX x b l).length ≤ 3 * l.length
  | _, [] => by simp [partsX]
  | b, y :: l => by
    rw [partsX]
    have h1 := partsX_len x (b || decide (x.lba < y.lba + y.len)) l
    simp only [List.length_append, List.length_cons]
    have h2 : (if cutOk y 0 x.lba = true then [cutX y 0 x.lba] else []).length ≤ 1 := by split <;> simp
    have h3 : (if b = false ∧ x.lba < y.lba + y.len then [x] else []).length ≤ 1 := by split <;> simp
    have h4 : (if cutOk y (x.lba + x.len) 64 = true then [cutX y (x.lba + x.len) 64] else []).length ≤ 1 := by split <;> simp
    omega
end Go.Av.Pl
namespace Go.Av
open Enc (enc dec)
open Cel (cs dc)
open Go.Proofs Pl

theorem xtS_ok {l : List Xt} (h1 : l.length ≤ 2 ^ 40) (h : ∀ x ∈ l, extOk x = true) : xtS l := ⟨h1, fun x hx => by have := ext_len (h x hx); omega⟩
/-- The iterator. -/
def sp_partsX : List V → Mem → Option (V × Mem)
  | [v, u], m => (dec v : Option (List Xt)).bind fun l => (dec u : Option Xt).bind fun x =>
      some (.func n_extmap_parts_1 [.ptr (m.boxes.length + 1) 0, .ptr m.boxes.length 0], ⟨m.boxes ++ [[.lit 5 (l.map cs)], cs x], m.tips⟩)
  | _, _ => none
theorem sp_partsX_ok : EOkL Try.prog n_extmap_parts sp_partsX := by
  intro args m v m' h
  unfold sp_partsX at h
  split at h
  · rename_i a u
    simp only [Option.bind_eq_some_iff] at h
    obtain ⟨l, hl, x, hx, h⟩ := h
    cases h
    refine Loc.wk (wk_dec (wk_dec wk_nil hx) hl) (Loc.ofX OOk.nil hm F_extmap_parts_ok (by simp [F_extmap_parts]) ?_)
    simp [F_extmap_parts]
  · cases h
/-- The boxes of Put, in its loop. -/
def outOk (o : List V) (rest : List (List V)) (outs : List Xt) (Q : List Nat) : Prop :=
  (outs = [] ∧ o = [.val (.slice none 0 0)]) ∨ ∃ j : Nat, outs ≠ [] ∧ o = [.buf 0 5 outs.length outs.length (j + 6)] ∧ rest[j]? = some (outs.map cs).flatten ∧ ∀ q ∈ Q, q ≠ j + 6
def putJ (l : List Xt) (x : Xt) (Q : List Nat) (acc : List Xt) (m : Mem) : Prop :=
  ∃ (o : List V) (rest : List (List V)) (tips : List Tip), m = ⟨cs x :: o :: [.lit 5 (l.map cs)] :: cs x :: [St.ready.v] :: [St.ready.v] :: rest, tips⟩ ∧ outOk o rest (outsX acc) Q ∧ ∀ q ∈ Q, q < rest.length + 6 ∧ q ≠ 1
theorem putJ_add {l : List Xt} {x : Xt} {Q : List Nat} {acc : List Xt} {m : Mem} (c : List V) (h : putJ l x Q acc m) : putJ l x (m.boxes.length :: Q) acc { m with boxes := m.boxes ++ [c] } := by
  obtain ⟨o, rest, tips, rfl, ho, hQ⟩ := h
  refine ⟨o, rest ++ [c], tips, by simp, ?_, fun q hq => ?_⟩
  · rcases ho with ho | ⟨j, h1, h2, h3, h4⟩
    · exact .inl ho
    · have hj := lt_of_some h3
      refine .inr ⟨j, h1, h2, by rw [List.getElem?_append_left hj]; exact h3, fun q hq => ?_⟩
      rcases List.mem_cons.1 hq with rfl | hq
      · simp; omega
      · exact h4 q hq
  · rcases List.mem_cons.1 hq with rfl | hq
    · simp
    · have := hQ q hq
      exact ⟨by simp; omega, this.2⟩
def DvcO : Orc := (((((Orc.nil.add n_extmap_Check (sp2 sp_mapOk)).add n_extent_Check (sp1 sp_extOk)).add n_extmap_own (sp1 sp_own)).addL n_extmap_parts sp_partsX).add n_extent_Join (sp2 sp_join))
theorem DvcO_ok : OOk Try.prog DvcO := ((((OOk.nil.add sp_mapOk_ok).add sp_extOk_ok).add sp_own_ok).addL sp_partsX_ok).add sp_join_ok
theorem Pure.ofRB {P : Program} {D : Orc} {own : Nat → Bool} {f : FuncId} {F : F} {args : List V} {r : V} (hD : OOk P D) {al : FuncId → Bool} {wk : List O → Bool} (hm : P.follows .mixedOrders = true) (hF : compF P own f = some F) {tip : Tip} (hn : args.length ≤ F.n) (hres : r.res = true)
    (h : wpB al wk P noY D F.c (argS args) ⟨[], []⟩ (Fin F.rs fun v m => ∃ t, keepN [t] v r ∧ m.tips[t]? = some tip)) : Pure P f args r [tip] :=
  Pure.ofN hm hF hn hres (vwp_mono _ _ _ (fun e s m hq => by
    cases e with
    | normal => obtain ⟨v, h1, t, h2, h3⟩ := hq; exact ⟨v, h1, OutP.one h2 h3⟩
    | ret => obtain ⟨v, h1, t, h2, h3⟩ := hq; exact ⟨v, h1, OutP.one h2 h3⟩
    | _ => exact hq) (wpB_sound hD _ h))
def putOk (n : Int) (l : List Xt) (x : Xt) : Bool := extOk x && decide (x.lba + x.len ≤ n)
theorem isObj_long {l : List V} (h : 2 ≤ l.length) : isObj l = false := by
  unfold isObj
  split
  · simp at h
  · rfl
/-- Behind an iterator's run: a slice in a box stays as it is from then on. -/
theorem LocY.frz {P : Program} {Y : YRel} {f : FuncId} {args : List V} {m m' : Mem} {r : V} (h : LocY P Y f args m r m') {p b n sz lc : Nat} {cs : List V} (hp : m'.boxes[p]? = some [.buf 0 sz n lc b]) (hb : m'.boxes[b]? = some cs) (hne : b ≠ p) (hno : isObj cs = false) (hle : n * sz ≤ cs.length) :
    LocY P Y f args m r { m' with boxes := (m'.boxes.set b deadC).set p [.lit sz (chunkV sz n cs)] } := by
  refine ⟨h.1, fun B I0 w0 M w vals hY hg hr => (h.2 B I0 w0 M w vals hY hg hr).mono fun e w' ⟨x, M', he, hE, hg', hx⟩ => ?_⟩
  obtain ⟨g, hβ⟩ : ∃ g, M'.β[b]? = some g := ⟨_, List.getElem?_eq_getElem (by rw [hg'.lβ]; exact lt_of_some hb)⟩
  obtain ⟨hg2, hr2⟩ := hg'.freeze hβ hb hno
  obtain ⟨f1, f2⟩ := chunkV_flat sz n cs hle
  have hE2 := Mp.plus_ext M' (fun b o => b = g ∧ o < cs.length) w'
  have hg3 := hg2.boxWk (b := p) (cs' := [.lit sz (chunkV sz n cs)]) ((List.getElem?_set_ne hne).trans hp) rfl rfl fun us hus => by
    obtain ⟨y, q, rfl, ⟨g', c, rfl, h1, h2, _, h4, _⟩, h3⟩ := hus
    have e : g' = g := by
      have h4' : M'.β[b]? = some g' := h4
      rw [hβ] at h4'
      exact (Option.some.inj h4').symm
    subst e
    refine ⟨_, q, rfl, .inr ⟨⟨g', 0, none⟩, c, by rw [chunkV_length], by rw [chunkV_length]; omega, .inr rfl, f2, RepX.of_flat ?_⟩, h3⟩
    rw [f1]
    exact hr2.take _
  exact ⟨x, _, he, hE.trans hE2, hg3, hx.mono hE2⟩
theorem wpB_rangeF {al : FuncId → Bool} {wk : List O → Bool} {P : Program} {Y : YRel} {D : Orc} {inr : Bool} {x : X} {ps : List Nat} {a b : C} {s : Nat → V} {m : Mem} {Q : Exit → (Nat → V) → Mem → Prop} : wpB al wk P Y D (.rangeF inr x ps a b) s m Q = ∃ (f : FuncId) (cap : List V) (v : V) (mE : Mem) (st : St), x.ev s = .func f cap ∧
      LocY P (addY Y (loopAt inr m) (roundW s ps (loopAt inr m) (wpB al wk P Y D a) (wpB al wk P Y D b))) f (.yld (loopAt inr m) :: cap) (loopMem inr m) v mE ∧
      mE.boxes[loopAt inr m]? = some [st.v] ∧ st ≠ .busy ∧ Q st.out s mE := rfl
theorem c_PutM (n : Int) (l : List Xt) (x : Xt) (hl : l.length ≤ 2 ^ 40) (h1 : mapOk n l = false) : Pure Try.prog n_extmap_Put [enc n, enc l, enc x] (.tuple [.val (.slice none 0 0), .val (.int .i64 80)]) [] := by
  refine Pure.ofB (al := fun _ => false) (wk := fun _ => false) DvcO_ok hm F_extmap_Put_ok (by simp [F_extmap_Put]) rfl ?_
  simp only [Nat.reducePow] at hl
  simp [F_extmap_Put, DvcO, hl, h1]
theorem mapOk_all {n : Int} {l : List Xt} (h : mapOk n l = true) : ∀ x ∈ l, extOk x = true := by
  simp only [mapOk, Bool.and_eq_true, decide_eq_true_eq] at h
  have := (mapFrom_len h.2).2.2
  rwa [List.all_eq_true] at this
theorem mapOk_len {n : Int} {l : List Xt} (h : mapOk n l = true) : l.length ≤ 64 := by
  have h2 := mapOk_le h
  simp only [mapOk, Bool.and_eq_true, decide_eq_true_eq] at h
  have := (mapFrom_len h.2).1
  omega
theorem c_PutR (n : Int) (l : List Xt) (x : Xt) (h1 : mapOk n l = true) (h2 : putOk n l x = false) : Pure Try.prog n_extmap_Put [enc n, enc l, enc x] (.tuple [.row 0 5 (l.map cs), .val (.int .i64 81)]) [(174, 5, l.length)] := by
  refine Pure.ofRB (al := fun _ => false) (wk := fun _ => false) DvcO_ok hm F_extmap_Put_ok (by simp [F_extmap_Put]) (by simp [V.res, V.res1]) ?_
  have hs := xtS_ok (Nat.le_trans (mapOk_len h1) (by decide)) (mapOk_all h1)
  have hl : l.length ≤ 1099511627776 := by have := mapOk_len h1; omega
  cases hx : extOk x with
  | false => simp [F_extmap_Put, DvcO, hl, h1, hx, hs]
  | true =>
    have hx0 := extOk_iff.1 hx
    have w1 := IntWalk.i64_in (x.lba + x.len) (by omega)
    have h3 : n < x.lba + x.len := by simp [putOk, hx] at h2; exact h2
    simp [F_extmap_Put, DvcO, hl, h1, hx, hs, w1, h3]
theorem c_PutO (n : Int) (l : List Xt) (x : Xt) (h1 : mapOk n l = true) (h2 : putOk n l x = true) : Pure Try.prog n_extmap_Put [enc n, enc l, enc x] (.tuple [.row 0 5 ((outsX (partsX x false l)).map cs), .val (.int .i64 0)]) [(174, 5, (outsX (partsX x false l)).length)] := by
  refine Pure.ofRB (al := fun _ => false) (wk := fun _ => false) DvcO_ok hm F_extmap_Put_ok (by simp [F_extmap_Put]) (by simp [V.res, V.res1]) ?_
  have hll := mapOk_len h1
  have hl : l.length ≤ 1099511627776 := by omega
  simp [putOk] at h2
  have hx0 := extOk_iff.1 h2.1
  have w1 := IntWalk.i64_in (x.lba + x.len) (by omega)
  have h3 := Int.not_lt.2 h2.2
  simp [F_extmap_Put, DvcO, hl, h1, h2, h3, w1, sp_partsX]
  rw [wpB_rangeF]
  generalize hs : put (some 34) _ _ = s
  have s6 : s 6 = .ptr 1 0 := by rw [← hs]; simp
  have s34 : s 34 = .func 219 [.ptr 3 0, .ptr 2 0] := by rw [← hs]; simp
  clear hs
  generalize hY : addY noY _ _ = Y
  have hpl := partsX_len x false l
  have hstep : ∀ Q acc a r m, partsX x false l = acc ++ a :: r → putJ l x Q acc m → ∃ m1, Y 5 (xArg a) m (.val (.bool true)) m1 ∧ (∀ q ∈ Q, m1.boxes[q]? = m.boxes[q]?) ∧ putJ l x Q (acc ++ [a]) m1 := by
    intro Q acc y r m hacc ⟨o, rest, tips, hm0, ho, hQ⟩
    subst hm0
    have hal : acc.length ≤ 200 := by
      have := congrArg List.length hacc
      simp at this
      omega
    have hol := outsX_len acc
    rcases ho with ⟨ho, rfl⟩ | ⟨j, hne, rfl, hj, hjQ⟩
    · refine ⟨⟨cs x :: [.buf 0 5 1 1 (rest.length + 1 + 6)] :: [.lit 5 (l.map cs)] :: cs x :: [St.ready.v] :: [St.ready.v] :: (rest ++ [cs y, cs y]), tips ++ [(174, 5, 1)]⟩, ?_, ?_, ?_⟩
      · rw [← hY]
        refine .inr ⟨rfl, ?_⟩
        simp [roundW, putAll, xArg, loopAt, s6, St.of, St.cont, CutM]
      · intro q hq
        obtain ⟨hq1, hq2⟩ := hQ q hq
        rcases q with _ | _ | _ | _ | _ | _ | q
        · rfl
        · exact absurd rfl hq2
        · rfl
        · rfl
        · rfl
        · rfl
        · show (rest ++ [cs y, cs y])[q]? = rest[q]?
          exact List.getElem?_append_left (by omega)
      · refine ⟨_, _, _, rfl, .inr ⟨rest.length + 1, ?_, ?_, ?_, fun q hq => ?_⟩, fun q hq => ?_⟩
        · rw [outsX_snoc, ho]; simp [addX]
        · rw [outsX_snoc, ho]; simp [addX]
        · rw [outsX_snoc, ho]; simp [addX]
        · have := hQ q hq; omega
        · have := hQ q hq; exact ⟨by simp; omega, this.2⟩
    · obtain ⟨init, z, hz⟩ : ∃ init z, outsX acc = init ++ [z] := by
        rcases List.eq_nil_or_concat (outsX acc) with h | ⟨r, z, h⟩
        · exact absurd h hne
        · exact ⟨r, z, by rw [h, List.concat_eq_append]⟩
      have hol2 : init.length + 1 ≤ 200 := by rw [hz] at hol; simp at hol; omega
      rw [hz] at hj
      have hjl := lt_of_some hj
      have w2 := IntWalk.i64_in (init.length : Int) (by omega)
      have hfl : (init.map cs).flatten.length = init.length * 5 := by
        rw [flatten_length (sz := 5) (fun e he => by obtain ⟨u, _, rfl⟩ := List.mem_map.1 he; rfl), List.length_map]
      obtain ⟨F, hF⟩ : ∃ F, F = (init.map cs).flatten := ⟨_, rfl⟩
      have hjF : rest[j]? = some (F ++ [.val (.int .i64 z.lba), .val (.int .i64 z.len), .val (.int .i64 z.kind), .val (.int .i64 z.gen), .lit 1 (z.data.map cs)]) := by rw [hj, hF]; simp
      rw [← hF] at hfl
      have hob : ∀ a b c d e : V, isObj (F ++ [a, b, c, d, e]) = false := fun a b c d e => isObj_long (by simp)
      have hd0 : ∀ r : List V, (F ++ r).drop (init.length * 5) = r := fun r => List.drop_left' hfl
      have ht0 : ∀ r : List V, (F ++ r).take (init.length * 5) = F := fun r => List.take_left' hfl
      have hd5 : ∀ a b c d e : V, (F ++ [a, b, c, d, e]).drop (init.length * 5 + 5) = [] := fun a b c d e => List.drop_eq_nil_of_le (by simp; omega)
      have f1 : ∀ (b : List (List V)), (rest ++ b)[j]? = rest[j]? := fun b => List.getElem?_append_left hjl
      have f2 : ∀ (b : List (List V)) (v : List V), (rest ++ b).set j v = rest.set j v ++ b := fun b v => List.set_append_left j v hjl
      have f3 : ∀ (b : List (List V)) (v : List V), (rest.set j v ++ b)[j]? = (rest.set j v)[j]? := fun b v => List.getElem?_append_left (by rw [List.length_set]; exact hjl)
      cases hjn : joins z y with
      | true =>
        have hjE : joinE z y = 0 := by simp [joinE, hjn]
        refine ⟨⟨cs x :: [.buf 0 5 (outsX acc).length (outsX acc).length (j + 6)] :: [.lit 5 (l.map cs)] :: cs x :: [St.ready.v] :: [St.ready.v] :: ((rest.set j (F ++ cs (joinX z y))) ++ [cs y, cs (joinX z y)]), tips⟩, ?_, ?_, ?_⟩
        · rw [← hY]
          refine .inr ⟨rfl, ?_⟩
          simp [roundW, putAll, xArg, loopAt, s6, St.of, St.cont, CutM, hz, w2, f1, f2, hjF, hob, hd0, ht0, hd5, hjE]
          exact ⟨by omega, by omega⟩
        · intro q hq
          obtain ⟨hq1, hq2⟩ := hQ q hq
          have hqj := hjQ q hq
          rcases q with _ | _ | _ | _ | _ | _ | q
          · rfl
          · exact absurd rfl hq2
          · rfl
          · rfl
          · rfl
          · rfl
          · show (rest.set j _ ++ [cs y, cs (joinX z y)])[q]? = rest[q]?
            rw [List.getElem?_append_left (by rw [List.length_set]; omega), List.getElem?_set_ne (by omega)]
        · have eo : outsX (acc ++ [y]) = init ++ [joinX z y] := by rw [outsX_snoc, hz, addX_snoc, if_pos hjn]
          refine ⟨_, _, _, rfl, .inr ⟨j, ?_, ?_, ?_, hjQ⟩, fun q hq => ?_⟩
          · rw [eo]; simp
          · rw [eo, hz]; simp
          · rw [eo, f3, List.getElem?_set_self hjl, hF]; simp
          · have := hQ q hq; exact ⟨by simp; omega, this.2⟩
      | false =>
        have hjE : joinE z y = 70 := by simp [joinE, hjn]
        have hjX : joinX z y = Xt.zero := by simp [joinX, hjn]
        refine ⟨⟨cs x :: [.buf 0 5 (init.length + 1 + 1) (init.length + 1 + 1) (rest.length + 2 + 6)] :: [.lit 5 (l.map cs)] :: cs x :: [St.ready.v] :: [St.ready.v] :: ((rest.set j deadC) ++ [cs y, cs (joinX z y), F ++ cs z ++ cs y]), tips ++ [(174, 5, 1)]⟩, ?_, ?_, ?_⟩
        · rw [← hY]
          refine .inr ⟨rfl, ?_⟩
          simp [roundW, putAll, xArg, loopAt, s6, St.of, St.cont, CutM, hz, w2, f1, f2, hjF, hob, hd0, ht0, hd5, hjE]
          refine ⟨by omega, ⟨by omega, by omega⟩, ?_⟩
          rw [List.take_of_length_le (by simp; omega)]
          simp
        · intro q hq
          obtain ⟨hq1, hq2⟩ := hQ q hq
          have hqj := hjQ q hq
          rcases q with _ | _ | _ | _ | _ | _ | q
          · rfl
          · exact absurd rfl hq2
          · rfl
          · rfl
          · rfl
          · rfl
          · show (rest.set j _ ++ [cs y, cs (joinX z y), _])[q]? = rest[q]?
            rw [List.getElem?_append_left (by rw [List.length_set]; omega), List.getElem?_set_ne (by omega)]
        · have eo : outsX (acc ++ [y]) = init ++ [z] ++ [y] := by rw [outsX_snoc, hz, addX_snoc, if_neg (by simp [hjn])]
          refine ⟨_, _, _, rfl, .inr ⟨rest.length + 2, ?_, ?_, ?_, fun q hq => ?_⟩, fun q hq => ?_⟩
          · rw [eo]; simp
          · rw [eo]; simp
          · rw [eo, hF, List.getElem?_append_right (by simp)]; simp
          · have := hQ q hq; omega
          · have := hQ q hq; exact ⟨by simp; omega, this.2⟩
  have hpx := partsX_ok h2.1 false l
  have hJ0 : putJ l x [2, 3] [] ⟨cs x :: [.val (.slice none 0 0)] :: [.lit 5 (l.map cs)] :: cs x :: [St.ready.v] :: [St.ready.v] :: [], []⟩ := by
    refine ⟨_, [], _, rfl, .inl ⟨rfl, rfl⟩, fun q hq => ?_⟩
    simp at hq
    rcases hq with rfl | rfl <;> simp
  obtain ⟨m2, Q2, ht, o, rest, tips, hm2, ho, hQ⟩ := YTr.build (L := 5) (arg := xArg) (J := putJ l x) (partsX x false l) (fun Q acc m c h => putJ_add c h) hstep (partsT x false l) [2, 3] [] _ (by rw [yields_parts]; rfl) hJ0
  have hLY := c_parts1 Y 5 3 2 x l h2.1 (by omega) (mapOk_all h1) _ m2 [2, 3] (by simp) rfl rfl ht
  subst hm2
  have hoo := outsX_ok _ hpx
  have hol := outsX_len (partsX x false l)
  have hxs := xtS_ok (by omega) hoo
  rcases ho with ⟨ho, rfl⟩ | ⟨j, hne, rfl, hj, hjQ⟩
  · refine ⟨_, _, .tuple [], _, .ready, s34, hLY, rfl, by simp, ?_⟩
    rw [show St.ready.out = Exit.normal from rfl]
    have hx0 : xtS [] := ⟨by simp, fun x hx => by cases hx⟩
    simp [s6, ho, hx0]
  · have hfl : ((outsX (partsX x false l)).map cs).flatten.length = (outsX (partsX x false l)).length * 5 := by
      rw [flatten_length (sz := 5) (fun e he => by obtain ⟨u, _, rfl⟩ := List.mem_map.1 he; rfl), List.length_map]
    have hck : chunkV 5 (outsX (partsX x false l)).length ((outsX (partsX x false l)).map cs).flatten = (outsX (partsX x false l)).map cs := by
      have := chunkV_of (sz := 5) ((outsX (partsX x false l)).map cs) (fun e he => by obtain ⟨u, _, rfl⟩ := List.mem_map.1 he; rfl) []
      simpa using this
    refine ⟨_, _, .tuple [], _, .ready, s34, LocY.frz (p := 1) (b := j + 6) hLY rfl hj (by omega) ?_ ?_, ?_, by simp, ?_⟩
    · exact isObj_long (by rw [hfl]; have := List.length_pos_iff.2 hne; omega)
    · rw [hfl]; exact Nat.le_refl _
    · rfl
    · rw [show St.ready.out = Exit.normal from rfl]
      simp [s6, hck, decX_map, hxs]
end Go.Av

namespace Go.Av
open Go.RowKit

/-- What a row's cells may be then: numbers that are no bytes, and bytes in slices. -/
def byteE : List V → Bool
  | [.val (.int .u8 _)] => true
  | _ => false
def meltV : V → Bool
  | .val (.int k _) => decide (k ≠ .u8)
  | .lit 1 ys => ys.all byteE
  | _ => false
section
variable {B : Nat} {I0 : Nat → Nat → Prop} {w0 w wst : World} {M M0 : Mp} {m : Mem}
theorem repX_bytes {M' : Mp} {w : World} : ∀ {ys : List (List V)} {h o : Nat}, ys.all byteE = true → (∀ o' y, M.I h o' → w.cell? ⟨h, o', none⟩ = some y → (∃ k, y = .int .u8 k) → M'.I h o') → RepX M w ys h o → RepX M' w ys h o
  | [], _, _, _, _, _ => trivial
  | e :: ys, h, o, hb, hI, hr => by
    simp only [List.all_cons, Bool.and_eq_true] at hb
    obtain ⟨h1, h2⟩ := hr
    refine ⟨?_, repX_bytes hb.2 hI h2⟩
    have hb1 := hb.1
    unfold byteE at hb1
    split at hb1
    · rename_i k
      obtain ⟨⟨x, k1, k2, k3, k4⟩, _⟩ := h1
      have k4' := k4
      obtain ⟨rfl, _⟩ := k4
      exact ⟨⟨_, hI _ _ k1 k2 ⟨_, rfl⟩, k2, k3, k4'⟩, trivial⟩
    · cases hb1
theorem rep_melt {M' : Mp} {w : World} {v : V} {x : Value} (hv : meltV v = true) (hI : ∀ h o y, M.I h o → w.cell? ⟨h, o, none⟩ = some y → (∃ k, y = .int .u8 k) → M'.I h o) (hr : Rep M w v x) : Rep M' w v x := by
  unfold meltV at hv
  split at hv
  · exact hr
  · rcases hr with hr | ⟨ad, c, rfl, h1, h2, h3, h4⟩
    · exact .inl hr
    · exact .inr ⟨ad, c, rfl, h1, h2, h3, repX_bytes hv (fun o' y => hI _ o' y) h4⟩
  · cases hv
theorem melt_nob {v : V} {x : Value} (hv : meltV v = true) (hr : Rep M w v x) : ¬ ∃ k, x = .int .u8 k := by
  rintro ⟨k, rfl⟩
  unfold meltV at hv
  split at hv
  · obtain ⟨h, _⟩ := hr
    cases h
    simp at hv
  · rcases hr with ⟨_, h⟩ | ⟨ad, c, h, _⟩ <;> cases h
  · cases hv
end
structure MeltOk (s : Nat → V) (m : Mem) (d t : Nat) (e : TypeId) (sz : Nat) (xs : List (List V)) : Prop where
  sl : s d = .row t sz xs
  tip : m.tips[t]? = some (e, sz, xs.length)
  ne : xs ≠ []
  cells : xs.flatten.all meltV = true
  boxes : ∀ cs ∈ m.boxes, isObj cs = false
section
variable {P : Program} {D : Orc} {own : Nat → Bool} {f : FuncId} {F : F} {args : List V}
end
end Go.Av

namespace Go.Av
open Go.RowKit

/-- Of a function's answer no row is left: it is as it is. -/
theorem Pure.locC {P : Program} {f : FuncId} {args args' : List V} {r : V} {tips : List Tip} (hW : WkL args args') (hcl : cleanL args' = true) (h : Pure P f args' r tips) (hc : r.top.isClean = true) (m : Mem) : Loc P f args m r.top m := by
  obtain ⟨hca, hres, h3⟩ := h
  refine ⟨hca, fun B I0 w0 M w vals hg hr => ?_⟩
  have hr' : RepL ⟨[], [], M.I, fun _ => none, fun _ => 0⟩ w args' vals.toList := RepL.clean (M := M) (M' := ⟨[], [], M.I, fun _ => none, fun _ => 0⟩) (fun _ _ h => h) _ _ hcl (hW _ _ _ hr)
  refine (h3 M.I w vals hg.ilt hr').mono fun e w' ⟨x, M1, he, h1, hx1⟩ => ?_
  have hb := h1.below
  obtain ⟨hg2, hE2⟩ := (hg.grow hb).addI (fun b o => M1.I b o ∧ w.heap.size ≤ b) (fun b o hJ => ⟨Nat.le_trans hg.sizeB hJ.2, h1.ilt b o hJ.1, fun i hi => absurd (hg.βlt (List.mem_of_getElem? hi)).1 (by omega), fun t G x hG hx => by have := (hg.gen t G x hG hx).2.1; omega⟩)
  refine ⟨x, _, he, (hg.ext hb).trans hE2, hg2, Rep.clean (M := M1) (M' := { M with I := fun b o => M.I b o ∨ (M1.I b o ∧ w.heap.size ≤ b) }) (fun b o hI => ?_) _ _ hc hx1.top⟩
  rcases h1.i1 b o hI with k | k
  · exact .inl k
  · exact .inr ⟨hI, k⟩
theorem Pure.thawR {P : Program} {f : FuncId} {args args' : List V} {sz ty : Nat} {xs : List (List V)} (hW : WkL args args') (hcl : cleanL args' = true)
    (h : Pure P f args' (.row 0 sz xs) [(ty, sz, xs.length)]) (hx : xs.flatten.all meltV = true) (hne : xs ≠ []) (m : Mem) :
    Loc P f args m (.ref (.sli 0 sz xs.length) m.boxes.length) { m with boxes := m.boxes ++ [xs.flatten] } := by
  obtain ⟨hc, hres, h3⟩ := h
  refine ⟨hc, fun B I0 w0 M w vals hg hr => ?_⟩
  have hr' : RepL ⟨[], [], M.I, fun _ => none, fun _ => 0⟩ w args' vals.toList := RepL.clean (M := M) (M' := ⟨[], [], M.I, fun _ => none, fun _ => 0⟩) (fun _ _ h => h) _ _ hcl (hW _ _ _ hr)
  refine (h3 M.I w vals hg.ilt hr').mono fun e w' ⟨x, M1, he, h1, hx1⟩ => ?_
  obtain ⟨G, hG, hy⟩ := hx1
  rcases hy with ⟨h0, _⟩ | ⟨g, c, hyv, hnc, hsz, hX, hin⟩
  · exact absurd h0 hne
  have hn0 : 0 < xs.length := List.length_pos_iff.2 hne
  have hgen := h1.gen 0 G _ hG hin
  simp only at hgen
  have hfl : xs.flatten.length = xs.length * sz := flatten_length hsz
  have hblk : ∃ cur, w'.heap[g]? = some (.cells cur ty (0, 0)) ∧ cur.size = c * sz ∧ ∀ o, M1.I g o → o < xs.flatten.length := by
    rcases h1.row 0 G ty sz xs.length hG rfl with ⟨h0, _⟩ | ⟨g1, c1, us, a1, a2, a3, a4⟩
    · omega
    · obtain ⟨_, a5⟩ := a2 _ hin
      have := a5 rfl
      cases this
      rcases a3.2 with ⟨_, b1⟩ | ⟨g2, c2, cur, b1, b2, b3, b4, b5, b6, b7⟩
      · omega
      · cases b1
        exact ⟨cur, b3, b6, by rw [hfl]; exact a4⟩
  obtain ⟨cur, hh, hcs, hIg⟩ := hblk
  have hle : xs.flatten.length ≤ cur.size := by rw [hfl, hcs]; exact Nat.mul_le_mul_right _ hnc
  have hb := h1.below
  have hmv : ∀ v ∈ xs.flatten, meltV v = true := List.all_eq_true.1 hx
  have hcell : ∀ i v, xs.flatten[i]? = some v → ∃ x, cur[i]? = some x ∧ x.oneCell' = true ∧ Rep M1 w' v x := fun i v hi => by
    obtain ⟨x, _, k2, k3, k4⟩ := hX.flat.get hi
    simp only [World.cell?, Nat.zero_add, hh] at k2
    exact ⟨x, by simpa using k2, k3, k4⟩
  obtain ⟨hg2, hE2⟩ := (hg.grow hb).addI (fun b o => M1.I b o ∧ w.heap.size ≤ b ∧ b ≠ g) (fun b o hJ => ⟨Nat.le_trans hg.sizeB hJ.2.1, h1.ilt b o hJ.1, fun i hi => absurd (hg.βlt (List.mem_of_getElem? hi)).1 (by omega), fun t G x hG hx => by have := (hg.gen t G x hG hx).2.1; omega⟩)
  have hIn : ∀ h o y, M1.I h o → w'.cell? ⟨h, o, none⟩ = some y → (∃ k, y = .int .u8 k) → M.I h o ∨ (M1.I h o ∧ w.heap.size ≤ h ∧ h ≠ g) := fun h o y hI hc hu => by
    rcases h1.i1 h o hI with k | k
    · exact .inl k
    · refine .inr ⟨hI, k, fun e => ?_⟩
      subst e
      have ho := hIg o hI
      obtain ⟨z, k1, k2, k3⟩ := hcell o _ (List.getElem?_eq_getElem ho)
      simp only [World.cell?, hh] at hc
      have hc' : cur[o]? = some y := by simpa using hc
      rw [k1] at hc'
      cases hc'
      exact melt_nob (hmv _ (List.getElem_mem ho)) k3 hu
  have hnβ : g ∉ M.β := fun hm => by have := (hg.βlt hm).1; omega
  have htk : (cur.toList.take xs.flatten.length).length = xs.flatten.length := by rw [List.length_take]; exact Nat.min_eq_left (by simpa using hle)
  have hbr : BoxRep { M with I := fun b o => M.I b o ∨ (M1.I b o ∧ w.heap.size ≤ b ∧ b ≠ g) } M.β.length w' xs.flatten (.cells cur ty (0, 0)) := by
    refine .inl ⟨hg.κnone, cur, ty, rfl, hle, RepL.of_get htk (fun i v z hv hz => ?_), fun z hz => ?_⟩
    · obtain ⟨x, k1, k2, k3⟩ := hcell i v hv
      rw [List.getElem?_take, if_pos (lt_of_some hv)] at hz
      have hz' : cur[i]? = some z := by simpa using hz
      rw [k1] at hz'
      cases hz'
      exact rep_melt (hmv v (List.mem_of_getElem? hv)) hIn k3
    · obtain ⟨i, hi⟩ := List.getElem?_of_mem hz
      have hil := lt_of_some hi
      rw [htk] at hil
      obtain ⟨x, k1, k2, _⟩ := hcell i _ (List.getElem?_eq_getElem hil)
      rw [List.getElem?_take, if_pos hil] at hi
      have hz' : cur[i]? = some z := by simpa using hi
      rw [k1] at hz'
      cases hz'
      exact k2
  have hg3 := hg2.addBox (g := g) hh (Nat.le_trans hg.sizeB hgen.1) hnβ (fun o hI => hI.elim (fun k => by have := hg.ilt g o k; omega) (fun k => k.2.2 rfl)) (fun t G x hG hx he => by have := (hg.gen t G x hG hx).2.1; omega) hbr
  refine ⟨_, _, he, ((hg.ext hb).trans hE2).trans (Mp.addB_ext _ g w'), hg3, ⟨g, c, hyv, hnc, ?_⟩⟩
  simp [Mp.addB, Mp.addZ, hg.lβ]
end Go.Av

namespace Go.Av.Pl
/-- What is behind some of them, and the error; 'l0' if one may not be laid. -/
def layGo (n : Int) (l0 : List Xt) : List Xt → List Xt → List Xt × Int
  | out, [] => (out, 0)
  | out, x :: r => if mapOk n out = false then (l0, 80) else if putOk n out x = true then layGo n l0 (outsX (partsX x false out)) r else (l0, 81)
def layR (n : Int) (l over : List Xt) : List Xt × Int := if mapOk n l = false then ([], 80) else layGo n l l over
end Go.Av.Pl
namespace Go.Av
open Enc (enc dec)
open Cel (cs dc)
open Go.Proofs Pl

@[simp] def sp_xput (n : Int) (l : List Xt) (x : Xt) : Option (V × List Tip) := if l.length ≤ 2 ^ 40 then
    (if mapOk n l = false then some (.tuple [.val (.slice none 0 0), .val (.int .i64 80)], []) else if putOk n l x = true then some (.tuple [.row 0 5 ((outsX (partsX x false l)).map cs), .val (.int .i64 0)], [(174, 5, (outsX (partsX x false l)).length)]) else some (.tuple [.row 0 5 (l.map cs), .val (.int .i64 81)], [(174, 5, l.length)])) else none
theorem sp_xput_ok : EOk Try.prog n_extmap_Put (sp3 sp_xput) := sp3_ok fun n l x r h => by
  simp only [sp_xput] at h
  split at h
  · rename_i hl
    split at h
    · rename_i h1
      cases h
      exact c_PutM n l x hl h1
    · rename_i h1
      have h1 : mapOk n l = true := by simpa using h1
      split at h
      · rename_i h2
        cases h
        exact c_PutO n l x h1 h2
      · rename_i h2
        cases h
        exact c_PutR n l x h1 (by simpa using h2)
  · cases h
def DveO : Orc := ((Orc.nil.add n_extmap_Check (sp2 sp_mapOk)).add n_extmap_own (sp1 sp_own)).add n_extmap_Put (sp3 sp_xput)
theorem DveO_ok : OOk Try.prog DveO := ((OOk.nil.add sp_mapOk_ok).add sp_own_ok).add sp_xput_ok
def LayJ (n : Int) (l over : List Xt) (k : Nat) (s : Nat → V) (m : Mem) : Prop :=
  ∃ (i t : Nat) (bx : List (List V)) (tips : List Tip) (out : List Xt), i + k = over.length ∧ layGo n l l over = layGo n l out (over.drop i) ∧ out.length ≤ 2 ^ 20 ∧ s 0 = .val (.int .i64 n) ∧ s 1 = .lit 5 (l.map cs) ∧ s 2 = .lit 5 (over.map cs) ∧ s 8 = .row t 5 (out.map cs) ∧ s 9 = .val (.int .i64 i) ∧ m = ⟨bx, tips⟩ ∧ tips[t]? = some (174, 5, out.length)
theorem c_Lay (n : Int) (l over : List Xt) (hl : l.length ≤ 2 ^ 40) (hov : over.length ≤ 2 ^ 40) : Pure Try.prog n_extmap_Lay [enc n, enc l, enc over] (.tuple [.row 0 5 ((layR n l over).1.map cs), enc (layR n l over).2]) [(174, 5, (layR n l over).1.length)] := by
  refine Pure.ofR DveO_ok hm F_extmap_Lay_ok (by simp [F_extmap_Lay]) (by simp [V.res, V.res1]) ?_
  simp only [Nat.reducePow] at hl hov
  simp [F_extmap_Lay]
  cases h1 : mapOk n l with
  | false =>
    refine wp_jumps (fun _ _ _ => False) ?_ (fun _ _ _ h => h.elim)
    simp [F_extmap_Lay_S0, DveO, hl, h1, layR]
  | true =>
    have hll := mapOk_len h1
    have hxs := xtS_ok (Nat.le_trans hll (by decide)) (mapOk_all h1)
    have hR : layR n l over = layGo n l l over := by simp [layR, h1]
    rw [hR]
    have rest : ∀ k s m, LayJ n l over k s m → wp Try.prog noY DveO F_extmap_Lay_B0 s m (jumpQ 0 (fun s m => ∃ j, j < k ∧ IW (LayJ n l over j) s m) (Fin [.tmp 6, .tmp 7] fun v m => ∃ t, keepN [t] v (.tuple [.row 0 5 ((layGo n l l over).1.map cs), enc (layGo n l l over).2]) ∧ m.tips[t]? = some (174, 5, (layGo n l l over).1.length))) := by
      intro k s m ⟨i, t, bx, tips, out, hik, hgo, hol, s0, s1, s2, s8, s9, hm, ht⟩
      subst hm
      have hol' : out.length ≤ 1048576 := hol
      have hol2 : out.length ≤ 1099511627776 := by omega
      rw [hgo]
      by_cases hi : i < over.length
      · have w1 := IntWalk.i64_in ((i : Int) + 1) (by omega)
        have hie : ¬ (i : Int) = over.length := by omega
        have hg : over[i]? = some over[i] := List.getElem?_eq_getElem hi
        obtain ⟨x, hx⟩ : ∃ x, x = over[i] := ⟨_, rfl⟩
        rw [List.drop_eq_getElem_cons hi, ← hx] at hgo ⊢
        have htl := lt_of_some ht
        cases h2 : mapOk n out with
        | false =>
          have e : layGo n l out (x :: over.drop (i + 1)) = (l, 80) := by simp [layGo, h2]
          rw [e]
          simp [F_extmap_Lay_B0, DveO, s0, s1, s2, s8, s9, hi, hie, hg, ← hx, h2, hol2, hxs]
        | true =>
          cases h3 : putOk n out x with
          | false =>
            have e : layGo n l out (x :: over.drop (i + 1)) = (l, 81) := by simp [layGo, h2, h3]
            rw [e]
            simp [F_extmap_Lay_B0, DveO, s0, s1, s2, s8, s9, hi, hie, hg, ← hx, h2, h3, hol2, hxs]
          | true =>
            have e : layGo n l out (x :: over.drop (i + 1)) = layGo n l (outsX (partsX x false out)) (over.drop (i + 1)) := by simp [layGo, h2, h3]
            have o1 := outsX_len (partsX x false out)
            have o2 := partsX_len x false out
            have o3 := mapOk_len h2
            simp [F_extmap_Lay_B0, DveO, s0, s1, s2, s8, s9, hi, hie, hg, ← hx, h2, h3, hol2, hxs, w1]
            refine ⟨k - 1, by omega, IW.of ⟨i + 1, tips.length, _, _, outsX (partsX x false out), by omega, by rw [hgo, e], by omega, by simpa using s0, by simpa using s1, by simpa using s2, by simp, by simp, rfl, by simp⟩⟩
      · have hil : i = over.length := by omega
        subst hil
        rw [List.drop_length, layGo]
        simp [F_extmap_Lay_B0, DveO, s0, s1, s2, s8, s9]
        exact ht
    refine wp_jumps (LayJ n l over) ?_ ?_
    · simp [F_extmap_Lay_S0, DveO, hl, h1, hxs]
      refine wp_mono _ (fun e s m h => ?_) (rest over.length _ _ ⟨0, 1, _, _, l, by omega, by rw [List.drop_zero], by omega, by simp, by simp, by simp, by simp, by simp, rfl, rfl⟩)
      cases e with
      | goto l => exact ⟨h.1, h.2.elim fun j hj => ⟨j, hj.2⟩⟩
      | _ => exact h
    · intro k s m hJ
      simp [F_extmap_Lay_J0]
      exact rest k s m hJ
@[simp] def sp_lay (n : Int) (l over : List Xt) : Option (V × List Tip) := if l.length ≤ 2 ^ 40 ∧ over.length ≤ 2 ^ 40 then some (.tuple [.row 0 5 ((layR n l over).1.map cs), enc (layR n l over).2], [(174, 5, (layR n l over).1.length)]) else none
theorem sp_lay_ok : EOk Try.prog n_extmap_Lay (sp3 sp_lay) := sp3_ok fun n l o r h => by
  simp only [sp_lay] at h
  split at h <;> cases h
  rename_i h
  exact c_Lay n l o h.1 h.2
end Go.Av

namespace Go.Av
open Enc (enc dec)
open Cel (cs dc)
open Go.Proofs Pl

mutual
theorem under_mono {k j k' j' : Nat} (hk : k ≤ k') (hj : j ≤ j') : ∀ v : V, v.under k j = true → v.under k' j' = true
  | .val _, _ => rfl
  | .agg l, h => underL_mono hk hj l h
  | .lit _ xs, h => underX_mono hk hj xs h
  | .full _ xs, h => underX_mono hk hj xs h
  | .emp _, _ => rfl
  | .any, _ => rfl
  | .anyc, _ => rfl
  | .row t _ xs, h => by
    simp only [V.under, Bool.and_eq_true, decide_eq_true_eq] at h ⊢
    exact ⟨by omega, underX_mono hk hj xs h.2⟩
  | .ptr b _, h => by simp only [V.under, decide_eq_true_eq] at h ⊢; omega
  | .eptr l, h => underL_mono hk hj l h
  | .func _ l, h => underL_mono hk hj l h
  | .iface _ v, h => under_mono hk hj v h
  | .tuple l, h => underL_mono hk hj l h
  | .yld b, h => by simp only [V.under, decide_eq_true_eq] at h ⊢; omega
  | .ref _ b, h => by simp only [V.under, decide_eq_true_eq] at h ⊢; omega
  | .alts _, _ => rfl
  | .buf _ _ _ _ b, h => by simp only [V.under, decide_eq_true_eq] at h ⊢; omega
theorem underL_mono {k j k' j' : Nat} (hk : k ≤ k') (hj : j ≤ j') : ∀ l : List V, underL k j l = true → underL k' j' l = true
  | [], _ => rfl
  | v :: l, h => by
    simp only [underL, Bool.and_eq_true] at h ⊢
    exact ⟨under_mono hk hj v h.1, underL_mono hk hj l h.2⟩
theorem underX_mono {k j k' j' : Nat} (hk : k ≤ k') (hj : j ≤ j') : ∀ l : List (List V), underX k j l = true → underX k' j' l = true
  | [], _ => rfl
  | e :: l, h => by
    simp only [underX, Bool.and_eq_true] at h ⊢
    exact ⟨underL_mono hk hj e h.1, underX_mono hk hj l h.2⟩
end
mutual
theorem cl_under (k j : Nat) : ∀ v : V, v.isClean = true → v.under k j = true
  | .val _, _ => rfl
  | .agg l, h => clL_under k j l h
  | .lit _ xs, h => clX_under k j xs h
  | .full _ xs, h => clX_under k j xs h
  | .emp _, _ => rfl
  | .any, _ => rfl
  | .anyc, _ => rfl
  | .row _ _ _, h => by simp [V.isClean] at h
  | .ptr _ _, h => by simp [V.isClean] at h
  | .eptr l, h => clL_under k j l h
  | .func _ l, h => clL_under k j l h
  | .iface _ v, h => cl_under k j v h
  | .tuple l, h => clL_under k j l h
  | .yld _, h => by simp [V.isClean] at h
  | .ref _ _, h => by simp [V.isClean] at h
  | .alts _, _ => rfl
  | .buf _ _ _ _ _, h => by simp [V.isClean] at h
theorem clL_under (k j : Nat) : ∀ l : List V, cleanL l = true → underL k j l = true
  | [], _ => rfl
  | v :: l, h => by
    simp only [cleanL, Bool.and_eq_true] at h
    simp only [underL, Bool.and_eq_true]
    exact ⟨cl_under k j v h.1, clL_under k j l h.2⟩
theorem clX_under (k j : Nat) : ∀ l : List (List V), cleanX l = true → underX k j l = true
  | [], _ => rfl
  | e :: l, h => by
    simp only [cleanX, Bool.and_eq_true] at h
    simp only [underX, Bool.and_eq_true]
    exact ⟨clL_under k j e h.1, clX_under k j l h.2⟩
end
theorem under_csX {α : Type} [Cel α] (k j : Nat) (l : List α) : underX k j (l.map cs) = true := clX_under k j _ (clean_cs l)
/-- A slice in a box is as it is from now on. -/
theorem Wkn.frz {s : Nat → V} {m : Mem} {d b n sz : Nat} {cs : List V} (hs : s d = .ref (.sli 0 sz n) b) (hb : m.boxes[b]? = some cs) (hno : isObj cs = false) (hle : n * sz ≤ cs.length) :
    Wkn s m (put (some d) (.lit sz (chunkV sz n cs)) s) { m with boxes := m.boxes.set b deadC } := by
  intro B I0 w0 M0 wst q a w ⟨M, h1, h2, h3, h4⟩
  have hr := h3.2 d
  rw [hs] at hr
  obtain ⟨g, c, hx, hc, hβ⟩ := hr
  obtain ⟨hg2, hr2⟩ := h2.freeze hβ hb hno
  obtain ⟨f1, f2⟩ := chunkV_flat sz n cs hle
  have hE2 := Mp.plus_ext M (fun b o => b = g ∧ o < cs.length) w
  have h3' := h3.mono hE2
  refine ⟨_, h1.trans hE2, hg2, ⟨h3.1, fun t => ?_⟩, h4⟩
  show Rep _ w (if t = d then _ else s t) _
  split
  · rename_i e
    subst e
    rw [hx]
    refine .inr ⟨⟨g, 0, none⟩, c, by rw [chunkV_length]; rfl, by rw [chunkV_length]; exact hc, .inr rfl, f2, RepX.of_flat ?_⟩
    rw [f1]
    exact hr2.take _
  · exact h3'.2 t
theorem IW.frz {I : (Nat → V) → Mem → Prop} {s : Nat → V} {m : Mem} (d : Nat) {b n sz : Nat} {cs : List V} (hs : s d = .ref (.sli 0 sz n) b) (hb : m.boxes[b]? = some cs) (hno : isObj cs = false) (hle : n * sz ≤ cs.length)
    (h : I (put (some d) (.lit sz (chunkV sz n cs)) s) { m with boxes := m.boxes.set b deadC }) : IW I s m := ⟨_, _, Wkn.frz hs hb hno hle, h⟩
theorem chunk_cs {α : Type} [Cel α] (l : List α) : chunkV (Cel.sz α) l.length (l.map cs).flatten = l.map cs := by
  have := chunkV_of (sz := Cel.sz α) (l.map cs) (fun e he => by obtain ⟨u, _, rfl⟩ := List.mem_map.1 he; exact Cel.len u) []
  simpa using this
theorem flat_cs {α : Type} [Cel α] (l : List α) : (l.map cs).flatten.length = l.length * Cel.sz α := by
  rw [flatten_length (sz := Cel.sz α) (fun e he => by obtain ⟨u, _, rfl⟩ := List.mem_map.1 he; exact Cel.len u), List.length_map]
theorem xt_melt (l : List Xt) : (l.map cs).flatten.all meltV = true := by
  rw [List.all_eq_true]
  intro v hv
  obtain ⟨e, he, hv⟩ := List.mem_flatten.1 hv
  obtain ⟨x, _, rfl⟩ := List.mem_map.1 he
  simp at hv
  rcases hv with rfl | rfl | rfl | rfl | rfl
  · rfl
  · rfl
  · rfl
  · rfl
  · show (x.data.map cs).all byteE = true
    rw [List.all_eq_true]
    intro e he
    obtain ⟨b, _, rfl⟩ := List.mem_map.1 he
    rfl
/-- Extents copied to a box. -/
def sp_extB : List V → Mem → Option (V × Mem)
  | [v], m => (dec v : Option (List Xt)).bind fun l => if xtS l then (if l = [] then some (.lit 5 [], m) else some (.ref (.sli 0 5 l.length) m.boxes.length, { m with boxes := m.boxes ++ [(l.map cs).flatten] })) else none
  | _, _ => none
theorem sp_extB_ok : EOkL Try.prog n_state_extents sp_extB := by
  intro args m v m' h
  unfold sp_extB at h
  split at h
  · rename_i a m1
    simp only [Option.bind_eq_some_iff] at h
    obtain ⟨l, hl, h⟩ := h
    split at h
    · rename_i hs
      split at h
      · rename_i h0
        cases h
        subst h0
        exact Pure.locC (wk_dec wk_nil hl) (by simp [Enc.cl]) (c_extents [] hs) rfl m
      · rename_i h0
        cases h
        have := Pure.thawR (wk_dec wk_nil hl) (by simp [Enc.cl]) (sz := 5) (ty := 174) (xs := l.map cs) (f := n_state_extents) (P := Try.prog) (by simpa using c_extents l hs) (xt_melt l) (by simpa using h0) m
        simpa using this
    · cases h
  · cases h
/-- Of one generation. -/
def setG (g : Int) (x : Xt) : Xt := ⟨x.lba, x.len, x.kind, g, x.data⟩
def VlI (m0 : Mem) (p : Nat) (g : Int) (over : List Xt) (k : Nat) (s : Nat → V) (m : Mem) : Prop :=
  ∃ i : Nat, i + k = over.length ∧ s 0 = .ptr p 0 ∧ s 12 = .val (.int .i64 over.length) ∧ s 13 = .val (.int .i64 i) ∧
    (i < over.length → s 5 = .ref (.sli 0 5 over.length) m0.boxes.length ∧ m = ⟨m0.boxes ++ [(((over.take i).map (setG g)).map cs).flatten ++ ((over.drop i).map cs).flatten], m0.tips⟩) ∧
    (i = over.length → s 5 = .lit 5 ((over.map (setG g)).map cs) ∧ ∃ ex, m = ⟨m0.boxes ++ ex, m0.tips⟩)
def DvfO : Orc := (Orc.nil.addL n_state_extents sp_extB).add n_extmap_Lay (sp3 sp_lay)
theorem DvfO_ok : OOk Try.prog DvfO := (OOk.nil.addL sp_extB_ok).add sp_lay_ok
theorem c_vlay0 (m : Mem) (p : Nat) (b g la : Int) (cm cp ct : V) (M over : List Xt) (hp : m.boxes[p]? = some [.val (.int .i64 b), .val (.int .i64 g), cm, cp, .val (.int .i64 la), ct]) (hM : dec cm = some M) (hMl : M.length ≤ 2 ^ 40) (hov : xtS over) (he : (layR b M (over.map (setG g))).2 = 0) :
    Loc Try.prog n_volume_lay [.ptr p 0, enc over] m (.val (.int .i64 0))
      ⟨m.boxes.set p [.val (.int .i64 b), .val (.int .i64 g), .row m.tips.length 5 ((layR b M (over.map (setG g))).1.map cs), cp, .val (.int .i64 la), ct], m.tips ++ [(174, 5, (layR b M (over.map (setG g))).1.length)]⟩ := by
  refine Loc.ofC DvfO_ok hm F_volume_lay_ok (by simp [F_volume_lay]) (.inl rfl) m.boxes.length (m.tips.length + 1) (Nat.le_refl _) (by omega) fun hu => ?_
  have hpl : p < m.boxes.length := lt_of_some hp
  have hovl := hov.1
  simp only [Nat.reducePow] at hovl hMl
  obtain ⟨f1, f2, f3, f4, f5, f6, f7⟩ := box_facts hpl
  simp [F_volume_lay, DvfO, sp_extB, decX_map, hov]
  have hpg : ∀ ex : List (List V), (m.boxes ++ ex)[p]? = some [.val (.int .i64 b), .val (.int .i64 g), cm, cp, .val (.int .i64 la), ct] := fun ex => by rw [f1, hp]
  refine ⟨fun h0 => wp_loop (VlI m p g over) over.length ?i1 ?s1, fun h0 => wp_loop (VlI m p g over) over.length ?i2 ?s2⟩
  case i1 => 
    subst h0
    exact IW.of ⟨0, rfl, by simp, by simp, by simp, fun h => absurd h (Nat.lt_irrefl _), fun _ => ⟨by simp, [], by simp⟩⟩
  case i2 =>
    have hpos : 0 < over.length := List.length_pos_iff.2 h0
    exact IW.of ⟨0, by omega, by simp, by simp, by simp, fun h => ⟨by simp, by simp⟩, fun h => by omega⟩
  case s1 | s2 =>
    intro k s m1 ⟨i, hik, s0, s12, s13, hlt, hge⟩
    by_cases hi : i < over.length
    · obtain ⟨s5, hm1⟩ := hlt hi
      have w1 := IntWalk.i64_in ((i : Int) + 1) (by omega)
      obtain ⟨A, hA⟩ : ∃ A, A = (((over.take i).map (setG g)).map cs).flatten := ⟨_, rfl⟩
      obtain ⟨R, hR⟩ : ∃ R, R = ((over.drop (i + 1)).map cs).flatten := ⟨_, rfl⟩
      have hAl : A.length = i * 5 := by rw [hA, flat_cs, List.length_map, List.length_take, Nat.min_eq_left (by omega)]; rfl
      obtain ⟨x, hx⟩ : ∃ x, x = over[i] := ⟨_, rfl⟩
      rw [List.drop_eq_getElem_cons hi, ← hx, ← hA, List.map_cons, List.flatten_cons, ← hR] at hm1
      have hob : ∀ r : List V, isObj (A ++ (.val (.int .i64 x.lba) :: .val (.int .i64 x.len) :: r)) = false := fun r => isObj_long (by simp; omega)
      have ht3 : ∀ a b c (r : List V), (A ++ (a :: b :: c :: r)).take (i * 5 + 3) = A ++ [a, b, c] := fun a b c r => by rw [← hAl, List.take_length_add_append]; rfl
      have hd4 : ∀ a b c d (r : List V), (A ++ (a :: b :: c :: d :: r)).drop (i * 5 + 4) = r := fun a b c d r => by
        have : A ++ (a :: b :: c :: d :: r) = (A ++ [a, b, c, d]) ++ r := by simp
        rw [this]
        exact List.drop_left' (by simp [hAl])
      subst hm1
      simp [F_volume_lay_L0, s0, s5, s12, s13, hi, hpg, hob, ht3, hd4, w1]
      refine ⟨by omega, k - 1, by omega, ?_⟩
      have e1 : (((over.take (i + 1)).map (setG g)).map cs).flatten = A ++ [.val (.int .i64 x.lba), .val (.int .i64 x.len), .val (.int .i64 x.kind), .val (.int .i64 g), .lit 1 (x.data.map cs)] := by
        rw [List.take_add_one, List.getElem?_eq_getElem hi, ← hx, hA]
        simp [setG]
      by_cases hi1 : i + 1 < over.length
      · refine IW.of ⟨i + 1, by omega, by simp [s0], by simp [s12], by simp, fun _ => ⟨by simp [s5], ?_⟩, fun h => by omega⟩
        rw [e1, ← hR]
        simp
      · have hi2 : i + 1 = over.length := by omega
        have hR0 : R = [] := by rw [hR, hi2]; simp
        have hc := chunk_cs (over.map (setG g))
        rw [hi2, List.take_length] at e1
        rw [e1, List.length_map] at hc
        rw [hR0]
        refine IW.frz 5 (b := m.boxes.length) (n := over.length) (sz := 5) (cs := A ++ [.val (.int .i64 x.lba), .val (.int .i64 x.len), .val (.int .i64 x.kind), .val (.int .i64 g), .lit 1 (x.data.map cs)]) (by simp [s5]) (by simp) (hob _) (by simp [hAl]; omega) ⟨i + 1, by omega, by simp [s0], by simp [s12], by simp, fun h => by omega, fun _ => ⟨?_, [deadC], by simp⟩⟩
        rw [← hc]
        simp
    · obtain ⟨s5, ex, hm1⟩ := hge (by omega)
      subst hm1
      have hdx : decX (over.map (cs ∘ setG g)) = some (over.map (setG g)) := by rw [← List.map_map]; exact decX_map _
      simp [F_volume_lay_L0, s0, s5, s12, s13, hi, hpg, hM, hdx, hMl, hovl, he, f2]
      have hub := underX_iff.1 hu _ (List.mem_of_getElem? hp)
      simp only [underL, V.under, Bool.and_eq_true] at hub
      refine ⟨underX_set (underX_mono (Nat.le_refl _) (Nat.le_succ _) _ hu) ?_, by rw [List.take_of_length_le (by simp)]⟩
      simp only [underL, V.under, Bool.and_eq_true, decide_eq_true_eq]
      exact ⟨trivial, trivial, ⟨by omega, under_csX _ _ _⟩, under_mono (Nat.le_refl _) (Nat.le_succ _) _ hub.2.2.2.1, trivial, under_mono (Nat.le_refl _) (Nat.le_succ _) _ hub.2.2.2.2.2.1, trivial⟩
theorem c_vlay1 (m : Mem) (p : Nat) (b g la : Int) (cm cp ct : V) (M over : List Xt) (hp : m.boxes[p]? = some [.val (.int .i64 b), .val (.int .i64 g), cm, cp, .val (.int .i64 la), ct]) (hM : dec cm = some M) (hMl : M.length ≤ 2 ^ 40) (hov : xtS over) (he : ¬ (layR b M (over.map (setG g))).2 = 0) :
    Loc Try.prog n_volume_lay [.ptr p 0, enc over] m (.val (.int .i64 (layR b M (over.map (setG g))).2)) m := by
  refine Loc.ofC DvfO_ok hm F_volume_lay_ok (by simp [F_volume_lay]) (.inl rfl) m.boxes.length m.tips.length (Nat.le_refl _) (Nat.le_refl _) fun hu => ?_
  have hpl : p < m.boxes.length := lt_of_some hp
  have hovl := hov.1
  simp only [Nat.reducePow] at hovl hMl
  obtain ⟨f1, f2, f3, f4, f5, f6, f7⟩ := box_facts hpl
  simp [F_volume_lay, DvfO, sp_extB, decX_map, hov]
  have hpg : ∀ ex : List (List V), (m.boxes ++ ex)[p]? = some [.val (.int .i64 b), .val (.int .i64 g), cm, cp, .val (.int .i64 la), ct] := fun ex => by rw [f1, hp]
  refine ⟨fun h0 => wp_loop (VlI m p g over) over.length ?i1 ?s1, fun h0 => wp_loop (VlI m p g over) over.length ?i2 ?s2⟩
  case i1 => 
    subst h0
    exact IW.of ⟨0, rfl, by simp, by simp, by simp, fun h => absurd h (Nat.lt_irrefl _), fun _ => ⟨by simp, [], by simp⟩⟩
  case i2 =>
    have hpos : 0 < over.length := List.length_pos_iff.2 h0
    exact IW.of ⟨0, by omega, by simp, by simp, by simp, fun h => ⟨by simp, by simp⟩, fun h => by omega⟩
  case s1 | s2 =>
    intro k s m1 ⟨i, hik, s0, s12, s13, hlt, hge⟩
    by_cases hi : i < over.length
    · obtain ⟨s5, hm1⟩ := hlt hi
      have w1 := IntWalk.i64_in ((i : Int) + 1) (by omega)
      obtain ⟨A, hA⟩ : ∃ A, A = (((over.take i).map (setG g)).map cs).flatten := ⟨_, rfl⟩
      obtain ⟨R, hR⟩ : ∃ R, R = ((over.drop (i + 1)).map cs).flatten := ⟨_, rfl⟩
      have hAl : A.length = i * 5 := by rw [hA, flat_cs, List.length_map, List.length_take, Nat.min_eq_left (by omega)]; rfl
      obtain ⟨x, hx⟩ : ∃ x, x = over[i] := ⟨_, rfl⟩
      rw [List.drop_eq_getElem_cons hi, ← hx, ← hA, List.map_cons, List.flatten_cons, ← hR] at hm1
      have hob : ∀ r : List V, isObj (A ++ (.val (.int .i64 x.lba) :: .val (.int .i64 x.len) :: r)) = false := fun r => isObj_long (by simp; omega)
      have ht3 : ∀ a b c (r : List V), (A ++ (a :: b :: c :: r)).take (i * 5 + 3) = A ++ [a, b, c] := fun a b c r => by rw [← hAl, List.take_length_add_append]; rfl
      have hd4 : ∀ a b c d (r : List V), (A ++ (a :: b :: c :: d :: r)).drop (i * 5 + 4) = r := fun a b c d r => by
        have : A ++ (a :: b :: c :: d :: r) = (A ++ [a, b, c, d]) ++ r := by simp
        rw [this]
        exact List.drop_left' (by simp [hAl])
      subst hm1
      simp [F_volume_lay_L0, s0, s5, s12, s13, hi, hpg, hob, ht3, hd4, w1]
      refine ⟨by omega, k - 1, by omega, ?_⟩
      have e1 : (((over.take (i + 1)).map (setG g)).map cs).flatten = A ++ [.val (.int .i64 x.lba), .val (.int .i64 x.len), .val (.int .i64 x.kind), .val (.int .i64 g), .lit 1 (x.data.map cs)] := by
        rw [List.take_add_one, List.getElem?_eq_getElem hi, ← hx, hA]
        simp [setG]
      by_cases hi1 : i + 1 < over.length
      · refine IW.of ⟨i + 1, by omega, by simp [s0], by simp [s12], by simp, fun _ => ⟨by simp [s5], ?_⟩, fun h => by omega⟩
        rw [e1, ← hR]
        simp
      · have hi2 : i + 1 = over.length := by omega
        have hR0 : R = [] := by rw [hR, hi2]; simp
        have hc := chunk_cs (over.map (setG g))
        rw [hi2, List.take_length] at e1
        rw [e1, List.length_map] at hc
        rw [hR0]
        refine IW.frz 5 (b := m.boxes.length) (n := over.length) (sz := 5) (cs := A ++ [.val (.int .i64 x.lba), .val (.int .i64 x.len), .val (.int .i64 x.kind), .val (.int .i64 g), .lit 1 (x.data.map cs)]) (by simp [s5]) (by simp) (hob _) (by simp [hAl]; omega) ⟨i + 1, by omega, by simp [s0], by simp [s12], by simp, fun h => by omega, fun _ => ⟨?_, [deadC], by simp⟩⟩
        rw [← hc]
        simp
    · obtain ⟨s5, ex, hm1⟩ := hge (by omega)
      subst hm1
      have hdx : decX (over.map (cs ∘ setG g)) = some (over.map (setG g)) := by rw [← List.map_map]; exact decX_map _
      simp [F_volume_lay_L0, s0, s5, s12, s13, hi, hpg, hM, hdx, hMl, hovl, he, f2]
      exact hu
theorem WkL.cons1 {v : V} {l l' : List V} (h : WkL l l') : WkL (v :: l) (v :: l') := fun M w us hr => by
  obtain ⟨x, r, rfl, h1, h2⟩ := hr
  exact ⟨x, r, rfl, h1, h M w r h2⟩
def sp_vlay : List V → Mem → Option (V × Mem)
  | [.ptr p 0, v], m => (dec v : Option (List Xt)).bind fun over => match m.boxes[p]? with
    | some [.val (.int .i64 b), .val (.int .i64 g), cm, cp, .val (.int .i64 la), ct] => (dec cm : Option (List Xt)).bind fun M => if M.length ≤ 2 ^ 40 ∧ xtS over then
        (if (layR b M (over.map (setG g))).2 = 0 then some (.val (.int .i64 0), ⟨m.boxes.set p [.val (.int .i64 b), .val (.int .i64 g), .row m.tips.length 5 ((layR b M (over.map (setG g))).1.map cs), cp, .val (.int .i64 la), ct], m.tips ++ [(174, 5, (layR b M (over.map (setG g))).1.length)]⟩)
        else some (.val (.int .i64 (layR b M (over.map (setG g))).2), m)) else none
    | _ => none
  | _, _ => none
theorem sp_vlay_ok : EOkL Try.prog n_volume_lay sp_vlay := by
  intro args m v m' h
  unfold sp_vlay at h
  split at h
  · simp only [Option.bind_eq_some_iff] at h
    obtain ⟨over, ho, h⟩ := h
    split at h
    · rename_i hp
      simp only [Option.bind_eq_some_iff] at h
      obtain ⟨M, hM, h⟩ := h
      split at h
      · rename_i hc
        split at h
        · rename_i he
          cases h
          exact (c_vlay0 m _ _ _ _ _ _ _ M over hp hM hc.1 hc.2 he).wk (WkL.cons1 (wk_dec wk_nil ho))
        · rename_i he
          cases h
          exact (c_vlay1 m _ _ _ _ _ _ _ M over hp hM hc.1 hc.2 he).wk (WkL.cons1 (wk_dec wk_nil ho))
      · cases h
    · cases h
  · cases h
end Go.Av

namespace Go.Av.Pl
structure Ch where
  kind : Int
  lba : Int
  n : Int
  id : Int
  data : List UInt8
  list : List Xt
deriving DecidableEq
end Go.Av.Pl
namespace Go.Av
open Enc (enc dec)
open Cel (cs dc)
open Go.Proofs Pl

instance : Cel Ch where
  sz := 6
  cs x := [enc x.kind, enc x.lba, enc x.n, enc x.id, enc x.data, enc x.list]
  dc l := match l with
    | [a, b, c, d, e, f] => (dec a).bind fun a => (dec b).bind fun b => (dec c).bind fun c => (dec d).bind fun d => (dec e).bind fun e => (dec f).bind fun f => some ⟨a, b, c, d, e, f⟩
    | _ => none
  len _ := rfl
  ok l x h := by
    split at h
    · simp only [Option.bind_eq_some_iff] at h
      obtain ⟨a, ha, b, hb, c, hc, d, hd, e, he, f, hf, h⟩ := h
      cases h
      exact wk_dec (wk_dec (wk_dec (wk_dec (wk_dec (wk_dec wk_nil hf) he) hd) hc) hb) ha
    · cases h
  cl x := by simp [clean_cs]
  de x := by simp [decX_map]
instance : Enc Ch := encC
@[simp] theorem sz_ch : Cel.sz Ch = 6 := rfl
@[simp] theorem cs_ch (x : Ch) : cs x = [.val (.int .i64 x.kind), .val (.int .i64 x.lba), .val (.int .i64 x.n), .val (.int .i64 x.id), .lit 1 (x.data.map cs), .lit 5 (x.list.map cs)] := rfl
@[simp] theorem enc_ch (x : Ch) : (enc x : V) = .agg [.val (.int .i64 x.kind), .val (.int .i64 x.lba), .val (.int .i64 x.n), .val (.int .i64 x.id), .lit 1 (x.data.map cs), .lit 5 (x.list.map cs)] := rfl
@[simp] theorem dc_ch (a b c d e f : V) : (dc [a, b, c, d, e, f] : Option Ch) = (dec a).bind fun a => (dec b).bind fun b => (dec c).bind fun c => (dec d).bind fun d => (dec e).bind fun e => (dec f).bind fun f => some ⟨a, b, c, d, e, f⟩ := rfl
@[simp] theorem dec_ch (l : List V) : (dec (.agg l) : Option Ch) = dc l := rfl

/-- A state's cells in its box. -/
def stC (b g : Int) (cm cp : V) (la : Int) (ct : V) : List V := [.val (.int .i64 b), .val (.int .i64 g), cm, cp, .val (.int .i64 la), ct]
/-- Behind extents that are laid. -/
def layM (m : Mem) (p : Nat) (b g la : Int) (cp ct : V) (R : List Xt × Int) : Mem :=
  if R.2 = 0 then ⟨m.boxes.set p (stC b g (.row m.tips.length 5 (R.1.map cs)) cp la ct), m.tips ++ [(174, 5, R.1.length)]⟩ else m
theorem under_lay {m : Mem} {p : Nat} {b g la b' g' la' : Int} {cm cp ct : V} (hu : underX m.boxes.length m.tips.length m.boxes = true) (hp : m.boxes[p]? = some (stC b g cm cp la ct)) (R : List Xt) :
    underX m.boxes.length (m.tips.length + 1) (m.boxes.set p [.val (.int .i64 b'), .val (.int .i64 g'), .row m.tips.length 5 (R.map cs), cp, .val (.int .i64 la'), ct]) = true := by
  have hub := underX_iff.1 hu _ (List.mem_of_getElem? hp)
  simp only [stC, underL, V.under, Bool.and_eq_true] at hub
  refine underX_set (underX_mono (Nat.le_refl _) (Nat.le_succ _) _ hu) ?_
  simp only [underL, V.under, Bool.and_eq_true, decide_eq_true_eq]
  exact ⟨trivial, trivial, ⟨by omega, under_csX _ _ _⟩, under_mono (Nat.le_refl _) (Nat.le_succ _) _ hub.2.2.2.1, trivial, under_mono (Nat.le_refl _) (Nat.le_succ _) _ hub.2.2.2.2.2.1, trivial⟩
def DvgO : Orc := Orc.nil.addL n_volume_lay sp_vlay
theorem DvgO_ok : OOk Try.prog DvgO := OOk.nil.addL sp_vlay_ok
theorem c_vwrite (m : Mem) (p : Nat) (b g la : Int) (cm cp ct : V) (M : List Xt) (c : Ch) (hp : m.boxes[p]? = some (stC b g cm cp la ct)) (hM : dec cm = some M) (hMl : M.length ≤ 2 ^ 40) (hd : c.data.length ≤ 2 ^ 40) :
    Loc Try.prog n_volume_write [.ptr p 0, enc c] m (.val (.int .i64 (layR b M [⟨c.lba, c.n, 2, g, c.data⟩]).2)) (layM m p b g la cp ct (layR b M [⟨c.lba, c.n, 2, g, c.data⟩])) := by
  have hpl : p < m.boxes.length := lt_of_some hp
  simp only [Nat.reducePow] at hMl
  obtain ⟨f1, f2, f3, f4, f5, f6, f7⟩ := box_facts hpl
  have hx : xtS [⟨c.lba, c.n, 2, 0, c.data⟩] := ⟨by simp, fun x hx => by rw [List.mem_singleton] at hx; subst hx; exact hd⟩
  have hp' : m.boxes[p]? = some [.val (.int .i64 b), .val (.int .i64 g), cm, cp, .val (.int .i64 la), ct] := hp
  unfold layM
  split
  · rename_i he
    rw [he]
    refine Loc.ofC DvgO_ok hm F_volume_write_ok (by simp [F_volume_write]) (.inl rfl) m.boxes.length (m.tips.length + 1) (Nat.le_refl _) (by omega) fun hu => ?_
    have hul := under_lay (b' := b) (g' := g) (la' := la) hu hp
    simp [F_volume_write, DvgO, sp_vlay, decX, f1, f2, hp', hM, hMl, hx, setG, he, stC, hul]
    rw [List.take_of_length_le (by simp)]
  · rename_i he
    refine Loc.ofC DvgO_ok hm F_volume_write_ok (by simp [F_volume_write]) (.inl rfl) m.boxes.length m.tips.length (Nat.le_refl _) (Nat.le_refl _) fun hu => ?_
    simp [F_volume_write, DvgO, sp_vlay, decX, f1, f2, hp', hM, hMl, hx, setG, he, hu]
theorem c_vzero (m : Mem) (p : Nat) (b g la : Int) (cm cp ct : V) (M : List Xt) (c : Ch) (hp : m.boxes[p]? = some (stC b g cm cp la ct)) (hM : dec cm = some M) (hMl : M.length ≤ 2 ^ 40) :
    Loc Try.prog n_volume_zero [.ptr p 0, enc c] m (.val (.int .i64 (layR b M [⟨c.lba, c.n, 1, g, []⟩]).2)) (layM m p b g la cp ct (layR b M [⟨c.lba, c.n, 1, g, []⟩])) := by
  have hpl : p < m.boxes.length := lt_of_some hp
  simp only [Nat.reducePow] at hMl
  obtain ⟨f1, f2, f3, f4, f5, f6, f7⟩ := box_facts hpl
  have hx : xtS [⟨c.lba, c.n, 1, 0, []⟩] := ⟨by simp, fun x hx => by rw [List.mem_singleton] at hx; subst hx; simp⟩
  have hp' : m.boxes[p]? = some [.val (.int .i64 b), .val (.int .i64 g), cm, cp, .val (.int .i64 la), ct] := hp
  unfold layM
  split
  · rename_i he
    rw [he]
    refine Loc.ofC DvgO_ok hm F_volume_zero_ok (by simp [F_volume_zero]) (.inl rfl) m.boxes.length (m.tips.length + 1) (Nat.le_refl _) (by omega) fun hu => ?_
    have hul := under_lay (b' := b) (g' := g) (la' := la) hu hp
    simp [F_volume_zero, DvgO, sp_vlay, decX, f1, f2, hp', hM, hMl, hx, setG, he, stC, hul]
    rw [List.take_of_length_le (by simp)]
  · rename_i he
    refine Loc.ofC DvgO_ok hm F_volume_zero_ok (by simp [F_volume_zero]) (.inl rfl) m.boxes.length m.tips.length (Nat.le_refl _) (Nat.le_refl _) fun hu => ?_
    simp [F_volume_zero, DvgO, sp_vlay, decX, f1, f2, hp', hM, hMl, hx, setG, he, hu]
theorem c_vtrim (m : Mem) (p : Nat) (b g la : Int) (cm cp ct : V) (M : List Xt) (c : Ch) (hp : m.boxes[p]? = some (stC b g cm cp la ct)) (hM : dec cm = some M) (hMl : M.length ≤ 2 ^ 40) :
    Loc Try.prog n_volume_trim [.ptr p 0, enc c] m (.val (.int .i64 (layR b M [⟨c.lba, c.n, 0, g, []⟩]).2)) (layM m p b g la cp ct (layR b M [⟨c.lba, c.n, 0, g, []⟩])) := by
  have hpl : p < m.boxes.length := lt_of_some hp
  simp only [Nat.reducePow] at hMl
  obtain ⟨f1, f2, f3, f4, f5, f6, f7⟩ := box_facts hpl
  have hx : xtS [⟨c.lba, c.n, 0, 0, []⟩] := ⟨by simp, fun x hx => by rw [List.mem_singleton] at hx; subst hx; simp⟩
  have hp' : m.boxes[p]? = some [.val (.int .i64 b), .val (.int .i64 g), cm, cp, .val (.int .i64 la), ct] := hp
  unfold layM
  split
  · rename_i he
    rw [he]
    refine Loc.ofC DvgO_ok hm F_volume_trim_ok (by simp [F_volume_trim]) (.inl rfl) m.boxes.length (m.tips.length + 1) (Nat.le_refl _) (by omega) fun hu => ?_
    have hul := under_lay (b' := b) (g' := g) (la' := la) hu hp
    simp [F_volume_trim, DvgO, sp_vlay, decX, f1, f2, hp', hM, hMl, hx, setG, he, stC, hul]
    rw [List.take_of_length_le (by simp)]
  · rename_i he
    refine Loc.ofC DvgO_ok hm F_volume_trim_ok (by simp [F_volume_trim]) (.inl rfl) m.boxes.length m.tips.length (Nat.le_refl _) (Nat.le_refl _) fun hu => ?_
    simp [F_volume_trim, DvgO, sp_vlay, decX, f1, f2, hp', hM, hMl, hx, setG, he, hu]
theorem c_vabort (m : Mem) (p : Nat) (b g la : Int) (cm cp ct : V) (c : Ch) (hp : m.boxes[p]? = some (stC b g cm cp la ct)) :
    Loc Try.prog n_volume_abort [.ptr p 0, enc c] m (.val (.int .i64 0)) { m with boxes := m.boxes.set p (stC b g cm cp la (.val (.slice none 0 0))) } := by
  have hpl : p < m.boxes.length := lt_of_some hp
  obtain ⟨f1, f2, f3, f4, f5, f6, f7⟩ := box_facts hpl
  have hp' : m.boxes[p]? = some [.val (.int .i64 b), .val (.int .i64 g), cm, cp, .val (.int .i64 la), ct] := hp
  refine Loc.ofC OOk.nil hm F_volume_abort_ok (by simp [F_volume_abort]) (.inl rfl) m.boxes.length m.tips.length (Nat.le_refl _) (Nat.le_refl _) fun hu => ?_
  have hub := underX_iff.1 hu _ (List.mem_of_getElem? hp)
  simp only [stC, underL, V.under, Bool.and_eq_true] at hub
  simp [F_volume_abort, f1, f2, hp', stC]
  refine underX_set hu ?_
  simp only [underL, V.under, Bool.and_eq_true]
  exact ⟨trivial, trivial, hub.2.2.1, hub.2.2.2.1, trivial, trivial, trivial⟩
theorem c_vstage (m : Mem) (p ts : Nat) (b g la : Int) (cm cp : V) (S : List UInt8) (c : Ch) (hp : m.boxes[p]? = some (stC b g cm cp la (.row ts 1 (S.map cs)))) (ht : m.tips[ts]? = some (5, 1, S.length)) (hS : S.length ≤ 2 ^ 40) (hd : c.data.length ≤ 2 ^ 40) :
    Loc Try.prog n_volume_stage [.ptr p 0, enc c] m (.val (.int .i64 (if 4000 < (S.length : Int) + c.data.length then 113 else 0)))
      (if 4000 < (S.length : Int) + c.data.length then m else ⟨m.boxes.set p (stC b g cm cp la (.row ts 1 ((S ++ c.data).map cs))), m.tips.set ts (5, 1, (S ++ c.data).length)⟩) := by
  have hpl : p < m.boxes.length := lt_of_some hp
  obtain ⟨f1, f2, f3, f4, f5, f6, f7⟩ := box_facts hpl
  have hp' : m.boxes[p]? = some [.val (.int .i64 b), .val (.int .i64 g), cm, cp, .val (.int .i64 la), .row ts 1 (S.map cs)] := hp
  have w1 := IntWalk.i64_in (4000 - (S.length : Int)) (by omega)
  refine Loc.ofC OOk.nil hm F_volume_stage_ok (by simp [F_volume_stage]) (.inl rfl) m.boxes.length m.tips.length (Nat.le_refl _) (Nat.le_refl _) fun hu => ?_
  have hub := underX_iff.1 hu _ (List.mem_of_getElem? hp)
  simp only [stC, underL, V.under, Bool.and_eq_true] at hub
  by_cases h1 : 4000 < (S.length : Int) + c.data.length
  · have h2 : 4000 - (S.length : Int) < c.data.length := by omega
    simp [F_volume_stage, f1, f2, hp', stC, w1, h1, h2, hu]
  · have h2 : ¬ 4000 - (S.length : Int) < c.data.length := by omega
    simp [F_volume_stage, f1, f2, hp', stC, w1, h1, h2, ht]
    refine ⟨by omega, underX_set hu ?_, by rw [List.take_of_length_le (by simp)]⟩
    simp only [underL, V.under, Bool.and_eq_true]
    refine ⟨trivial, trivial, hub.2.2.1, hub.2.2.2.1, trivial, ⟨hub.2.2.2.2.2.1.1, ?_⟩, trivial⟩
    rw [← List.map_append]
    exact under_csX _ _ _
end Go.Av

namespace Go.Av
open Go.Proofs Go.RowKit Go.Lib

theorem step_append_in {P : Program} {ops : Array Oper} {o : Oper} {a : Act} {w : World} {K : Act → World → Prop} {Q : Exit → Act → World → Prop} {E : Prop}
    (hg : o.guard = none) (s x : Operand) (t : TypeId) (hop : o.op = Op.call { callee := Callee.builtin Builtin.append, args := #[s, x], argTypes := #[t, t] })
    (e : TypeId) (i : TypeInfo) (size : Nat) (h1 : P.underlying t = some (.slice e)) (h2 : P.info? e = some i) (h4 : i.size = size)
    (b n cap T : Nat) (hs : a.eval s = .slice (some ⟨b, 0, none⟩) n cap) (vs : Array Value) (hh : w.heap[b]? = some (.cells vs T (0, 0)))
    (ad : Addr) (m c : Nat) (news : List Value) (hx : a.eval x = .slice (some ad) m c) (hn : news.length = m * size) (hc : ∀ j u, news[j]? = some u → w.cell? (ad.add j) = some u) (h1c : ∀ u ∈ news, u.oneCell' = true)
    (hroom : n + m ≤ cap) (hsz : n * size + news.length ≤ vs.size)
    (hK : K (a.put o.dst (.slice (some ⟨b, 0, none⟩) (n + m) cap)) (w.setRow b (vs.toList.take (n * size) ++ news ++ vs.toList.drop (n * size + news.length)).toArray)) :
    if Region.wanted o (yielded ops a.tmps) = true then Oper.wp P o a w K Q else E := by
  have hw : Region.wanted o (yielded ops a.tmps) = true := by simp [Region.wanted, hg]
  rw [if_pos hw]
  subst h4
  have hrun := run_append_in (P := P) (ty := o.type) h1 h2 hh (ad := ad) (q := m) (c' := c) (c := cap) (k := n) (off := 0) hn hc h1c hroom (by omega)
  simp only [Nat.zero_add] at hrun
  unfold Oper.wp
  rw [List.append_assoc] at hK
  simp [execOp, hop, resolve, invoke, builtin, hs, hx, hrun, Result.andThen]
  exact hK
set_option maxRecDepth 1000000 in
theorem del_calls (g i j n c T : Nat) (vs : Array Value) (w : World) (hh : w.heap[g]? = some (.cells vs T (0, 0))) (hij1 : Hid (j = i + 1)) (hjn : j ≤ n) (hnc : n ≤ c) (hcm : c ≤ 9223372036854775807) (hsz : c * 3 ≤ vs.size) (h1 : ∀ u ∈ vs.toList.take (n * 3), u.oneCell' = true) :
    Calls Try.prog 185 #[.slice (some ⟨g, 0, none⟩) n c, .int .i64 i, .int .i64 j] w fun e w' => e = .returned (.slice (some ⟨g, 0, none⟩) (n - 1) c) ∧ ∃ vs' : Array Value, w' = w.drew.setRow g vs' ∧ vs'.size = vs.size ∧ vs'.toList.take ((n - 1) * 3) = vs.toList.take (i * 3) ++ (vs.toList.take (n * 3)).drop (j * 3) := by
  have hij : i < j := by have := hij1.out; omega
  have mixed : Try.prog.follows .mixedOrders = true := by kernel_rfl
  have hj1 : j = i + 1 := hij1
  have t41 : Try.prog.underlying 41 = some (.slice 110) := by kernel_rfl
  have hI : (Try.prog.info? 110).map (fun i => (i.zero, i.size, i.bytes)) = some (some (.agg #[.int .i64 0, .int .i64 0, .slice none 0 0]), 3, 40) := by kernel_rfl
  obtain ⟨i0, hi0, hz0, hz1, hz2⟩ := info_parts hI
  clear hI
  have hic : i ≤ c := by omega
  have hjc : j ≤ c := by omega
  obtain ⟨news, hnews⟩ : ∃ news, news = (vs.toList.take (n * 3)).drop (j * 3) := ⟨_, rfl⟩
  have hvl : n * 3 ≤ vs.toList.length := by rw [Array.length_toList]; omega
  have hlen : news.length = (n - j) * 3 := by rw [hnews, List.length_drop, List.length_take]; omega
  have hcd : ∀ o, w.drew.cell? ⟨g, o, none⟩ = vs.toList[o]? := fun o => by
    show w.cell? ⟨g, o, none⟩ = _
    simp [World.cell?, hh]
  obtain ⟨A, hA, hsrc⟩ : ∃ A : Addr, (if c = j then some (⟨g, 0, none⟩ : Addr) else some ⟨g, j * 3, none⟩) = some A ∧ Hid (∀ (t : Nat) (u : Value), news[t]? = some u → w.drew.cell? (A.add t) = some u) := by
    by_cases h : c = j
    · refine ⟨⟨g, 0, none⟩, by simp [h], fun t u hu => ?_⟩
      have h0 : news.length = 0 := by rw [hlen]; omega
      rw [List.length_eq_zero_iff.1 h0] at hu
      simp at hu
    · refine ⟨⟨g, j * 3, none⟩, by simp [h], fun t u hu => ?_⟩
      rw [Addr.add_mid, hcd]
      rw [hnews, List.getElem?_drop, List.getElem?_take] at hu
      split at hu
      · exact hu
      · cases hu
  have s1 : Hid (news.length = (n - j) * 3) := hlen
  have s2 : Hid (∀ u ∈ news, u.oneCell' = true) := by
    intro u hu
    rw [hnews] at hu
    exact h1 u (List.mem_of_mem_drop hu)
  have s3 : Hid (w.drew.heap[g]? = some (.cells vs T (0, 0))) := hh
  have s4 : Hid (i * 3 + news.length ≤ vs.size) := by show _ ≤ _; rw [hlen]; omega
  obtain ⟨vs1, hvs1⟩ : ∃ vs1 : Array Value, vs1 = (vs.toList.take (i * 3) ++ news ++ vs.toList.drop (i * 3 + news.length)).toArray := ⟨_, rfl⟩
  have hv1 : vs1.size = vs.size := by
    rw [hvs1]
    simp only [List.size_toArray, List.length_append, List.length_take, List.length_drop, hlen, Array.length_toList]
    omega
  obtain ⟨W1, hW1⟩ : ∃ W1, W1 = w.drew.setRow g vs1 := ⟨_, rfl⟩
  have hW1h : W1.heap[g]? = some (.cells vs1 T (0, 0)) := by rw [hW1]; exact setRow_heap w.drew g vs vs1 T (0, 0) hh
  obtain ⟨vs2, hvs2⟩ : ∃ vs2 : Array Value, vs2 = (vs1.toList.take ((n - 1) * 3) ++ ([.int .i64 0, .int .i64 0, .slice none 0 0] : List Value) ++ vs1.toList.drop ((n - 1) * 3 + 3)).toArray := ⟨_, rfl⟩
  have hcl : ∀ ty, (Builtin.clear_ #[41] ty #[.slice (some ⟨g, (i + (n - j)) * 3, none⟩) (n - (i + (n - j))) (c - (i + (n - j)))]).run Try.prog W1 = .ok (.tuple #[]) (W1.setRow g vs2) := by
    intro ty
    have hst := run_storeCells_at Try.prog g ((n - 1) * 3) T [.int .i64 0, .int .i64 0, .slice none 0 0] 0 vs1 W1 hW1h (by simp; omega) (by intro u hu; simp at hu; rcases hu with rfl | rfl | rfl <;> rfl)
    simp only [Nat.add_zero, List.length_cons, List.length_nil] at hst
    rw [show i + (n - j) = n - 1 by omega, show n - (n - 1) = 0 + 1 by omega]
    have hzv : ∀ w, (zeroValue 110).run Try.prog w = .ok (.agg #[.int .i64 0, .int .i64 0, .slice none 0 0]) w := fun w => by simp [zeroValue, typeInfo, hi0, hz0]
    simp [Builtin.clear_, run_underlying t41, hzv, Builtin.zeroCells, Value.cells]
    rw [show List.map (fun i => ([.int .i64 0, .int .i64 0, .slice none 0 0] : List Value)[i % 3]?.getD default) (List.range 3) = [.int .i64 0, .int .i64 0, .slice none 0 0] from rfl, hst, hvs2]
    rfl
  have hsz1 : vs2.size = vs.size := by
    rw [hvs2]
    simp only [List.size_toArray, List.length_append, List.length_take, List.length_drop, Array.length_toList, hv1, List.length_cons, List.length_nil]
    omega
  have htk : vs2.toList.take ((n - 1) * 3) = vs.toList.take (i * 3) ++ (vs.toList.take (n * 3)).drop (j * 3) := by
    rw [hvs2, ← hnews]
    show (vs1.toList.take ((n - 1) * 3) ++ ([.int .i64 0, .int .i64 0, .slice none 0 0] : List Value) ++ vs1.toList.drop ((n - 1) * 3 + 3)).take ((n - 1) * 3) = _
    rw [List.append_assoc, List.take_left' (by simp; omega), hvs1]
    show (vs.toList.take (i * 3) ++ news ++ vs.toList.drop (i * 3 + news.length)).take ((n - 1) * 3) = _
    rw [List.take_left']
    rw [List.length_append, List.length_take, hlen]
    omega
  have hW : Hid (W1 = w.drew.setRow g (vs.toList.take (i * 3) ++ news ++ vs.toList.drop (i * 3 + news.length)).toArray) := by subst hvs1; exact hW1
  have hn1 : n - 1 = i + (n - j) := by omega
  have X : Aside (W1.setRow g vs2 = w.drew.setRow g vs2) := by show _ = _; rw [hW1, setRow_setRow]
  clear hj1 hij1 hW1 hvs1 hvs2 hv1 hW1h hcd hnews hlen hvl hz0 hz2
  go_enter Try.func185, Try.ntmps185
  go_wp2_with fail
  go_region_law_o (refine step_append_in rfl (.tmp 22) (.tmp 25) 41 rfl 110 i0 3 t41 hi0 hz1 g i c T (by simp [Act.eval, Act.put]) vs s3.out A (n - j) (c - j) news (by simp [Act.eval, Act.put]) s1.out hsrc.out s2.out (by omega) s4.out ?_; rw [← hW.out])
  go_wp2
  go_ret
  refine ⟨by rw [hn1]; rfl, vs2, X.out, hsz1, htk⟩
theorem below_drew {w : World} : Below w.heap.size w w.drew := ⟨rfl, rfl, rfl, Nat.le_refl _, fun _ _ => rfl⟩
/-- One checkpoint is taken out, in its box. -/
theorem c_delPt (m : Mem) (b n lc i : Nat) (cs : List V) (hb : m.boxes[b]? = some cs) (hno : isObj cs = false) (hi : i < n) (hle : n * 3 ≤ cs.length) :
    Loc Try.prog 185 [.buf 0 3 n lc b, .val (.int .i64 i), .val (.int .i64 ((i : Int) + 1))] m (.buf 0 3 (n - 1) lc b) { m with boxes := m.boxes.set b (cs.take (i * 3) ++ (cs.take (n * 3)).drop ((i + 1) * 3)) } := by
  refine ⟨by kernel_rfl, fun B I0 w0 M w vals hg hr => ?_⟩
  obtain ⟨v0, r0, e0, ⟨g, c, rfl, q1, q2, q3, hβ, q4⟩, v1, r1, rfl, ⟨rfl, _⟩, v2, r2, rfl, ⟨rfl, _⟩, rfl⟩ := hr
  obtain ⟨l, hl⟩ : ∃ l, vals = Array.mk l := ⟨vals.toList, rfl⟩
  subst hl
  simp only at e0
  subst e0
  obtain ⟨hB, ob, hh, hbr⟩ := hg.box b g cs hβ hb
  have hκ := hbr.κ hno
  obtain ⟨vs, T, rfl, hlv, hl, ho⟩ := hbr.cells hno
  obtain ⟨vs1, T1, hh1, hz1⟩ := hg.ζb b g cs hβ hb hno
  rw [hh] at hh1
  cases hh1
  have hblt := lt_of_some hb
  have hnd : m.boxes[b]? ≠ some deadC := fun e => by rw [hb] at e; cases e; cases hno
  have e1 : ((i : Int) + 1) = ((i + 1 : Nat) : Int) := by omega
  rw [e1]
  refine (del_calls g i (i + 1) n c T vs w hh rfl (by omega) (by omega) (by have := q3; unfold maxLen at this; omega) (by omega) (fun u hu => ?_)).mono ?_
  · refine ho u ?_
    have : vs.toList.take (n * 3) = (vs.toList.take cs.length).take (n * 3) := by rw [List.take_take, Nat.min_eq_left hle]
    rw [this] at hu
    exact List.mem_of_mem_take hu
  · rintro e w' ⟨rfl, vs', rfl, hs1, hs2⟩
    have hgd := hg.grow (below_drew (w := w))
    have hE1 := hg.ext (below_drew (w := w))
    have hcl : (cs.take (i * 3) ++ (cs.take (n * 3)).drop ((i + 1) * 3)).length = (n - 1) * 3 := by
      simp only [List.length_append, List.length_take, List.length_drop]
      omega
    have htk : vs'.toList.take (cs.take (i * 3) ++ (cs.take (n * 3)).drop ((i + 1) * 3)).length = (vs.toList.take cs.length).take (i * 3) ++ ((vs.toList.take cs.length).take (n * 3)).drop ((i + 1) * 3) := by
      rw [hcl, hs2, List.take_take, List.take_take, Nat.min_eq_left hle, Nat.min_eq_left (show i * 3 ≤ cs.length by omega)]
    obtain ⟨hg', hE⟩ := hgd.setBox (cs := cs.take (i * 3) ++ (cs.take (n * 3)).drop ((i + 1) * 3)) hβ hblt hh hnd hκ (by rw [hs1]; exact hz1) (by rw [hs1, hcl]; omega) (by
      rw [htk]
      exact RepL.mono hE1 _ _ ((hl.take _).append ((hl.take _).drop _))) (by
      rw [htk]
      intro x hx
      rcases List.mem_append.1 hx with hx | hx
      · exact ho x (List.mem_of_mem_take hx)
      · exact ho x (List.mem_of_mem_take (List.mem_of_mem_drop hx)))
    exact ⟨_, M, rfl, hE1.trans hE, hg', ⟨g, c, rfl, by omega, q2, q3, hβ, q4⟩⟩
set_option maxRecDepth 1000000 in
theorem clone_nil (w : World) : Calls Try.prog 146 #[.slice none 0 0] w fun e w' => e = .returned (.slice none 0 0) ∧ w' = w := by
  have mixed : Try.prog.follows .mixedOrders = true := by kernel_rfl
  have t41 : Try.prog.underlying 41 = some (.slice 110) := by kernel_rfl
  have heq : ∀ w, (binOp .eql 41 (.slice none 0 0) (.slice none 0 0)).run Try.prog w = .ok (.bool true) w := fun w => Lib.run_eql_slice_nil w 41 110 none 0 0 0 0 t41
  go_enter Try.func146, Try.ntmps146
  go_wp2
  all_goals
    go_ret
    exact ⟨rfl, rfl⟩
end Go.Av

namespace Go.Av.Pl
/-- Where a checkpoint's number stands first; -1 if it does not. -/
def idAt (l : List Pt) (id : Int) : Int := match l.findIdx? (fun p => decide (p.id = id)) with
  | some i => i
  | none => -1
end Go.Av.Pl
namespace Go.Av
open Enc (enc dec)
open Cel (cs dc)
open Go.Proofs Pl

/-- A change's number, in its box. -/
def boxId (m : Mem) (r : Nat) : Option Int := match m.boxes[r]? with
  | some [_, _, _, .val (.int .i64 id), _, _] => some id
  | _ => none
theorem boxId_some {m : Mem} {r : Nat} {id : Int} (h : boxId m r = some id) : ∃ a b c d e, m.boxes[r]? = some [a, b, c, .val (.int .i64 id), d, e] := by
  unfold boxId at h
  split at h
  · rename_i a b c i d e he
    cases h
    exact ⟨a, b, c, d, e, he⟩
  · cases h
theorem c_vdrop1 (m : Mem) (r : Nat) (x : Pt) (id : Int) (h : boxId m r = some id) : Loc Try.prog n_volume_drop_1 [enc x, .ptr r 0] m (.val (.bool (decide (x.id = id)))) m := by
  obtain ⟨a, b, c, d, e, hp⟩ := boxId_some h
  refine Loc.ofC OOk.nil hm F_volume_drop_1_ok (by simp [F_volume_drop_1]) (.inl rfl) m.boxes.length m.tips.length (Nat.le_refl _) (Nat.le_refl _) fun hu => ?_
  have hpl : r < m.boxes.length := lt_of_some hp
  have f1 : ∀ (b : List (List V)), (m.boxes ++ b)[r]? = m.boxes[r]? := fun b => List.getElem?_append_left hpl
  clear hpl
  simp [F_volume_drop_1, f1, hp, hu]
def sp_vdrop1 : List V → Mem → Option (V × Mem)
  | [a, .ptr r 0], m => (dec a : Option Pt).bind fun x => (boxId m r).map fun id => (.val (.bool (decide (x.id = id))), m)
  | _, _ => none
theorem sp_vdrop1_ok : EOkL Try.prog n_volume_drop_1 sp_vdrop1 := by
  intro args m v m' h
  unfold sp_vdrop1 at h
  split at h
  · simp only [Option.bind_eq_some_iff, Option.map_eq_some_iff] at h
    obtain ⟨x, hx, id, hid, h⟩ := h
    cases h
    exact (c_vdrop1 m _ x id hid).wk (wk_dec (WkL.refl _) hx)
  · cases h
def DvhO : Orc := Orc.nil.addL n_volume_drop_1 sp_vdrop1
theorem DvhO_ok : OOk Try.prog DvhO := OOk.nil.addL sp_vdrop1_ok
/-- Checkpoints in a box. -/
structure PtsB (m : Mem) (q n : Nat) (C : List V) (l : List Pt) : Prop where
  box : m.boxes[q]? = some C
  len : C.length = n * 3
  de : decX (chunkV 3 n C) = some l
theorem chunkV_get (sz : Nat) : ∀ (n i : Nat) (l : List V), i < n → (chunkV sz n l)[i]? = some ((l.drop (i * sz)).take sz)
  | 0, _, _, h => absurd h (Nat.not_lt_zero _)
  | n + 1, 0, l, _ => by simp [chunkV]
  | n + 1, i + 1, l, h => by
    rw [chunkV, List.getElem?_cons_succ, chunkV_get sz n i _ (by omega), List.drop_drop]
    congr 3
    rw [Nat.add_mul]; omega
theorem decX_get {α : Type} [Cel α] : ∀ {xs : List (List V)} {l : List α}, decX xs = some l → ∀ {i : Nat} {e : List V}, xs[i]? = some e → ∃ a, l[i]? = some a ∧ dc e = some a
  | [], l, h, i, e, he => by simp at he
  | x :: xs, l, h, i, e, he => by
    simp only [decX, Option.bind_eq_some_iff] at h
    obtain ⟨a, ha, r, hr, h⟩ := h
    cases h
    cases i with
    | zero => 
      simp only [List.getElem?_cons_zero, Option.some.injEq] at he
      subst he
      exact ⟨a, rfl, ha⟩
    | succ i => exact decX_get hr (by simpa using he)
theorem decX_num {α : Type} [Cel α] : ∀ {xs : List (List V)} {l : List α}, decX xs = some l → l.length = xs.length
  | [], l, h => by simp only [decX, Option.some.injEq] at h; subst h; rfl
  | x :: xs, l, h => by
    simp only [decX, Option.bind_eq_some_iff] at h
    obtain ⟨a, ha, r, hr, h⟩ := h
    cases h
    simp [decX_num hr]
theorem PtsB.num {m : Mem} {q n : Nat} {C : List V} {l : List Pt} (h : PtsB m q n C l) : l.length = n := by rw [decX_num h.de, chunkV_length]
theorem PtsB.at {m : Mem} {q n : Nat} {C : List V} {l : List Pt} (h : PtsB m q n C l) {i : Nat} (hi : i < n) : ∃ a b c, C.drop (i * 3) = a :: b :: c :: C.drop (i * 3 + 3) ∧ ∃ hl : i < l.length, dec (.agg [a, b, c]) = some l[i] := by
  have h1 := chunkV_get 3 n i C hi
  obtain ⟨p, h2, h3⟩ := decX_get h.de h1
  have hl := lt_of_some h2
  have hlen : (C.drop (i * 3)).length = 3 + (C.drop (i * 3 + 3)).length := by rw [List.length_drop, List.length_drop, h.len]; omega
  match hC : C.drop (i * 3), hlen with
  | a :: b :: c :: r, _ =>
    have hr : C.drop (i * 3 + 3) = r := by rw [← List.drop_drop, hC]; rfl
    rw [hC] at h3
    refine ⟨a, b, c, by rw [hr], hl, ?_⟩
    rw [List.getElem?_eq_getElem hl] at h2
    rw [Option.some.inj h2]
    exact h3
  | [], h => simp at h; omega
  | [_], h => simp at h; omega
  | [_, _], h => simp at h; omega
def IdxI (m0 : Mem) (q n lc r : Nat) (l : List Pt) (id : Int) (k : Nat) (s : Nat → V) (m : Mem) : Prop :=
  ∃ i : Nat, i + k = n ∧ (∀ j (hj : j < l.length), j < i → ¬ l[j].id = id) ∧ s 0 = .buf 0 3 n lc q ∧ s 1 = .func n_volume_drop_1 [.ptr r 0] ∧ s 7 = .val (.int .i64 n) ∧ s 8 = .val (.int .i64 i) ∧ m = m0
theorem c_idxPt (m : Mem) (q n lc r : Nat) (C : List V) (l : List Pt) (id : Int) (h : PtsB m q n C l) (hid : boxId m r = some id) (hn : n ≤ 2 ^ 40) :
    Loc Try.prog n_slices_IndexFunc_Point [.buf 0 3 n lc q, .func n_volume_drop_1 [.ptr r 0]] m (.val (.int .i64 (idAt l id))) m := by
  refine Loc.ofC DvhO_ok hm F_slices_IndexFunc_Point_ok (by simp [F_slices_IndexFunc_Point]) (.inl rfl) m.boxes.length m.tips.length (Nat.le_refl _) (Nat.le_refl _) fun hu => ?_
  simp only [Nat.reducePow] at hn
  have hnl := h.num
  simp [F_slices_IndexFunc_Point]
  refine wp_loop (IdxI m q n lc r l id) n (IW.of ⟨0, by omega, fun _ _ h => by omega, by simp, by simp, by simp, by simp, rfl⟩) fun k s m1 ⟨i, hik, hno, s0, s1, s7, s8, hm1⟩ => ?_
  subst hm1
  by_cases hi : i < n
  · obtain ⟨a, b, c, hd, hl, hdc⟩ := h.at hi
    have hob : isObj C = false := by
      refine isObj_long ?_
      rw [h.len]; omega
    have w1 := IntWalk.i64_in ((i : Int) + 1) (by omega)
    have hbx := h.box
    by_cases he : l[i].id = id
    · have e : idAt l id = i := by
        unfold idAt
        rw [List.findIdx?_eq_some_iff_getElem.2 ⟨hl, by simpa using he, fun j hj => by simpa using hno j (by omega) hj⟩]
      simp [F_slices_IndexFunc_Point_L0, DvhO, s0, s1, s7, s8, hi, hbx, hob, hd, sp_vdrop1, hdc, hid, he, e, hu]
    · simp [F_slices_IndexFunc_Point_L0, DvhO, s0, s1, s7, s8, hi, hbx, hob, hd, sp_vdrop1, hdc, hid, he, w1]
      refine ⟨k - 1, by omega, IW.of ⟨i + 1, by omega, fun j hj hji => ?_, by simpa using s0, by simpa using s1, by simpa using s7, by simp, rfl⟩⟩
      by_cases hji2 : j = i
      · subst hji2; exact he
      · exact hno j hj (by omega)
  · have e : idAt l id = -1 := by
      unfold idAt
      rw [List.findIdx?_eq_none_iff.2]
      intro x hx
      obtain ⟨j, hj, rfl⟩ := List.getElem_of_mem hx
      simpa using hno j hj (by omega)
    simp [F_slices_IndexFunc_Point_L0, DvhO, s0, s1, s7, s8, hi, hu, e]
theorem c_idxPt0 (m : Mem) (r : Nat) : Loc Try.prog n_slices_IndexFunc_Point [.full 3 [], .func n_volume_drop_1 [.ptr r 0]] m (.val (.int .i64 (-1))) m := by
  refine Loc.ofC DvhO_ok hm F_slices_IndexFunc_Point_ok (by simp [F_slices_IndexFunc_Point]) (.inl rfl) m.boxes.length m.tips.length (Nat.le_refl _) (Nat.le_refl _) fun hu => ?_
  simp [F_slices_IndexFunc_Point]
  refine wp_loop (fun k s m1 => s 7 = .val (.int .i64 0) ∧ s 8 = .val (.int .i64 0) ∧ m1 = m) 0 (IW.of ⟨by simp, by simp, rfl⟩) fun k s m1 ⟨s7, s8, hm1⟩ => ?_
  subst hm1
  simp [F_slices_IndexFunc_Point_L0, s7, s8, hu]
/-- The checkpoints that a slice holds. -/
def rdP (m : Mem) : V → Option (List Pt)
  | .full 3 [] => some []
  | .buf 0 3 n _ q => (m.boxes[q]?).bind fun C => if C.length = n * 3 ∧ n ≤ 2 ^ 40 then decX (chunkV 3 n C) else none
  | _ => none
theorem rdP_app {m : Mem} {v : V} {l : List Pt} (h : rdP m v = some l) (ex : List (List V)) (t : List Tip) : rdP ⟨m.boxes ++ ex, t⟩ v = some l := by
  unfold rdP at h ⊢
  split at h
  · exact h
  · rename_i n lc q
    simp only [Option.bind_eq_some_iff] at h ⊢
    obtain ⟨C, hC, h⟩ := h
    exact ⟨C, (List.getElem?_append_left (lt_of_some hC)).trans hC, h⟩
  · cases h
def sp_idxPt : List V → Mem → Option (V × Mem)
  | [v, .func 184 [.ptr r 0]], m => (rdP m v).bind fun l => (boxId m r).map fun id => (.val (.int .i64 (idAt l id)), m)
  | _, _ => none
theorem sp_idxPt_ok : EOkL Try.prog n_slices_IndexFunc_Point sp_idxPt := by
  intro args m v m' h
  unfold sp_idxPt at h
  split at h
  · simp only [Option.bind_eq_some_iff, Option.map_eq_some_iff] at h
    obtain ⟨l, hl, id, hid, h⟩ := h
    cases h
    unfold rdP at hl
    split at hl
    · cases hl
      exact c_idxPt0 m _
    · simp only [Option.bind_eq_some_iff] at hl
      obtain ⟨C, hC, hl⟩ := hl
      split at hl
      · rename_i hc
        exact c_idxPt m _ _ _ _ C l id ⟨hC, hc.1, hl⟩ hid hc.2
      · cases hl
    · cases hl
  · cases h
def sp_delPt : List V → Mem → Option (V × Mem)
  | [.buf 0 3 n lc b, .val (.int .i64 i), .val (.int .i64 j)], m => if j = i + 1 ∧ 0 ≤ i ∧ i < n then (m.boxes[b]?).bind fun C => if C.length = n * 3 then
      some (.buf 0 3 (n - 1) lc b, { m with boxes := m.boxes.set b (C.take (i.toNat * 3) ++ C.drop ((i.toNat + 1) * 3)) }) else none else none
  | _, _ => none
theorem sp_delPt_ok : EOkL Try.prog 185 sp_delPt := by
  intro args m v m' h
  unfold sp_delPt at h
  split at h
  · rename_i n lc b i j
    split at h
    · rename_i hc
      simp only [Option.bind_eq_some_iff] at h
      obtain ⟨C, hC, h⟩ := h
      split at h
      · rename_i hl
        cases h
        obtain ⟨rfl, h0, h1⟩ := hc
        obtain ⟨i, rfl⟩ : ∃ k : Nat, i = k := ⟨i.toNat, by omega⟩
        have := c_delPt m b n lc i C hC (isObj_long (by omega)) (by omega) (by omega)
        rw [← hl, List.take_length] at this
        exact this
      · cases h
    · cases h
  · cases h
def DviO : Orc := (Orc.nil.addL n_slices_IndexFunc_Point sp_idxPt).addL 185 sp_delPt
theorem DviO_ok : OOk Try.prog DviO := (OOk.nil.addL sp_idxPt_ok).addL sp_delPt_ok
theorem c_vdropN (m : Mem) (p : Nat) (b g la : Int) (cm cp ct : V) (l : List Pt) (c : Ch) (hp : m.boxes[p]? = some (stC b g cm cp la ct)) (hP : rdP m cp = some l) (hneg : idAt l c.id < 0) :
    Loc Try.prog n_volume_drop [.ptr p 0, enc c] m (.val (.int .i64 111)) m := by
  have hpl : p < m.boxes.length := lt_of_some hp
  obtain ⟨f1, f2, f3, f4, f5, f6, f7⟩ := box_facts hpl
  have hp' : m.boxes[p]? = some [.val (.int .i64 b), .val (.int .i64 g), cm, cp, .val (.int .i64 la), ct] := hp
  refine Loc.ofC DviO_ok hm F_volume_drop_ok (by simp [F_volume_drop]) (.inl rfl) m.boxes.length m.tips.length (Nat.le_refl _) (Nat.le_refl _) fun hu => ?_
  have hP' := rdP_app hP [cs c] m.tips
  have hid : boxId ⟨m.boxes ++ [cs c], m.tips⟩ m.boxes.length = some c.id := by simp [boxId]
  simp at hP' hid
  simp [F_volume_drop, DviO, sp_idxPt, f1, hp', hP', hid, hneg, hu]
theorem underL_iff {k j : Nat} : ∀ {l : List V}, underL k j l = true ↔ ∀ v ∈ l, v.under k j = true
  | [] => by simp [underL]
  | v :: l => by simp [underL, underL_iff (l := l)]
theorem c_vdropY (m : Mem) (p q n lc i : Nat) (b g la : Int) (cm ct : V) (C : List V) (l : List Pt) (c : Ch) (hp : m.boxes[p]? = some (stC b g cm (.buf 0 3 n lc q) la ct)) (hC : m.boxes[q]? = some C) (hl : C.length = n * 3) (hn : n ≤ 2 ^ 40) (hd : decX (chunkV 3 n C) = some l) (hi : idAt l c.id = i) (hin : i < n) (hqp : q ≠ p) :
    Loc Try.prog n_volume_drop [.ptr p 0, enc c] m (.val (.int .i64 0)) { m with boxes := (m.boxes.set q (C.take (i * 3) ++ C.drop ((i + 1) * 3))).set p (stC b g cm (.buf 0 3 (n - 1) lc q) la ct) } := by
  have hpl : p < m.boxes.length := lt_of_some hp
  have hql : q < m.boxes.length := lt_of_some hC
  have hP : rdP m (.buf 0 3 n lc q) = some l := by
    simp only [rdP, hC, Option.bind_some]
    rw [if_pos ⟨hl, hn⟩, hd]
  simp only [Nat.reducePow] at hn
  obtain ⟨f1, f2, f3, f4, f5, f6, f7⟩ := box_facts hpl
  have hp' : m.boxes[p]? = some [.val (.int .i64 b), .val (.int .i64 g), cm, .buf 0 3 n lc q, .val (.int .i64 la), ct] := hp
  refine Loc.ofC DviO_ok hm F_volume_drop_ok (by simp [F_volume_drop]) (.inl rfl) m.boxes.length m.tips.length (Nat.le_refl _) (Nat.le_refl _) fun hu => ?_
  have hub := underX_iff.1 hu _ (List.mem_of_getElem? hp)
  simp only [stC, underL, V.under, Bool.and_eq_true] at hub
  have hP' := rdP_app hP [cs c] m.tips
  have hid : boxId ⟨m.boxes ++ [cs c], m.tips⟩ m.boxes.length = some c.id := by simp [boxId]
  simp at hP' hid
  have g1 : ∀ (b : List (List V)), (m.boxes ++ b)[q]? = some C := fun b => by rw [List.getElem?_append_left hql, hC]
  have g2 : ∀ (b : List (List V)) (y : List V), (m.boxes ++ b).set q y = m.boxes.set q y ++ b := fun b y => List.set_append_left q y hql
  have g3 : ∀ (ex : List (List V)) (y : List V), (m.boxes.set q y ++ ex)[p]? = some [.val (.int .i64 b), .val (.int .i64 g), cm, .buf 0 3 n lc q, .val (.int .i64 la), ct] := fun ex y => by
    rw [List.getElem?_append_left (by simpa using hpl), List.getElem?_set_ne hqp, hp']
  have g4 : ∀ (b : List (List V)) (y z : List V), (m.boxes.set q y ++ b).set p z = (m.boxes.set q y).set p z ++ b := fun b y z => List.set_append_left p z (by simpa using hpl)
  have w1 := IntWalk.i64_in ((i : Int) + 1) (by omega)
  have hi0 : ¬ (i : Int) < 0 := by omega
  have hin' : (i : Int) < n := by omega
  simp [F_volume_drop, DviO, sp_idxPt, sp_delPt, f1, hp', hP', hid, hi, hi0, hin, hin', w1, g1, g2, g3, g4, hl, stC]
  have huC := underL_iff.1 (underX_iff.1 hu _ (List.mem_of_getElem? hC))
  refine underX_set (underX_set hu (underL_iff.2 fun v hv => ?_)) ?_
  · rcases List.mem_append.1 hv with hv | hv
    · exact huC v (List.mem_of_mem_take hv)
    · exact huC v (List.mem_of_mem_drop hv)
  · simp only [underL, V.under, Bool.and_eq_true, decide_eq_true_eq]
    exact ⟨trivial, trivial, hub.2.2.1, hql, trivial, hub.2.2.2.2.2.1, trivial⟩
end Go.Av

namespace Go.Av
open Enc (enc dec)
open Cel (cs dc)
open Go.Proofs Pl

theorem underX_app2 {k j : Nat} {a b : List (List V)} (ha : underX k j a = true) (hb : underX k j b = true) : underX k j (a ++ b) = true := by
  rw [underX_iff] at ha hb ⊢
  intro e he
  rcases List.mem_append.1 he with he | he
  · exact ha e he
  · exact hb e he
def DvkO : Orc := Orc.nil.add n_state_extents (sp1 sp_extents)
theorem DvkO_ok : OOk Try.prog DvkO := OOk.nil.add sp_extents_ok
/-- How many elements. -/
def cntP : V → Option Nat
  | .full 3 [] => some 0
  | .buf 0 3 n _ _ => some n
  | _ => none
/-- Why a checkpoint is not made; 0 if it is. -/
def pointE (g la : Int) (n : Nat) (id : Int) : Int := if id ≤ la then 112 else if n = 4 ∨ g = 2147483647 then 113 else 0
theorem c_vpointN (m : Mem) (p : Nat) (b g la : Int) (cm cp ct : V) (n : Nat) (c : Ch) (hp : m.boxes[p]? = some (stC b g cm cp la ct)) (hn : cntP cp = some n) (he : ¬ pointE g la n c.id = 0) :
    Loc Try.prog n_volume_point [.ptr p 0, enc c] m (.val (.int .i64 (pointE g la n c.id))) m := by
  have hpl : p < m.boxes.length := lt_of_some hp
  obtain ⟨f1, f2, f3, f4, f5, f6, f7⟩ := box_facts hpl
  have hp' : m.boxes[p]? = some [.val (.int .i64 b), .val (.int .i64 g), cm, cp, .val (.int .i64 la), ct] := hp
  refine Loc.ofC DvkO_ok hm F_volume_point_ok (by simp [F_volume_point]) (.inl rfl) m.boxes.length m.tips.length (Nat.le_refl _) (Nat.le_refl _) fun hu => ?_
  by_cases h1 : c.id ≤ la
  · simp [F_volume_point, DvkO, f1, hp', h1, hu, pointE]
  · unfold cntP at hn
    by_cases h2 : n = 4
    · subst h2
      split at hn
      · cases hn
      · cases hn
        simp [F_volume_point, DvkO, f1, hp', h1, hu, pointE]
      · cases hn
    · have h3 : g = 2147483647 := by
        simp only [pointE, h1, if_false, h2, false_or] at he
        by_cases h : g = 2147483647
        · exact h
        · rw [if_neg h] at he; exact absurd rfl he
      subst h3
      have h4 : ¬ (n : Int) = 4 := by omega
      split at hn
      · cases hn
        simp [F_volume_point, DvkO, f1, hp', h1, hu, pointE]
      · cases hn
        simp [F_volume_point, DvkO, f1, hp', h1, h4, hu, pointE]
      · cases hn
theorem c_vpointF (m : Mem) (p : Nat) (b g la : Int) (cm ct : V) (M : List Xt) (c : Ch) (hp : m.boxes[p]? = some (stC b g cm (.full 3 []) la ct)) (hM : dec cm = some M) (hMs : xtS M) (h1 : ¬ c.id ≤ la) (h2 : ¬ g = 2147483647) (hg : g ≤ 2147483647) (hg0 : 0 ≤ g) :
    Loc Try.prog n_volume_point [.ptr p 0, enc c] m (.val (.int .i64 0)) { m with boxes := m.boxes.set p (stC b (g + 1) cm (.buf 0 3 1 1 (m.boxes.length + 1)) c.id ct) ++ [cs c, [.val (.int .i64 c.id), .val (.int .i64 g), .lit 5 (M.map cs)]] } := by
  have hpl : p < m.boxes.length := lt_of_some hp
  obtain ⟨f1, f2, f3, f4, f5, f6, f7⟩ := box_facts hpl
  have hp' : m.boxes[p]? = some [.val (.int .i64 b), .val (.int .i64 g), cm, .full 3 [], .val (.int .i64 la), ct] := hp
  have w1 := IntWalk.i64_in (g + 1) (by omega)
  refine Loc.ofC DvkO_ok hm F_volume_point_ok (by simp [F_volume_point]) (.inl rfl) (m.boxes.length + 2) m.tips.length (by omega) (Nat.le_refl _) fun hu => ?_
  simp [F_volume_point, DvkO, f1, f2, f3, f6, hp', h1, h2, hM, hMs, w1, stC]
  rw [List.take_of_length_le (by simp)]
  refine ⟨?_, rfl⟩
  have hub := underX_iff.1 hu _ (List.mem_of_getElem? hp)
  simp only [stC, underL, V.under, Bool.and_eq_true] at hub
  refine underX_app2 (underX_set (underX_mono (by omega) (Nat.le_refl _) _ hu) ?_) ?_
  · simp only [underL, V.under, Bool.and_eq_true, decide_eq_true_eq]
    exact ⟨trivial, trivial, under_mono (by omega) (Nat.le_refl _) _ hub.2.2.1, by omega, trivial, under_mono (by omega) (Nat.le_refl _) _ hub.2.2.2.2.2.1, trivial⟩
  · simp only [underX, underL, V.under, Bool.and_eq_true, under_csX, and_self]
theorem c_vpointB (m : Mem) (p q n lc : Nat) (b g la : Int) (cm ct : V) (M : List Xt) (C : List V) (c : Ch) (hp : m.boxes[p]? = some (stC b g cm (.buf 0 3 n lc q) la ct)) (hC : m.boxes[q]? = some C) (hl : C.length = n * 3) (hob : isObj C = false) (hn : n ≤ 2 ^ 20) (hqp : q ≠ p) (hM : dec cm = some M) (hMs : xtS M) (h1 : ¬ c.id ≤ la) (h3 : ¬ n = 4) (h2 : ¬ g = 2147483647) (hg : g ≤ 2147483647) (hg0 : 0 ≤ g) :
    Loc Try.prog n_volume_point [.ptr p 0, enc c] m (.val (.int .i64 0)) { m with boxes := (m.boxes.set q deadC).set p (stC b (g + 1) cm (.buf 0 3 (n + 1) (n + 1) (m.boxes.length + 1)) c.id ct) ++ [cs c, C ++ [.val (.int .i64 c.id), .val (.int .i64 g), .lit 5 (M.map cs)]] } := by
  have hpl : p < m.boxes.length := lt_of_some hp
  have hql : q < m.boxes.length := lt_of_some hC
  simp only [Nat.reducePow] at hn
  obtain ⟨f1, f2, f3, f4, f5, f6, f7⟩ := box_facts hpl
  have hp' : m.boxes[p]? = some [.val (.int .i64 b), .val (.int .i64 g), cm, .buf 0 3 n lc q, .val (.int .i64 la), ct] := hp
  have w1 := IntWalk.i64_in (g + 1) (by omega)
  have h4 : ¬ (n : Int) = 4 := by omega
  have g1 : ∀ (b : List (List V)), (m.boxes ++ b)[q]? = some C := fun b => by rw [List.getElem?_append_left hql, hC]
  have g2 : ∀ (b : List (List V)) (y : List V), (m.boxes ++ b).set q y = m.boxes.set q y ++ b := fun b y => List.set_append_left q y hql
  have g3 : ∀ (ex : List (List V)) (y : List V), (m.boxes.set q y ++ ex)[p]? = some [.val (.int .i64 b), .val (.int .i64 g), cm, .buf 0 3 n lc q, .val (.int .i64 la), ct] := fun ex y => by
    rw [List.getElem?_append_left (by simpa using hpl), List.getElem?_set_ne hqp, hp']
  have g4 : ∀ (b : List (List V)) (y z : List V), (m.boxes.set q y ++ b).set p z = (m.boxes.set q y).set p z ++ b := fun b y z => List.set_append_left p z (by simpa using hpl)
  have g5 : ∀ (b : List (List V)) (x y : List V), (((m.boxes.set q x).set p y) ++ b)[p]? = some y := fun b x y => by
    rw [List.getElem?_append_left (by simpa using hpl), List.getElem?_set_self (by simpa using hpl)]
  have g6 : ∀ (b : List (List V)) (x y z : List V), (((m.boxes.set q x).set p y) ++ b).set p z = ((m.boxes.set q x).set p z) ++ b := fun b x y z => by
    rw [List.set_append_left p z (by simpa using hpl), List.set_set]
  have g7 : C.take (n * 3) = C := List.take_of_length_le (by omega)
  refine Loc.ofC DvkO_ok hm F_volume_point_ok (by simp [F_volume_point]) (.inl rfl) (m.boxes.length + 2) m.tips.length (by omega) (Nat.le_refl _) fun hu => ?_
  simp [F_volume_point, DvkO, f1, hp', h1, h2, h4, hM, hMs, w1, stC, g1, g2, g3, g4, g5, g6, g7, hob, hl]
  rw [List.take_of_length_le (by simp)]
  refine ⟨by omega, ?_, rfl⟩
  have hub := underX_iff.1 hu _ (List.mem_of_getElem? hp)
  have huC := underX_iff.1 hu _ (List.mem_of_getElem? hC)
  simp only [stC, underL, V.under, Bool.and_eq_true] at hub
  have hd : underL (m.boxes.length + 2) m.tips.length deadC = true := rfl
  refine underX_app2 (underX_set (underX_set (underX_mono (by omega) (Nat.le_refl _) _ hu) hd) ?_) ?_
  · simp only [underL, V.under, Bool.and_eq_true, decide_eq_true_eq]
    exact ⟨trivial, trivial, under_mono (by omega) (Nat.le_refl _) _ hub.2.2.1, by omega, trivial, under_mono (by omega) (Nat.le_refl _) _ hub.2.2.2.2.2.1, trivial⟩
  · simp only [underX, underL, V.under, Bool.and_eq_true, under_csX, and_self, true_and, and_true]
    refine underL_iff.2 fun v hv => ?_
    rcases List.mem_append.1 hv with hv | hv
    · exact under_mono (by omega) (Nat.le_refl _) _ (underL_iff.1 huC v hv)
    · simp at hv
      rcases hv with rfl | rfl | rfl
      · rfl
      · rfl
      · exact under_csX _ _ M
end Go.Av

namespace Go.Av
open Enc (enc dec)
open Cel (cs dc)
open Go.Proofs Pl

@[simp] def sp_stCheck (q : Sta) : Option (V × List Tip) := if q.map.length ≤ 2 ^ 30 ∧ q.pts.length ≤ 2 ^ 30 ∧ (∀ p ∈ q.pts, p.map.length ≤ 2 ^ 30) ∧ q.staged.length ≤ 2 ^ 30 then some (enc (staE q), []) else none
theorem sp_stCheck_ok : EOk Try.prog n_state_Check (sp1 sp_stCheck) := sp1_ok fun q r h => by
  simp only [sp_stCheck] at h
  split at h <;> cases h
  exact c_st_Check q (by assumption)
theorem sp_Seal_ok : EOk Try.prog n_crc_Seal (sp1 sp_Seal) := sp1_ok fun l r h => by
  simp only [sp_Seal] at h
  split at h <;> cases h
  exact c_crc_Seal l (by assumption)
def D33 : Orc := ((((Orc.nil.add n_state_Check (sp1 sp_stCheck)).add n_le_Pack (sp2 sp_pack)).add n_crc_Seal (sp1 sp_Seal)).addL n_snap_Write_1 sp_put).addL n_snap_Write_2 sp_counted
theorem D33_ok : OOk Try.prog D33 := ((((OOk.nil.add sp_stCheck_ok).add sp_pack_ok).add sp_Seal_ok).addL sp_put_ok).addL sp_counted_ok
theorem f_bwwbh : formOk ⟨#[98, 119, 119, 98, 104]⟩ = true := by decide
theorem f_ww : formOk ⟨#[119, 119]⟩ = true := by decide
def SWriteI (q : Sta) (k : Nat) (s : Nat → V) (m : Mem) : Prop :=
  ∃ (i t : Nat) (bx : List (List V)) (tips : List Tip) (acc : List UInt8), i + k = q.pts.length ∧ s 1 = .ptr 0 0 ∧ s 5 = .ptr 1 0 ∧ s 6 = .ptr 2 0 ∧ s 7 = .ptr 3 0 ∧ s 8 = .func n_snap_Write_2 [.ptr 3 0] ∧ s 50 = .lit 3 (q.pts.map cs) ∧ s 51 = .val (.int .i64 q.pts.length) ∧ s 52 = .val (.int .i64 i) ∧
    acc = ((headB q ++ q.staged) ++ mapB q.map) ++ (q.pts.take i).flatMap ptB ∧ acc.length ≤ 10000 + 2520 * i ∧ m = ⟨cs q :: [.row t 1 (acc.map cs)] :: [.val (.int .i64 0)] :: [.func n_snap_Write_1 [.ptr 1 0, .ptr 2 0]] :: bx, tips⟩ ∧ tips[t]? = some (5, 1, acc.length)
set_option maxRecDepth 4000 in
theorem c_snap_Write (q : Sta) (hq : staLen q) : Pure Try.prog n_snap_Write [enc q] (.tuple [.row 0 1 ((snapB q).map cs), enc (staE q)]) [(5, 1, (snapB q).length)] := by
  have hq' := hq
  unfold staLen at hq'
  refine Pure.ofR D33_ok hm F_snap_Write_ok (by simp [F_snap_Write]) (by simp [V.res, V.res1]) ?_
  cases hok : staOk q with
  | false =>
    have e : staE q = 110 := by simp [staE, hok]
    simp [F_snap_Write, D33, hq', e, snapB, hok]
    exact hq'.2.2.1
  | true =>
    have e : staE q = 0 := by simp [staE, hok]
    obtain ⟨f1, f2, f3, f4, f5, f6, f7, f8⟩ := staOk_fine hok
    have fb := mapOk_le f1
    have v1 : IntKind.u64.wrap q.blocks = q.blocks := IntWalk.u64_in _ (by omega)
    have v2 : IntKind.u64.wrap q.gen = q.gen := IntWalk.u64_in _ (by omega)
    have v3 : IntKind.u64.wrap q.last = q.last := IntWalk.u64_in _ (by omega)
    have v4 : IntKind.u64.wrap (q.pts.length : Int) = q.pts.length := IntWalk.u64_in _ (by omega)
    have v5 : IntKind.u64.wrap (q.staged.length : Int) = q.staged.length := IntWalk.u64_in _ (by omega)
    have hp : packS [98, 119, 119, 98, 104] [q.blocks.toNat, q.gen.toNat, q.last.toNat, q.pts.length, q.staged.length] = some (headB q) := by
      have m1 : mayB q.blocks.toNat 1 = true := by simp [mayB]; omega
      have m2 : mayB q.gen.toNat 4 = true := by simp [mayB]; omega
      have m3 : mayB q.last.toNat 4 = true := by simp [mayB]; omega
      have m4 : mayB q.pts.length 1 = true := by simp [mayB]; omega
      have m5 : mayB q.staged.length 2 = true := by simp [mayB]; omega
      simp [packS, sizeL, m1, m2, m3, m4, m5, headB]
    have hp1 : packB [98, 119, 119, 98, 104] [q.blocks.toNat, q.gen.toNat, q.last.toNat, q.pts.length, q.staged.length] = headB q := by simp [packB, hp]
    have hp2 : packE [98, 119, 119, 98, 104] [q.blocks.toNat, q.gen.toNat, q.last.toNat, q.pts.length, q.staged.length] = 0 := by simp [packE, hp]
    have hhl : (headB q).length = 12 := by simp [headB, leB_length]
    obtain ⟨c1, c2⟩ := cnt_ok f1
    have c3 := mapB_length f1
    have f2' : (0 : Int) ≤ q.gen := by omega
    have fb' : (0 : Int) ≤ q.blocks := by omega
    simp [F_snap_Write, D33, hq', e, v1, v2, v3, v4, v5, f_bwwbh, hp1, hp2, hhl, sp_put, sp_counted, putM, cntM, decX_map, c1, c2, f2', fb', f5]
    have hml : (q.map.length : Int) ≤ 64 := by
      have h := f1
      simp only [mapOk, Bool.and_eq_true, decide_eq_true_eq] at h
      have := (mapFrom_len h.2).1
      omega
    refine ⟨hq'.2.2.1, by omega, ⟨by omega, by omega⟩, ?_⟩
    refine wp_loop (SWriteI q) q.pts.length (IW.of ⟨0, 1, [], [(5, 1, 0), (5, 1, 12 + q.staged.length + (mapB q.map).length), (114, 1, 5)], ((headB q ++ q.staged) ++ mapB q.map) ++ (q.pts.take 0).flatMap ptB, by omega, by simp, by simp, by simp, by simp, by simp, by simp, by simp, by simp, rfl, by simp [hhl]; omega, by simp, by simp [hhl]; omega⟩) fun k s m ⟨i, t, bx, tips, acc, hik, s1, s5, s6, s7, s8, s50, s51, s52, hacc, hal, hm, ht⟩ => ?_
    subst hm
    by_cases hi : i < q.pts.length
    · have hg : q.pts[i]? = some q.pts[i] := List.getElem?_eq_getElem hi
      have w1 := IntWalk.i64_in ((i : Int) + 1) (by omega)
      have ht1 : q.pts.take (i + 1) = q.pts.take i ++ [q.pts[i]] := by rw [List.take_add_one, hg]; rfl
      obtain ⟨p, hpe⟩ : ∃ p, p = q.pts[i] := ⟨_, rfl⟩
      obtain ⟨g1, g2, g3, g4, g5⟩ := f8 q.pts[i] (List.getElem_mem hi)
      rw [← hpe] at ht1 g1 g2 g3 g4 g5
      have htl : t < tips.length := lt_of_some ht
      have u1 : IntKind.u64.wrap p.id = p.id := IntWalk.u64_in _ (by omega)
      have u2 : IntKind.u64.wrap p.gen = p.gen := IntWalk.u64_in _ (by omega)
      have hpp : packS [119, 119] [p.id.toNat, p.gen.toNat] = some (leB p.id.toNat 4 ++ leB p.gen.toNat 4) := by
        have m1 : mayB p.id.toNat 4 = true := by simp [mayB]; omega
        have m2 : mayB p.gen.toNat 4 = true := by simp [mayB]; omega
        simp [packS, sizeL, m1, m2]
      have hpp1 : packB [119, 119] [p.id.toNat, p.gen.toNat] = leB p.id.toNat 4 ++ leB p.gen.toNat 4 := by simp [packB, hpp]
      have hpp2 : packE [119, 119] [p.id.toNat, p.gen.toNat] = 0 := by simp [packE, hpp]
      obtain ⟨d1, d2⟩ := cnt_ok g1
      have d3 := mapB_length g1
      have hml2 : (p.map.length : Int) ≤ 64 := by
        have h := g1
        simp only [mapOk, Bool.and_eq_true, decide_eq_true_eq] at h
        have := (mapFrom_len h.2).1
        omega
      have g2' : (0 : Int) ≤ p.id := by omega
      have g4' : (0 : Int) ≤ p.gen := by omega
      simp [F_snap_Write_L0, D33, s1, s5, s6, s7, s8, s50, s51, s52, hi, hg, ← hpe, w1, u1, u2, f_ww, hpp1, hpp2, sp_put, sp_counted, putM, cntM, decX_map, d1, d2, g2', g4', leB_length, List.getElem?_append_left htl, ht, tipset htl]
      refine ⟨by omega, ⟨by omega, by omega⟩, k - 1, by omega, IW.of (show SWriteI q _ _ _ from ⟨i + 1, t, _, _, acc ++ ptB p, by omega, by simpa using s1, by simpa using s5, by simpa using s6, by simpa using s7, by simpa using s8, by simpa using s50, by simpa using s51, by simp, ?_, ?_, by simp [ptB]; exact ⟨rfl, rfl⟩, ?_⟩)⟩
      · rw [hacc, ht1, List.flatMap_append]; simp
      · simp [ptB, leB_length]; omega
      · rw [List.getElem?_set_self (by simp; omega)]
        simp [ptB, leB_length, Nat.add_assoc]
        omega
    · have hil : i = q.pts.length := by omega
      rw [hil, List.take_length] at hacc
      have e2 : snapB q = sealS acc := by simp [snapB, hok, bodyS, hacc]
      simp [F_snap_Write_L0, D33, s1, s5, s6, s7, s8, s50, s51, s52, hi, F_snap_Write, decX_map, e2]
      omega
end Go.Av

namespace Go.Av
open Enc (enc dec)
open Cel (cs dc)
open Go.Proofs Pl

/-- A function that leaves boxes: the first k of them are kept, and the first j rows. -/
theorem Loc.ofW {P : Program} {D : Orc} {own : Nat → Bool} {f : FuncId} {F : F} {args : List V} (hD : OOk P D) (hm : P.follows .mixedOrders = true) (hF : compF P own f = some F) {m m' : Mem} {r : V} (hn : args.length ≤ F.n) (k j : Nat) (hk : m.boxes.length ≤ k) (hj : m.tips.length ≤ j)
    (h : underX m.boxes.length m.tips.length m.boxes = true → wp P noY D F.c (argS args) m (Fin F.rs fun v m1 => (v = r ∨ v.top = r) ∧ r.under k j = true ∧ underX k j (m1.boxes.take k) = true ∧ m' = ⟨m1.boxes.take k, m1.tips.take j⟩)) : Loc P f args m r m' := by
  have hcl : callable P f = true := by
    unfold compF at hF
    split at hF
    · assumption
    · cases hF
  refine ⟨hcl, fun B I0 w0 M w vals hg hr => ?_⟩
  refine (calls_sound hm hF hn hg hr YOk.no (wp_sound hD _ (h hg.under))).2.mono fun e w' ⟨x, M', v, m1, he, hE, hg', hx, hv, hu, hb, hm'⟩ => ?_
  refine ⟨x, M'.cut k j, he, Mp.cut_ext M' k j hE (by rw [hg.lβ]; exact hk) (by rw [hg.lγ]; exact hj), by rw [hm']; exact hg'.cut hb, Rep.cut r x hu ?_⟩
  rcases hv with rfl | rfl
  · exact hx
  · exact hx.top
theorem Loc.lit_nil {P : Program} {f : FuncId} {rest : List V} {sz : Nat} {m m' : Mem} {r : V} (h1 : Loc P f (.val (.slice none 0 0) :: rest) m r m') (h2 : Loc P f (.emp sz :: rest) m r m') : Loc P f (.lit sz [] :: rest) m r m' := by
  refine ⟨h1.1, fun B I0 w0 M w vals hg hr => ?_⟩
  obtain ⟨x, rl, e, hx, hrest⟩ := hr
  rcases hx with ⟨_, rfl⟩ | ⟨ad, c, rfl, _⟩
  · exact h1.2 B I0 w0 M w vals hg ⟨_, rl, e, ⟨rfl, rfl⟩, hrest⟩
  · exact h2.2 B I0 w0 M w vals hg ⟨_, rl, e, ⟨ad, c, rfl⟩, hrest⟩
theorem IW.box {I : (Nat → V) → Mem → Prop} {s : Nat → V} {m : Mem} (b : Nat) {cs cs' : List V} (hb : m.boxes[b]? = some cs) (hno : isObj cs = false) (hle : cs'.length = cs.length) (hrep : ∀ (M : Mp) (w : World) us, RepL M w cs us → RepL M w cs' us) (h : I s { m with boxes := m.boxes.set b cs' }) : IW I s m :=
  ⟨_, _, Wkn.box hb hno hle hrep, h⟩
/-- Checkpoints copied to a box. -/
def ptsV (l : List Pt) (q : Nat) : V := if l = [] then .full 3 [] else .buf 0 3 l.length l.length q
def sp_cloneP : List V → Mem → Option (V × Mem)
  | [v], m => (dec v : Option (List Pt)).bind fun l => if l.length ≤ 2 ^ 20 then (if l = [] then some (.full 3 [], m) else some (.buf 0 3 l.length l.length m.boxes.length, { m with boxes := m.boxes ++ [(l.map cs).flatten] })) else none
  | _, _ => none
theorem under_flat {α : Type} [Cel α] (k j : Nat) (l : List α) : underL k j (l.map cs).flatten = true := by
  refine underL_iff.2 fun v hv => ?_
  obtain ⟨e, he, hv⟩ := List.mem_flatten.1 hv
  exact underL_iff.1 (underX_iff.1 (under_csX k j l) e he) v hv
theorem c_cloneN (m : Mem) : Loc Try.prog n_slices_Clone_Point [.val (.slice none 0 0)] m (.full 3 []) m := by
  refine ⟨by kernel_rfl, fun B I0 w0 M w vals hg hr => ?_⟩
  obtain ⟨v0, r0, e0, ⟨rfl, _⟩, rfl⟩ := hr
  obtain ⟨l, hl⟩ : ∃ l, vals = Array.mk l := ⟨vals.toList, rfl⟩
  subst hl
  simp only at e0
  subst e0
  refine (clone_nil w).mono ?_
  rintro e w' ⟨rfl, rfl⟩
  exact ⟨_, M, rfl, Ext.refl M w', hg, .inl ⟨rfl, rfl⟩⟩
theorem c_cloneP (m : Mem) (l : List Pt) (hl : l.length ≤ 2 ^ 20) : Loc Try.prog n_slices_Clone_Point [enc l] m (ptsV l m.boxes.length) (if l = [] then m else { m with boxes := m.boxes ++ [(l.map cs).flatten] }) := by
  simp only [Nat.reducePow] at hl
  cases l with
  | nil =>
    refine Loc.lit_nil (c_cloneN m) (Loc.ofB (al := fun _ => false) (wk := fun _ => false) OOk.nil hm F_slices_Clone_Point_ok (by simp [F_slices_Clone_Point]) m.boxes.length m.tips.length (Nat.le_refl _) (Nat.le_refl _) fun hu => ?_)
    simp [F_slices_Clone_Point, ptsV, hu]
  | cons x t =>
    refine Loc.ofB (al := fun _ => false) (wk := fun _ => false) OOk.nil hm F_slices_Clone_Point_ok (by simp [F_slices_Clone_Point]) (m.boxes.length + 1) m.tips.length (by omega) (Nat.le_refl _) fun hu => ?_
    simp at hl
    simp [F_slices_Clone_Point, ptsV]
    rw [List.take_of_length_le (by simp)]
    refine ⟨by omega, underX_app2 (underX_mono (by omega) (Nat.le_refl _) _ hu) ?_, rfl⟩
    have := under_flat (m.boxes.length + 1) m.tips.length (x :: t)
    simp only [underX, Bool.and_true]
    simpa using this
theorem sp_cloneP_ok : EOkL Try.prog n_slices_Clone_Point sp_cloneP := by
  intro args m v m' h
  unfold sp_cloneP at h
  split at h
  · simp only [Option.bind_eq_some_iff] at h
    obtain ⟨l, hl, h⟩ := h
    split at h
    · rename_i hc
      have := (c_cloneP m l hc).wk (wk_dec wk_nil hl)
      split at h
      · rename_i h0
        cases h
        simpa [ptsV, h0] using this
      · rename_i h0
        cases h
        simpa [ptsV, h0] using this
    · cases h
  · cases h
def DvjC : Orc := (((Orc.nil.add n_state_Check (sp1 sp_stCheck)).add n_state_extents (sp1 sp_extents)).add n_bytes_Clone (sp1 sp_clone)).addL n_slices_Clone_Point sp_cloneP
theorem DvjC_ok : OOk Try.prog DvjC := (((OOk.nil.add sp_stCheck_ok).add sp_extents_ok).add sp_clone_ok).addL sp_cloneP_ok
/-- A copy's cells. -/
def cpC (q : Sta) (T k : Nat) : List V := stC q.blocks q.gen (.row T 5 (q.map.map cs)) (ptsV q.pts k) q.last (.row (T + 1) 1 (q.staged.map cs))
def cpM (q : Sta) (m : Mem) : Mem := ⟨m.boxes ++ [cpC q m.tips.length (m.boxes.length + 2), cpC q m.tips.length (m.boxes.length + 2)] ++ (if q.pts = [] then [] else [(q.pts.map cs).flatten]), m.tips ++ [(174, 5, q.map.length), (5, 1, q.staged.length)]⟩
def CpI0 (m : Mem) (b g la : Int) (mp : List Xt) (st : List UInt8) (k : Nat) (s : Nat → V) (m1 : Mem) : Prop :=
  s 1 = .ptr m.boxes.length 0 ∧ s 2 = .ptr (m.boxes.length + 1) 0 ∧ s 23 = .val (.int .i64 0) ∧ s 24 = .val (.int .i64 0) ∧
    m1 = ⟨m.boxes ++ [[.val (.int .i64 b), .val (.int .i64 g), .row m.tips.length 5 (mp.map cs), .full 3 [], .val (.int .i64 la), .row (m.tips.length + 1) 1 (st.map cs)], [.val (.int .i64 0), .val (.int .i64 0), .lit 5 [], .lit 3 [], .val (.int .i64 0), .lit 1 []]], m.tips ++ [(174, 5, mp.length), (5, 1, st.length)]⟩
def CpI (m : Mem) (b g la : Int) (mp : List Xt) (pts : List Pt) (st : List UInt8) (k : Nat) (s : Nat → V) (m1 : Mem) : Prop :=
  ∃ (i : Nat) (ex : List (List V)) (tex : List Tip), i + k = pts.length ∧ s 1 = .ptr m.boxes.length 0 ∧ s 2 = .ptr (m.boxes.length + 1) 0 ∧ s 22 = .buf 0 3 pts.length pts.length (m.boxes.length + 2) ∧ s 23 = .val (.int .i64 pts.length) ∧ s 24 = .val (.int .i64 i) ∧
    m1 = ⟨m.boxes ++ ([.val (.int .i64 b), .val (.int .i64 g), .row m.tips.length 5 (mp.map cs), .buf 0 3 pts.length pts.length (m.boxes.length + 2), .val (.int .i64 la), .row (m.tips.length + 1) 1 (st.map cs)] :: [.val (.int .i64 0), .val (.int .i64 0), .lit 5 [], .lit 3 [], .val (.int .i64 0), .lit 1 []] :: (pts.map cs).flatten :: ex), m.tips ++ ((174, 5, mp.length) :: (5, 1, st.length) :: tex)⟩
theorem c_Copy (q : Sta) (m : Mem) (hq : staOk q = true) : Loc Try.prog n_state_Copy [enc q] m (.agg (cpC q m.tips.length (m.boxes.length + 2))) (cpM q m) := by
  refine Loc.ofW DvjC_ok hm F_state_Copy_ok (by simp [F_state_Copy]) (m.boxes.length + (if q.pts = [] then 2 else 3)) (m.tips.length + 2) (by omega) (by omega) fun hu => ?_
  obtain ⟨q1, q2, q3, q4, q5, q6, q7, q8⟩ := staOk_fine hq
  have e0 : staE q = 0 := by simp [staE, hq]
  have q1l := mapOk_len q1
  have hx1 := xtS_ok (Nat.le_trans q1l (by decide)) (mapOk_all q1)
  have l1 : q.map.length ≤ 1073741824 := by omega
  have l2 : q.pts.length ≤ 1073741824 := by omega
  have l3 : ∀ p ∈ q.pts, p.map.length ≤ 1073741824 := fun p hp => by have := mapOk_len (q8 p hp).1; omega
  have l4 : q.staged.length ≤ 1073741824 := by omega
  have l5 : q.pts.length ≤ 1048576 := by omega
  have l6 : q.staged.length ≤ 140737488355328 := by omega
  obtain ⟨b, g, mp, pts, la, st⟩ := q
  simp only at hq hu q1 q2 q3 q4 q5 q6 q7 q8 e0 q1l hx1 l1 l2 l3 l4 l5 l6
  simp only
  by_cases h0 : pts = []
  · subst h0
    simp [F_state_Copy, DvjC, e0, l1, l4, l6, hx1, sp_cloneP, decX]
    refine wp_loop (CpI0 m b g la mp st) 0 (IW.of ⟨by simp, by simp, by simp, by simp, by simp⟩) fun k s m1 ⟨s1, s2, s23, s24, hm1⟩ => ?_
    subst hm1
    simp [F_state_Copy_L0, s1, s2, s23, s24, cpC, cpM, stC, ptsV]
    rw [List.take_of_length_le (by simp), List.take_of_length_le (by simp)]
    exact ⟨⟨under_csX _ _ _, under_csX _ _ _⟩, underX_app2 (underX_mono (by omega) (by omega) _ hu) (by simp [underX, underL, V.under, under_csX]), rfl, rfl⟩
  · simp [F_state_Copy, DvjC, e0, l1, l2, l4, l5, l6, hx1, sp_cloneP, h0, decX_map]
    refine ⟨l3, ?_⟩
    refine wp_loop (CpI m b g la mp pts st) pts.length (IW.of ⟨0, [], [], by omega, by simp, by simp, by simp, by simp, by simp, by simp⟩) fun k s m1 ⟨i, ex, tex, hik, s1, s2, s22, s23, s24, hm1⟩ => ?_
    subst hm1
    by_cases hi : i < pts.length
    · have w1 := IntWalk.i64_in ((i : Int) + 1) (by omega)
      obtain ⟨C, hC⟩ : ∃ C, C = (pts.map cs).flatten := ⟨_, rfl⟩
      rw [← hC]
      obtain ⟨p, hp⟩ : ∃ p, p = pts[i] := ⟨_, rfl⟩
      have hpm : p ∈ pts := by rw [hp]; exact List.getElem_mem hi
      have hxp := xtS_ok (Nat.le_trans (mapOk_len (q8 p hpm).1) (by decide)) (mapOk_all (q8 p hpm).1)
      have hCl : C.length = pts.length * 3 := by rw [hC, flat_cs]; rfl
      have hob : isObj C = false := isObj_long (by rw [hCl]; omega)
      have hd : C.drop (i * 3) = .val (.int .i64 p.id) :: .val (.int .i64 p.gen) :: .lit 5 (p.map.map cs) :: C.drop (i * 3 + 3) := by
        have hs : ∀ e ∈ pts.map cs, e.length = 3 := fun e he => by obtain ⟨u, _, rfl⟩ := List.mem_map.1 he; rfl
        rw [show i * 3 + 3 = (i + 1) * 3 by omega, hC, ← flatten_drop hs, ← flatten_drop hs, ← List.map_drop, List.drop_eq_getElem_cons hi, ← hp, List.map_cons, List.map_drop]
        rfl
      have hCt : C.map V.top1 = C := by
        refine Eq.trans (List.map_congr_left (g := id) fun v hv => ?_) (List.map_id _)
        rw [hC] at hv
        obtain ⟨e, he, hv⟩ := List.mem_flatten.1 hv
        obtain ⟨u, _, rfl⟩ := List.mem_map.1 he
        simp at hv
        rcases hv with rfl | rfl | rfl <;> rfl
      have hC2 : C = C.take (i * 3 + 2) ++ .lit 5 (p.map.map cs) :: C.drop (i * 3 + 3) := by
        have h2 : C.drop (i * 3 + 2) = .lit 5 (p.map.map cs) :: C.drop (i * 3 + 3) := by rw [← List.drop_drop, hd]; rfl
        rw [← h2, List.take_append_drop]
      have hlt : i * 3 + 3 ≤ C.length := by omega
      simp [F_state_Copy_L0, DvjC, s1, s2, s22, s23, s24, hi, w1, hob, hd, hxp, hlt, decX_map]
      refine ⟨k - 1, by omega, IW.box (m.boxes.length + 2) (cs := C.take (i * 3 + 2) ++ .row (m.tips.length + (tex.length + 1 + 1)) 5 (p.map.map cs) :: C.drop (i * 3 + 3)) (cs' := C) (by simp) (isObj_long (by simp; omega)) (by simp; omega) (fun M w us h => ?_) ⟨i + 1, ex ++ [cs p], tex ++ [(174, 5, p.map.length)], by omega, by simp [s1], by simp [s2], by simp [s22], by simp [s23], by simp, by simp [hC]⟩⟩
      have h2 := h.top1
      rw [List.map_append, List.map_cons, List.map_take, List.map_drop, hCt] at h2
      rw [hC2]
      exact h2
    · simp [F_state_Copy_L0, s1, s2, s22, s23, s24, hi, cpC, cpM, stC, ptsV, h0]
      have e5 : ∀ (x y z : List V), (m.boxes ++ (x :: y :: z :: ex)).take (m.boxes.length + 3) = m.boxes ++ [x, y, z] := fun x y z => by
        rw [show m.boxes ++ (x :: y :: z :: ex) = (m.boxes ++ [x, y, z]) ++ ex by simp, List.take_left' (by simp)]
      have e6 : ∀ (x y : Tip), (m.tips ++ (x :: y :: tex)).take (m.tips.length + 2) = m.tips ++ [x, y] := fun x y => by
        rw [show m.tips ++ (x :: y :: tex) = (m.tips ++ [x, y]) ++ tex by simp, List.take_left' (by simp)]
      rw [e5, e6]
      refine ⟨⟨under_csX _ _ _, under_csX _ _ _⟩, underX_app2 (underX_mono (by omega) (by omega) _ hu) (by simp [underX, underL, V.under, under_csX, under_flat]), rfl, rfl⟩
end Go.Av

namespace Go.Av.Pl
def chBk (k : Int) : Bool := decide (k = 1 ∨ k = 2 ∨ k = 3)
def chId (k : Int) : Bool := decide (k = 4 ∨ k = 5 ∨ k = 8)
def chD (c : Ch) : Bool := if c.kind = 1 then decide ((c.data.length : Int) = c.n * 32) else if c.kind = 6 then decide (1 ≤ (c.data.length : Int) ∧ (c.data.length : Int) ≤ 1000) else decide (c.data.length = 0)
def folG (a : Int) : List Xt → Bool
  | [] => true
  | x :: l => extOk x && decide (a ≤ x.lba) && folG (x.lba + x.len) l
def folX (l : List Xt) : Bool := folG 0 l && decide (l.length ≤ 64)
def chBs (c : Ch) : Bool := if chBk c.kind = true then decide (0 ≤ c.lba ∧ c.lba ≤ 64 ∧ 1 ≤ c.n ∧ c.n ≤ 64 - c.lba) else decide (c.lba = 0 ∧ c.n = 0)
def chIs (c : Ch) : Bool := if chId c.kind = true then decide (1 ≤ c.id ∧ c.id ≤ 2147483647) else decide (c.id = 0)
def chOk (c : Ch) : Bool := decide (1 ≤ c.kind ∧ c.kind ≤ 8) && (chBs c && chIs c && chD c && (decide (c.list.length = 0) || (decide (c.kind = 8) && folX c.list)))
end Go.Av.Pl
namespace Go.Av
open Enc (enc dec)
open Cel (cs dc)
open Go.Proofs Pl

theorem c_ch_within (n a b : Int) : Pure Try.prog n_change_within [enc n, enc a, enc b] (enc (decide (a ≤ n ∧ n ≤ b))) [] := by
  refine Pure.ofC OOk.nil hm F_change_within_ok (by simp [F_change_within]) rfl ?_
  simp [F_change_within]
  by_cases h : a ≤ n
  · simp [h]
    try omega
  · simp [h]
    try omega
theorem sp_chw_ok : EOk Try.prog n_change_within (sp3 sp_within) := sp3_ok fun n a b r h => by cases h; exact c_ch_within n a b
theorem c_ch_none (c : Ch) : Pure Try.prog n_change_kinds_1 [enc c] (enc (decide (c.data.length = 0))) [] := by
  refine Pure.ofC OOk.nil hm F_change_kinds_1_ok (by simp [F_change_kinds_1]) rfl ?_
  simp [F_change_kinds_1]
def DvkW : Orc := Orc.nil.add n_change_within (sp3 sp_within)
theorem DvkW_ok : OOk Try.prog DvkW := OOk.nil.add sp_chw_ok
theorem c_ch_some (c : Ch) : Pure Try.prog n_change_kinds_2 [enc c] (enc (decide (1 ≤ (c.data.length : Int) ∧ (c.data.length : Int) ≤ 1000))) [] := by
  refine Pure.ofC DvkW_ok hm F_change_kinds_2_ok (by simp [F_change_kinds_2]) rfl ?_
  simp [F_change_kinds_2, DvkW]
  try omega
theorem c_ch_blocks (c : Ch) (h : -2 ^ 40 ≤ c.n ∧ c.n ≤ 2 ^ 40) : Pure Try.prog n_change_kinds_3 [enc c] (enc (decide ((c.data.length : Int) = c.n * 32))) [] := by
  refine Pure.ofC OOk.nil hm F_change_kinds_3_ok (by simp [F_change_kinds_3]) rfl ?_
  have w1 := IntWalk.i64_in (c.n * 32) (by omega)
  simp [F_change_kinds_3, w1]
def kindV (a b c : Bool) (f : FuncId) : List V := [.val (.bool a), .val (.bool b), .val (.bool c), .func f []]
def kindsV : List V := [.val (.bool false), .val (.bool false), .val (.bool false), .val .nilFunc] ++ kindV true false false 181 ++ kindV true false false 179 ++ kindV true false false 179 ++ kindV false true false 179 ++ kindV false true false 179 ++ kindV false false false 180 ++ kindV false false false 179 ++ kindV false true true 179
theorem c_kinds : Pure Try.prog n_change_kinds [] (.agg kindsV) [] := by
  refine Pure.ofC OOk.nil hm F_change_kinds_ok (by simp [F_change_kinds]) rfl ?_
  simp [F_change_kinds, kindsV, kindV]
def DvkF : Orc := Orc.nil.add n_extent_Check (sp1 sp_extOk)
theorem DvkF_ok : OOk Try.prog DvkF := OOk.nil.add sp_extOk_ok
def FolI (l : List Xt) (k : Nat) (s : Nat → V) (m : Mem) : Prop :=
  ∃ (i : Nat) (a : Int), i + k = l.length ∧ 0 ≤ a ∧ a ≤ 64 ∧ folG 0 l = folG a (l.drop i) ∧ s 0 = .lit 5 (l.map cs) ∧ s 3 = .val (.int .i64 a) ∧ s 6 = .lit 5 (l.map cs) ∧ s 7 = .val (.int .i64 l.length) ∧ s 8 = .val (.int .i64 i)
theorem c_follows (l : List Xt) (hl : l.length ≤ 2 ^ 40) : Pure Try.prog n_change_follows [enc l] (enc (folX l)) [] := by
  refine Pure.ofC DvkF_ok hm F_change_follows_ok (by simp [F_change_follows]) rfl ?_
  simp only [Nat.reducePow] at hl
  simp [F_change_follows]
  refine wp_loop (FolI l) l.length (IW.of ⟨0, 0, by omega, by omega, by omega, rfl, by simp, by simp, by simp, by simp, by simp⟩) fun k s m ⟨i, a, hik, ha1, ha2, hf, s0, s3, s6, s7, s8⟩ => ?_
  by_cases hi : i < l.length
  · have w1 := IntWalk.i64_in ((i : Int) + 1) (by omega)
    have hg : l[i]? = some l[i] := List.getElem?_eq_getElem hi
    obtain ⟨x, hx⟩ : ∃ x, x = l[i] := ⟨_, rfl⟩
    rw [List.drop_eq_getElem_cons hi, ← hx, folG] at hf
    cases hxo : extOk x with
    | false =>
      have e : folX l = false := by simp [folX, hf, hxo]
      simp [F_change_follows_L0, DvkF, s0, s3, s6, s7, s8, hi, hg, ← hx, hxo, e]
    | true =>
      have hb := extOk_iff.1 hxo
      have w2 := IntWalk.i64_in (x.lba + x.len) (by omega)
      by_cases h1 : x.lba < a
      · have e : folX l = false := by
          have : ¬ a ≤ x.lba := by omega
          simp [folX, hf, hxo, this]
        simp [F_change_follows_L0, DvkF, s0, s3, s6, s7, s8, hi, hg, ← hx, hxo, h1, e]
      · have h2 : a ≤ x.lba := by omega
        simp [F_change_follows_L0, DvkF, s0, s3, s6, s7, s8, hi, hg, ← hx, hxo, h1, w1, w2]
        exact ⟨k - 1, by omega, IW.of ⟨i + 1, x.lba + x.len, by omega, by omega, by omega, by rw [hf]; simp [hxo, h2], by simpa using s0, by simp, by simpa using s6, by simpa using s7, by simp⟩⟩
  · have hil : i = l.length := by omega
    rw [hil, List.drop_length, folG] at hf
    simp [F_change_follows_L0, s0, s3, s6, s7, s8, hi, folX, hf]
    try omega
def DvkC : Orc := (((((Orc.nil.add n_change_within (sp3 sp_within)).add n_change_kinds (sp0 (some (.agg kindsV, [])))).add n_change_kinds_1 (sp1 fun c : Ch => some (enc (decide (c.data.length = 0)), []))).add n_change_kinds_2 (sp1 fun c : Ch => some (enc (decide (1 ≤ (c.data.length : Int) ∧ (c.data.length : Int) ≤ 1000)), []))).add n_change_kinds_3 (sp1 fun c : Ch => if -2 ^ 40 ≤ c.n ∧ c.n ≤ 2 ^ 40 then some (enc (decide ((c.data.length : Int) = c.n * 32)), []) else none)).add n_change_follows (sp1 fun l : List Xt => if l.length ≤ 2 ^ 40 then some (enc (folX l), []) else none)
theorem DvkC_ok : OOk Try.prog DvkC := by
  refine (((((OOk.nil.add sp_chw_ok).add (sp0_ok fun r h => ?_)).add (sp1_ok fun c r h => ?_)).add (sp1_ok fun c r h => ?_)).add (sp1_ok fun c r h => ?_)).add (sp1_ok fun c r h => ?_)
  · cases h; exact c_kinds
  · cases h; exact c_ch_none c
  · cases h; exact c_ch_some c
  · split at h <;> cases h
    exact c_ch_blocks c (by assumption)
  · split at h <;> cases h
    exact c_follows c (by assumption)
set_option maxRecDepth 8000 in
theorem c_ch_Check (c : Ch) (hl : c.list.length ≤ 2 ^ 40) : Pure Try.prog n_change_Check [enc c] (enc (chOk c)) [] := by
  refine Pure.ofC DvkC_ok hm F_change_Check_ok (by simp [F_change_Check]) rfl ?_
  simp only [Nat.reducePow] at hl
  obtain ⟨k, lba, n, id, data, list⟩ := c
  simp only at hl
  by_cases hk : 1 ≤ k ∧ k ≤ 8
  · have hk8 : k = 1 ∨ k = 2 ∨ k = 3 ∨ k = 4 ∨ k = 5 ∨ k = 6 ∨ k = 7 ∨ k = 8 := by omega
    rcases hk8 with rfl | rfl | rfl | rfl | rfl | rfl | rfl | rfl
    all_goals simp [F_change_Check, DvkC, kindsV, kindV, hl, chOk, chBs, chIs, chD, chBk, chId]
    all_goals
      have hw : 0 ≤ lba → lba ≤ 64 → IntKind.i64.wrap (64 - lba) = 64 - lba := fun h1 h2 => IntWalk.i64_in _ (by omega)
      generalize IntKind.i64.wrap (64 - lba) = w at *
      generalize hdl : (data.length : Int) = dl at *
      by_cases hL : list = [] <;> by_cases hD : data = [] <;> cases hF : folX list <;> simp [hL, hD] <;> (try omega)
  · have e : chOk ⟨k, lba, n, id, data, list⟩ = false := by simp [chOk, hk]
    rw [e]
    simp [F_change_Check, DvkC, hk]
    try omega
end Go.Av
