/-
  DvLd: What the law LogKeeps asks: small devices, copies, and whether two are the same.
  ToFa: Contracts: slices.Backward.
  ToGa: Maps of records.
  DvW: Contracts of package slices: records sorted, where they lie.
  DvX: Contracts of package slices: records sorted in their box.
  PlR: The plain law of records: what is read is what was written.
  DvV: Contracts of package record: what is read.
  DvY: Contracts of package record: records one behind the other.
  AvMt: A row of one's own, from some place on a slice that is written; all else is forgotten there.
  DvZ: Contracts of package log: all records.
  DvZa: Contracts of package log: all records, second part.
  DvZb: Contracts of package log: records that follow one another.
  DvR: The plain law of appending, second part.
  DvRa: What the laws of logs ask: records appended, a device new, zones that are empty.
  DvZc: The calls whose answers are fixed, of logs.
  DvLe: The law LogKeeps: what it computes.
  AvOp: Arguments, as a row reads them, as plain values of Lean; behind the call they read as they did.
  SnOp: What the rows hand in: numbers, and bytes.
  DvLo: What the rows hand in: devices.
  ToXa: What the rows hand in: records as they are found.
  ToXb: What the rows hand in: lists of records.
-/
import Derived.Test.YthjmodhemglgbaaCG
import Derived.IntWalk
import Derived.Deep.Slices
import Derived.ChangeSame
import Derived.Carry
import Derived.OpenShut
set_option linter.unusedSimpArgs false
set_option linter.unusedVariables false

namespace Go.Av.Pl
def smallB (d : Dv) : Bool := decide (d.zones.length ≤ 70) && d.zones.all fun z => decide (z.data.length ≤ 300)
def bodK (l : List Rec) : Bool := decide (l.length ≤ 20) && l.all fun r => decide (r.body.length ≤ 300)
end Go.Av.Pl
namespace Go.Av
open Enc (enc dec)
open Cel (cs dc)
open Go.Proofs Pl

def SmI (d : Dv) (k : Nat) (s : Nat → V) (m : Mem) : Prop :=
  ∃ i : Nat, i + k = d.zones.length ∧ s 1 = .ptr 0 0 ∧ s 3 = .val (.int .i64 i) ∧ m = ⟨[cs d], []⟩ ∧ ∀ (j : Nat) (hj : j < d.zones.length), j < i → d.zones[j].data.length ≤ 300
theorem c_small (d : Dv) : Pure Try.prog n_w04_Small [enc d] (.val (.bool (smallB d))) [] := by
  refine Pure.ofC OOk.nil hm F_w04_Small_ok (by simp [F_w04_Small]) rfl ?_
  by_cases h1 : 70 < (d.zones.length : Int)
  · have e : smallB d = false := by
      have : ¬ d.zones.length ≤ 70 := by omega
      simp [smallB, this]
    simp [F_w04_Small, h1, e]
  · have e : smallB d = d.zones.all fun z => decide (z.data.length ≤ 300) := by
      have : d.zones.length ≤ 70 := by omega
      simp [smallB, this]
    rw [e]
    simp [F_w04_Small, h1]
    refine wp_loop (SmI d) d.zones.length (IW.of ⟨0, by omega, by simp, by simp, by simp, fun j hj h => by omega⟩) fun k s m ⟨i, hik, s1, s3, hm, hall⟩ => ?_
    subst hm
    cases k with
    | zero =>
      have hi : i = d.zones.length := by omega
      subst hi
      have : (d.zones.all fun z => decide (z.data.length ≤ 300)) = true := List.all_eq_true.2 fun r hr => by
        obtain ⟨j, hj, rfl⟩ := List.getElem_of_mem hr
        simpa using hall j hj hj
      simp only [this]
      simp [F_w04_Small_L0, s1, s3]
      try exact fun x hx => by simpa using List.all_eq_true.1 this x hx
    | succ k =>
      have hi : i < d.zones.length := by omega
      have w1 := IntWalk.i64_in ((i : Int) + 1) (by omega)
      by_cases h3 : 300 < (d.zones[i].data.length : Int)
      · have : (d.zones.all fun z => decide (z.data.length ≤ 300)) = false := List.all_eq_false.2 ⟨d.zones[i], List.getElem_mem hi, by simp; omega⟩
        simp only [this]
        simp [F_w04_Small_L0, s1, s3, hi, h3]
      · simp [F_w04_Small_L0, s1, s3, hi, h3, w1]
        exact ⟨k, by omega, IW.of ⟨i + 1, by omega, by simpa using s1, by simp, rfl, fun j hj h => by
          by_cases e : j = i
          · subst e; omega
          · exact hall j hj (by omega)⟩⟩
theorem sp_small_ok : EOk Try.prog n_w04_Small (sp1 fun d : Dv => some (.val (.bool (smallB d)), [])) := sp1_ok fun d r h => by cases h; exact c_small d
def BodK (l : List Rec) (k : Nat) (s : Nat → V) (m : Mem) : Prop :=
  ∃ i : Nat, i + k = l.length ∧ s 0 = .lit 3 (l.map cs) ∧ s 3 = .val (.int .i64 i) ∧ ∀ (j : Nat) (hj : j < l.length), j < i → l[j].body.length ≤ 300
theorem c_bodiesK (l : List Rec) : Pure Try.prog n_w06k_bodies [enc l] (.val (.bool (bodK l))) [] := by
  refine Pure.ofC OOk.nil hm F_w06k_bodies_ok (by simp [F_w06k_bodies]) rfl ?_
  by_cases h1 : 20 < (l.length : Int)
  · have e : bodK l = false := by
      have : ¬ l.length ≤ 20 := by omega
      simp [bodK, this]
    simp [F_w06k_bodies, h1, e]
  · have e : bodK l = l.all fun r => decide (r.body.length ≤ 300) := by
      have : l.length ≤ 20 := by omega
      simp [bodK, this]
    rw [e]
    simp [F_w06k_bodies, h1]
    refine wp_loop (BodK l) l.length (IW.of ⟨0, by omega, by simp, by simp, fun j hj h => by omega⟩) fun k s m ⟨i, hik, s0, s3, hall⟩ => ?_
    cases k with
    | zero =>
      have hi : i = l.length := by omega
      subst hi
      have : (l.all fun r => decide (r.body.length ≤ 300)) = true := List.all_eq_true.2 fun r hr => by
        obtain ⟨j, hj, rfl⟩ := List.getElem_of_mem hr
        simpa using hall j hj hj
      simp only [this]
      simp [F_w06k_bodies_L0, s0, s3]
      try exact fun x hx => by simpa using List.all_eq_true.1 this x hx
    | succ k =>
      have hi : i < l.length := by omega
      have w1 := IntWalk.i64_in ((i : Int) + 1) (by omega)
      by_cases h3 : 300 < (l[i].body.length : Int)
      · have : (l.all fun r => decide (r.body.length ≤ 300)) = false := List.all_eq_false.2 ⟨l[i], List.getElem_mem hi, by simp; omega⟩
        simp only [this]
        simp [F_w06k_bodies_L0, s0, s3, hi, h3]
      · simp [F_w06k_bodies_L0, s0, s3, hi, h3, w1]
        exact ⟨k, by omega, IW.of ⟨i + 1, by omega, by simp [s0], by simp, fun j hj h => by
          by_cases e : j = i
          · subst e; omega
          · exact hall j hj (by omega)⟩⟩
theorem sp_bodK_ok : EOk Try.prog n_w06k_bodies (sp1 fun l : List Rec => some (.val (.bool (bodK l)), [])) := sp1_ok fun l r h => by cases h; exact c_bodiesK l
theorem c_zCopy (z : Zo) (h : z.data.length ≤ 2 ^ 40) : Pure Try.prog n_r03_Copy [enc z] (enc z) [] := by
  refine Pure.ofC OOk.nil hm F_r03_Copy_ok (by simp [F_r03_Copy]) (clean_res (Enc.cl z)) ?_
  obtain ⟨a, b, c, d⟩ := z
  simp only [Nat.reducePow] at h
  have h' : c.length ≤ 140737488355328 := by omega
  simp [F_r03_Copy, h', clean_cs]
@[simp] def sp_zCopy (z : Zo) : Option (V × List Tip) := if z.data.length ≤ 2 ^ 40 then some (enc z, []) else none
theorem sp_zCopy_ok : EOk Try.prog n_r03_Copy (sp1 sp_zCopy) := sp1_ok fun z r h => by
  simp only [sp_zCopy] at h
  split at h <;> cases h
  exact c_zCopy z (by assumption)
theorem c_zSame (z : Zo) : Pure Try.prog n_r03_Same [enc z, enc z] (.val (.bool true)) [] := by
  refine Pure.ofC OOk.nil hm F_r03_Same_ok (by simp [F_r03_Same]) rfl ?_
  obtain ⟨a, b, c, d⟩ := z
  simp [F_r03_Same, decX_map]
@[simp] def sp_zSame (a b : Zo) : Option (V × List Tip) := if a = b then some (.val (.bool true), []) else none
theorem sp_zSame_ok : EOk Try.prog n_r03_Same (sp2 sp_zSame) := sp2_ok fun a b r h => by
  simp only [sp_zSame] at h
  split at h
  · rename_i e; subst e; cases h; exact c_zSame a
  · cases h
def DldC : Orc := Orc.nil.add n_r03_Copy (sp1 sp_zCopy)
theorem DldC_ok : OOk Try.prog DldC := OOk.nil.add sp_zCopy_ok
def DldS : Orc := Orc.nil.add n_r03_Same (sp2 sp_zSame)
theorem DldS_ok : OOk Try.prog DldS := OOk.nil.add sp_zSame_ok
def SaI (d : Dv) (k : Nat) (s : Nat → V) (m : Mem) : Prop :=
  ∃ i : Nat, i + k = d.zones.length ∧ s 2 = .ptr 0 0 ∧ s 3 = .ptr 1 0 ∧ s 5 = .val (.int .i64 i) ∧ m = ⟨[cs d, cs d], []⟩
theorem c_dSame (d : Dv) (h : d.zones.length ≤ 2 ^ 40) : Pure Try.prog n_r04_Same [enc d, enc d] (.val (.bool true)) [] := by
  refine Pure.ofC DldS_ok hm F_r04_Same_ok (by simp [F_r04_Same]) rfl ?_
  simp only [Nat.reducePow] at h
  simp [F_r04_Same]
  refine wp_loop (SaI d) d.zones.length (IW.of ⟨0, by omega, by simp, by simp, by simp, by simp⟩) fun k s m ⟨i, hik, s2, s3, s5, hm⟩ => ?_
  subst hm
  by_cases hi : i < d.zones.length
  · have w1 := IntWalk.i64_in ((i : Int) + 1) (by omega)
    have hg : d.zones[i]? = some d.zones[i] := List.getElem?_eq_getElem hi
    simp [F_r04_Same_L0, DldS, s2, s3, s5, hi, hg, w1, decX_cs]
    exact ⟨k - 1, by omega, IW.of ⟨i + 1, by omega, by simpa using s2, by simpa using s3, by simp, rfl⟩⟩
  · simp [F_r04_Same_L0, DldS, s2, s3, s5, hi]
def CoI (d : Dv) (k : Nat) (s : Nat → V) (m : Mem) : Prop :=
  ∃ (i t : Nat) (b2 : List V) (tips : List Tip), i + k = d.zones.length ∧ s 1 = .ptr 0 0 ∧ s 2 = .ptr 1 0 ∧ s 3 = .ptr 2 0 ∧ s 4 = .val (.int .i64 i) ∧
    m = ⟨[cs d, b2, [.val (.int .i64 d.size), .row t 4 ((d.zones.take i).map cs), .val (.int .i64 d.left), .val (.bool d.down), .val (.int .i64 d.done)]], tips⟩ ∧ b2.length = 5 ∧ tips[t]? = some (85, 4, i)
theorem c_dCopy (d : Dv) (h : d.zones.length ≤ 2 ^ 30) (hz : ∀ z ∈ d.zones, z.data.length ≤ 2 ^ 30) : Pure Try.prog n_r04_Copy [enc d] (enc d) [] := by
  refine Pure.ofC DldC_ok hm F_r04_Copy_ok (by simp [F_r04_Copy]) (clean_res (Enc.cl d)) ?_
  simp only [Nat.reducePow] at h hz
  simp [F_r04_Copy]
  refine wp_loop (CoI d) d.zones.length ⟨_, _, Wkn.boxRow 2 1 85 4 rfl rfl, ⟨0, 0, _, [(85, 4, 0)], by omega, by simp, by simp, by simp, by simp, by simp; rfl, rfl, by simp⟩⟩ fun k s m ⟨i, t, b2, tips, hik, s1, s2, s3, s4, hm, hb2, ht⟩ => ?_
  subst hm
  by_cases hi : i < d.zones.length
  · have w1 := IntWalk.i64_in ((i : Int) + 1) (by omega)
    have hg : d.zones[i]? = some d.zones[i] := List.getElem?_eq_getElem hi
    have hzi := hz _ (List.getElem_mem hi)
    have hzi' : d.zones[i].data.length ≤ 1099511627776 := by omega
    have e1 : d.zones.take (i + 1) = d.zones.take i ++ [d.zones[i]] := by rw [List.take_add_one, hg]; rfl
    have e2 : min i d.zones.length = i := by omega
    simp [F_r04_Copy_L0, DldC, s1, s2, s3, s4, hi, hg, w1, decX_cs, hzi', ht, e2]
    refine ⟨by omega, k - 1, by omega, IW.of ⟨i + 1, t, b2, tips.set t (85, 4, i + 1), by omega, by simpa using s1, by simpa using s2, by simpa using s3, by simp, by rw [e1, List.map_append, List.map_take]; rfl, hb2, by rw [List.getElem?_set_self (lt_of_some ht)]⟩⟩
  · have e : d.zones.take i = d.zones := List.take_of_length_le (by omega)
    rw [e]
    obtain ⟨c0, c1, c2, c3, c4, rfl⟩ : ∃ c0 c1 c2 c3 c4, b2 = [c0, c1, c2, c3, c4] := by
      match b2, hb2 with
      | [a0, a1, a2, a3, a4], _ => exact ⟨a0, a1, a2, a3, a4, rfl⟩
    simp [F_r04_Copy_L0, s1, s2, s3, s4, hi, clean_cs]
end Go.Av

namespace Go.Av.Pl
structure Fnd where
  rcd : Rec
  zone : Int
  at_ : Int
deriving DecidableEq
end Go.Av.Pl
namespace Go.Av
open Enc (enc dec)
open Cel (cs dc)
open Go.Proofs Pl

instance : Cel Fnd where
  sz := 5
  cs x := [enc x.rcd.kind, enc x.rcd.seq, enc x.rcd.body, enc x.zone, enc x.at_]
  dc l := match l with
    | [a, b, c, d, e] => (dec a).bind fun a => (dec b).bind fun b => (dec c).bind fun c => (dec d).bind fun d => (dec e).bind fun e => some ⟨⟨a, b, c⟩, d, e⟩
    | _ => none
  len _ := rfl
  ok l x h := by
    split at h
    · simp only [Option.bind_eq_some_iff] at h
      obtain ⟨a, ha, b, hb, c, hc, d, hd, e, he, h⟩ := h
      cases h
      exact wk_dec (wk_dec (wk_dec (wk_dec (wk_dec wk_nil he) hd) hc) hb) ha
    · cases h
  cl x := by simp [clean_cs]
  de x := by simp [decX_map]
instance : Enc Fnd := encC
@[simp] theorem sz_fnd : Cel.sz Fnd = 5 := rfl
@[simp] theorem cs_fnd (x : Fnd) : cs x = [.val (.int .i64 x.rcd.kind), .val (.int .i64 x.rcd.seq), .lit 1 (x.rcd.body.map cs), .val (.int .i64 x.zone), .val (.int .i64 x.at_)] := rfl
@[simp] theorem enc_fnd (x : Fnd) : (enc x : V) = .agg [.val (.int .i64 x.rcd.kind), .val (.int .i64 x.rcd.seq), .lit 1 (x.rcd.body.map cs), .val (.int .i64 x.zone), .val (.int .i64 x.at_)] := rfl
@[simp] theorem dc_fnd (a b c d e : V) : (dc [a, b, c, d, e] : Option Fnd) = (dec a).bind fun a => (dec b).bind fun b => (dec c).bind fun c => (dec d).bind fun d => (dec e).bind fun e => some ⟨⟨a, b, c⟩, d, e⟩ := rfl
@[simp] theorem dec_fnd (l : List V) : (dec (.agg l) : Option Fnd) = dc l := rfl

/-- An iterator that runs to its end, over a list. -/
theorem YRun.list {α : Type} {Y : YRel} {L : Nat} {K : Mem → Prop} (arg : α → List V) (S : List α → Mem) (all : List α)
    (hstep : ∀ acc x r, all = acc ++ x :: r → Y L (arg x) (S acc) (.val (.bool true)) (S (acc ++ [x]))) (hK : ∀ acc x r, all = acc ++ x :: r → K (S (acc ++ [x]))) : YRun Y L K (all.map arg) (S []) (S all) := by
  have key : ∀ rest acc, all = acc ++ rest → YRun Y L K (rest.map arg) (S acc) (S all) := by
    intro rest
    induction rest with
    | nil => intro acc h; rw [h, List.append_nil]; exact .done
    | cons x r ih => intro acc h; exact .next (hstep acc x r h) (hK acc x r h) (ih (acc ++ [x]) (by simp [h]))
  exact key all [] rfl
/-- An iterator that looks for one. -/
theorem YRun.find {α β : Type} {Y : YRel} {L : Nat} {K : Mem → Prop} (arg : α → List V) (g : α → Option β) (m0 : Mem) (m1 : β → Mem) (hK : K m0) : ∀ (all : List α), (∀ x ∈ all, Y L (arg x) m0 (.val (.bool (g x).isNone)) ((g x).elim m0 m1)) →
    YRun Y L K (all.map arg) m0 ((all.findSome? g).elim m0 m1)
  | [], _ => .done
  | x :: r, h1 => by
    have h := h1 x (List.mem_cons_self ..)
    rw [List.findSome?_cons]
    cases hg : g x with
    | none =>
      rw [hg] at h
      exact .next h hK (YRun.find arg g m0 m1 hK r (fun x hx => h1 x (List.mem_cons_of_mem _ hx)))
    | some y =>
      rw [hg] at h
      exact .stop h
/-- The first so many, with their places, from behind. -/
def bwTo {α : Type} (l : List α) : Nat → List (Nat × α)
  | 0 => []
  | k + 1 => match l[k]? with
    | some x => (k, x) :: bwTo l k
    | none => bwTo l k
theorem bwTo_snd {α : Type} (l : List α) : ∀ k, k ≤ l.length → (bwTo l k).map (·.2) = (l.take k).reverse
  | 0, _ => by simp [bwTo]
  | k + 1, h => by
    have hk : k < l.length := by omega
    rw [bwTo, List.getElem?_eq_getElem hk]
    simp only [List.map_cons, bwTo_snd l k (by omega)]
    rw [List.take_add_one, List.getElem?_eq_getElem hk, Option.toList_some, List.reverse_append]
    rfl
def bwArg {α : Type} [Cel α] (p : Nat × α) : List V := [.val (.int .i64 p.1), .agg (cs p.2)]
def BwK (a : Nat) (l : List Fnd) (m : Mem) : Prop := m.boxes[a]? = some [.lit 5 (l.map cs)]
def BwI (Y : YRel) (L a : Nat) (l : List Fnd) (m1 : Mem) (k : Nat) (s : Nat → V) (m : Mem) : Prop :=
  k ≤ l.length ∧ s 0 = .yld L ∧ s 1 = .ptr a 0 ∧ s 3 = .val (.int .i64 ((k : Int) - 1)) ∧ BwK a l m ∧ YRun Y L (BwK a l) ((bwTo l k).map bwArg) m m1
theorem c_backward1 (Y : YRel) (L a : Nat) (l : List Fnd) (hl : l.length ≤ 2 ^ 40) (m m1 : Mem) (hK : BwK a l m)
    (h : YRun Y L (BwK a l) ((bwTo l l.length).map bwArg) m m1) : LocY Try.prog Y n_slices_Backward_Found_1 [.yld L, .ptr a 0] m (.tuple []) m1 := by
  refine LocY.ofX OOk.nil hm F_slices_Backward_Found_1_ok (by simp [F_slices_Backward_Found_1]) ?_
  have w1 := IntWalk.i64_in ((l.length : Int) - 1) (by omega)
  have hK' : m.boxes[a]? = some [.lit 5 (l.map cs)] := hK
  simp [F_slices_Backward_Found_1, hK', w1]
  refine wp_loop (BwI Y L a l m1) l.length (IW.of ⟨by omega, by simp, by simp, by simp, hK, h⟩) fun k s m ⟨hk, s0, s1, s3, k1, hr⟩ => ?_
  unfold BwK at k1
  cases k with
  | zero =>
    have hm1 : m = m1 := by
      cases hr
      rfl
    simp [F_slices_Backward_Found_1_L0, s0, s1, s3, k1]
    exact hm1
  | succ k =>
    have hk2 : k < l.length := by omega
    rw [bwTo, List.getElem?_eq_getElem hk2, List.map_cons] at hr
    have w2 := IntWalk.i64_in ((k : Int) - 1) (by omega)
    have e0 : ((k + 1 : Nat) : Int) - 1 = k := by omega
    rw [e0] at s3
    simp [F_slices_Backward_Found_1_L0, s0, s1, s3, k1, hk2]
    cases hr with
    | stop hy =>
      refine ⟨_, _, hy, ?_⟩
      simp
    | next hy hk3 h2 =>
      refine ⟨_, _, hy, ?_⟩
      simp [s3, w2]
      exact ⟨k, by omega, IW.of ⟨by omega, by simp [s0], by simp [s1], by simp, hk3, h2⟩⟩
def sp_bw : List V → Mem → Option (V × Mem)
  | [v], m => (dec v : Option (List Fnd)).bind fun l => some (.func n_slices_Backward_Found_1 [.ptr m.boxes.length 0], ⟨m.boxes ++ [[.lit 5 (l.map cs)]], m.tips⟩)
  | _, _ => none
theorem sp_bw_ok : EOkL Try.prog n_slices_Backward_Found sp_bw := by
  intro args m v m' h
  unfold sp_bw at h
  split at h
  · rename_i a
    simp only [Option.bind_eq_some_iff] at h
    obtain ⟨l, hl, h⟩ := h
    cases h
    refine Loc.wk (wk_dec wk_nil hl) (Loc.ofX OOk.nil hm F_slices_Backward_Found_ok (by simp [F_slices_Backward_Found]) ?_)
    simp [F_slices_Backward_Found]
  · cases h
end Go.Av

namespace Go.Av
open Enc (enc dec)
open Cel (cs dc)
open Go.Proofs Pl

@[simp] theorem isObj_ref {k : Rk} {b : Nat} : isObj [.ref k b] = false := rfl
mutual
theorem clean_under (k j : Nat) : ∀ v : V, v.isClean = true → v.under k j = true
  | .val _, _ => rfl
  | .agg l, h => cleanL_under k j l h
  | .lit _ xs, h => cleanX_under k j xs h
  | .full _ xs, h => cleanX_under k j xs h
  | .emp _, _ => rfl
  | .any, _ => rfl
  | .alts _, _ => rfl
  | .row _ _ _, h => by simp [V.isClean] at h
  | .ptr _ _, h => by simp [V.isClean] at h
  | .yld _, h => by simp [V.isClean] at h
  | .ref _ _, h => by simp [V.isClean] at h
  | .eptr cs, h => cleanL_under k j cs h
  | .func _ cap, h => cleanL_under k j cap h
  | .iface _ v, h => clean_under k j v h
  | .tuple l, h => cleanL_under k j l h
theorem cleanL_under (k j : Nat) : ∀ l : List V, cleanL l = true → underL k j l = true
  | [], _ => rfl
  | v :: l, h => by
    simp only [cleanL, Bool.and_eq_true] at h
    simp only [underL, clean_under k j v h.1, cleanL_under k j l h.2]; rfl
theorem cleanX_under (k j : Nat) : ∀ l : List (List V), cleanX l = true → underX k j l = true
  | [], _ => rfl
  | e :: l, h => by
    simp only [cleanX, Bool.and_eq_true] at h
    simp only [underX, cleanL_under k j e h.1, cleanX_under k j l h.2]; rfl
end
theorem under_map {α : Type} [Cel α] (k j : Nat) (l : List α) : underX k j (l.map cs) = true := cleanX_under k j _ (clean_cs l)
def kvClean (kvs : List (Int × V)) : Prop := ∀ p ∈ kvs, p.2.isClean = true
theorem kvClean.under {kvs : List (Int × V)} (h : kvClean kvs) (k j : Nat) : underL k j (mpV kvs) = true := by
  have : ∀ kvs : List (Int × V), kvClean kvs → cleanL (kvs.map fun p => V.tuple [.val (.int .i64 p.1), p.2]) = true := by
    intro kvs
    induction kvs with
    | nil => intro _; rfl
    | cons p l ih =>
      intro h
      simp only [List.map_cons, cleanL, V.isClean, h p (List.mem_cons_self ..), ih fun q hq => h q (List.mem_cons_of_mem _ hq)]; rfl
  simp only [mpV, underL, V.under, cleanL_under k j _ (this kvs h)]; rfl
theorem kvClean.put {kvs : List (Int × V)} (h : kvClean kvs) (q : Int) {v : V} (hv : v.isClean = true) : kvClean (mpPut kvs q v) := by
  induction kvs with
  | nil => intro p hp; simp [mpPut] at hp; subst hp; exact hv
  | cons a l ih =>
    intro p hp
    rw [mpPut] at hp
    split at hp
    · rcases List.mem_cons.1 hp with rfl | hp
      · exact hv
      · exact h p (List.mem_cons_of_mem _ hp)
    · rcases List.mem_cons.1 hp with rfl | hp
      · exact h _ (List.mem_cons_self ..)
      · exact ih (fun q hq => h q (List.mem_cons_of_mem _ hq)) p hp
/-- The records by their numbers, as they are put. -/
def kvF (kvs : List (Int × V)) (acc : List (Nat × Fnd)) : List (Int × V) := acc.foldl (fun kv p => mpPut kv p.2.rcd.seq (enc p.2.rcd)) kvs
theorem kvF_clean : ∀ (acc : List (Nat × Fnd)) {kvs : List (Int × V)}, kvClean kvs → kvClean (kvF kvs acc)
  | [], _, h => h
  | p :: l, _, h => kvF_clean l (h.put _ (Enc.cl p.2.rcd))
/-- The first record of a number. -/
def lookF (l : List Fnd) (q : Int) : Option Rec := (l.find? fun f => f.rcd.seq == q).map (·.rcd)
theorem kvF_at (l : List Fnd) (q : Int) : ∀ (k : Nat) (kvs : List (Int × V)), k ≤ l.length → mpAt (kvF kvs (bwTo l k)) q = match lookF (l.take k) q with
    | some r => some (enc r)
    | none => mpAt kvs q
  | 0, kvs, _ => rfl
  | k + 1, kvs, h => by
    have hk : k < l.length := by omega
    rw [bwTo, List.getElem?_eq_getElem hk]
    show mpAt (kvF (mpPut kvs l[k].rcd.seq (enc l[k].rcd)) (bwTo l k)) q = _
    rw [kvF_at l q k _ (by omega)]
    have e : l.take (k + 1) = l.take k ++ [l[k]] := by rw [List.take_add_one, List.getElem?_eq_getElem hk]; rfl
    rw [e, lookF, lookF, List.find?_append]
    cases hf : (l.take k).find? fun f => f.rcd.seq == q with
    | some f => simp
    | none =>
      simp only [Option.map_none, Option.none_or, mpAt_put]
      by_cases hq : q = l[k].rcd.seq
      · simp [hq]
      · simp [hq, Ne.symm hq]
theorem kvF_look (l : List Fnd) (q : Int) : mpAt (kvF [] (bwTo l l.length)) q = (lookF l q).map enc := by
  rw [kvF_at l q l.length [] (Nat.le_refl _), List.take_length]
  cases lookF l q <;> rfl
end Go.Av

namespace Go.Av.Pl
/-- One more, behind those that are not later. -/
def insS (acc : List Fnd) (x : Fnd) : List Fnd := acc.filter (fun y => decide (y.rcd.seq ≤ x.rcd.seq)) ++ x :: acc.filter (fun y => decide (x.rcd.seq < y.rcd.seq))
def sortF (l : List Fnd) : List Fnd := l.foldl insS []
def SortedF (l : List Fnd) : Prop := l.Pairwise fun a b => a.rcd.seq ≤ b.rcd.seq
def cmpZ (x y : Int) : Int := if x < y then -1 else if y < x then 1 else 0
theorem insS_length (acc : List Fnd) (x : Fnd) : (insS acc x).length = acc.length + 1 := by
  unfold insS
  rw [List.length_append, List.length_cons]
  have : ∀ l : List Fnd, (l.filter (fun y => decide (y.rcd.seq ≤ x.rcd.seq))).length + (l.filter (fun y => decide (x.rcd.seq < y.rcd.seq))).length = l.length := by
    intro l
    induction l with
    | nil => rfl
    | cons a l ih =>
      by_cases h : a.rcd.seq ≤ x.rcd.seq
      · have h' : ¬ x.rcd.seq < a.rcd.seq := by omega
        simp [h, h']; omega
      · have h' : x.rcd.seq < a.rcd.seq := by omega
        simp [h, h']; omega
  have := this acc
  omega
theorem sortF_snoc (l : List Fnd) (x : Fnd) : sortF (l ++ [x]) = insS (sortF l) x := by simp [sortF]
theorem sortF_length : ∀ (l : List Fnd) , (sortF l).length = l.length := by
  intro l
  have : ∀ (l acc : List Fnd), (l.foldl insS acc).length = acc.length + l.length := by
    intro l
    induction l with
    | nil => intro acc; simp
    | cons a l ih => intro acc; rw [List.foldl_cons, ih, insS_length, List.length_cons]; omega
  simpa [sortF] using this l []
theorem insS_mem {acc : List Fnd} {x y : Fnd} : y ∈ insS acc x ↔ y ∈ acc ∨ y = x := by
  unfold insS
  simp only [List.mem_append, List.mem_filter, List.mem_cons, decide_eq_true_eq]
  constructor
  · rintro (⟨h, _⟩ | h | ⟨h, _⟩)
    · exact .inl h
    · exact .inr h
    · exact .inl h
  · rintro (h | h)
    · by_cases hh : y.rcd.seq ≤ x.rcd.seq
      · exact .inl ⟨h, hh⟩
      · exact .inr (.inr ⟨h, by omega⟩)
    · exact .inr (.inl h)
theorem insS_sorted {acc : List Fnd} (x : Fnd) (h : SortedF acc) : SortedF (insS acc x) := by
  unfold SortedF insS at *
  rw [List.pairwise_append]
  refine ⟨h.filter _, ?_, ?_⟩
  · rw [List.pairwise_cons]
    refine ⟨fun y hy => ?_, h.filter _⟩
    simp only [List.mem_filter, decide_eq_true_eq] at hy
    omega
  · intro a ha b hb
    simp only [List.mem_filter, decide_eq_true_eq] at ha
    rcases List.mem_cons.1 hb with rfl | hb
    · exact ha.2
    · simp only [List.mem_filter, decide_eq_true_eq] at hb
      omega
theorem sortF_sorted (l : List Fnd) : SortedF (sortF l) := by
  have : ∀ (l acc : List Fnd), SortedF acc → SortedF (l.foldl insS acc) := by
    intro l
    induction l with
    | nil => intro acc h; exact h
    | cons a l ih => intro acc h; exact ih _ (insS_sorted a h)
  exact this l [] List.Pairwise.nil
/-- Where one is put among those that are sorted. -/
theorem insS_at {A : List Fnd} {x : Fnd} (h : SortedF A) {j : Nat} (hj : j ≤ A.length) (h1 : ∀ y ∈ A.drop j, x.rcd.seq < y.rcd.seq) (h2 : ∀ (h0 : 0 < j), (A[j - 1]'(by omega)).rcd.seq ≤ x.rcd.seq) : insS A x = A.take j ++ x :: A.drop j := by
  have e : A = A.take j ++ A.drop j := (List.take_append_drop j A).symm
  have h3 : ∀ y ∈ A.take j, y.rcd.seq ≤ x.rcd.seq := by
    intro y hy
    by_cases h0 : 0 < j
    · obtain ⟨k, hk, rfl⟩ := List.getElem_of_mem hy
      have hk2 : k < j := by simp only [List.length_take] at hk; omega
      rw [List.getElem_take]
      have := h2 h0
      by_cases hkj : k = j - 1
      · subst hkj; exact this
      · have := List.pairwise_iff_getElem.1 h k (j - 1) (by omega) (by omega) (by omega)
        omega
    · have : j = 0 := by omega
      subst this
      simp at hy
  unfold insS
  have f1 : A.filter (fun y => decide (y.rcd.seq ≤ x.rcd.seq)) = A.take j := by
    conv => lhs; rw [e]
    rw [List.filter_append, List.filter_eq_self.2 (fun y hy => by simpa using h3 y hy), List.filter_eq_nil_iff.2 (fun y hy => by have := h1 y hy; simp; omega), List.append_nil]
  have f2 : A.filter (fun y => decide (x.rcd.seq < y.rcd.seq)) = A.drop j := by
    conv => lhs; rw [e]
    rw [List.filter_append, List.filter_eq_nil_iff.2 (fun y hy => by have := h3 y hy; simp; omega), List.filter_eq_self.2 (fun y hy => by simpa using h1 y hy), List.nil_append]
  rw [f1, f2]
end Go.Av.Pl
namespace Go.Av
open Enc (enc dec)
open Cel (cs dc)
open Go.Proofs Pl

theorem c_isNaN (n : Int) : Pure Try.prog n_cmp_isNaN_int [enc n] (enc false) [] := by
  refine Pure.ofC OOk.nil hm F_cmp_isNaN_int_ok (by simp [F_cmp_isNaN_int]) rfl ?_
  simp [F_cmp_isNaN_int]
def Dw1 : Orc := Orc.nil.add n_cmp_isNaN_int (sp1 fun _ : Int => some (enc false, []))
theorem Dw1_ok : OOk Try.prog Dw1 := OOk.nil.add (sp1_ok fun n r h => by cases h; exact c_isNaN n)
theorem c_cmp (a b : Int) : Pure Try.prog n_cmp_Compare_int [enc a, enc b] (enc (cmpZ a b)) [] := by
  refine Pure.ofC Dw1_ok hm F_cmp_Compare_int_ok (by simp [F_cmp_Compare_int]) rfl ?_
  by_cases h1 : a < b
  · simp [F_cmp_Compare_int, Dw1, cmpZ, h1]
  · by_cases h2 : b < a
    · simp [F_cmp_Compare_int, Dw1, cmpZ, h1, h2]
    · simp [F_cmp_Compare_int, Dw1, cmpZ, h1, h2]
def Dw2 : Orc := Orc.nil.add n_cmp_Compare_int (sp2 fun a b : Int => some (enc (cmpZ a b), []))
theorem Dw2_ok : OOk Try.prog Dw2 := OOk.nil.add (sp2_ok fun a b r h => by cases h; exact c_cmp a b)
theorem c_all1 (a b : Fnd) : Pure Try.prog n_log_All_1 [enc a, enc b] (enc (cmpZ a.rcd.seq b.rcd.seq)) [] := by
  refine Pure.ofC Dw2_ok hm F_log_All_1_ok (by simp [F_log_All_1]) rfl ?_
  simp [F_log_All_1, Dw2]
@[simp] def sp_all1 (a b : Fnd) : Option (V × List Tip) := some (enc (cmpZ a.rcd.seq b.rcd.seq), [])
def Dw3 : Orc := Orc.nil.add n_log_All_1 (sp2 sp_all1)
theorem Dw3_ok : OOk Try.prog Dw3 := OOk.nil.add (sp2_ok fun a b r h => by cases h; exact c_all1 a b)
/-- The cells of records. -/
def fC (l : List Fnd) : List V := (l.map cs).flatten
theorem cs5 (z : Fnd) : (cs z : List V).length = 5 := rfl
theorem fC_cons (z : Fnd) (l : List Fnd) : fC (z :: l) = cs z ++ fC l := rfl
theorem fC_app (a b : List Fnd) : fC (a ++ b) = fC a ++ fC b := by simp [fC]
theorem fC_length : ∀ (l : List Fnd), (fC l).length = l.length * 5
  | [] => rfl
  | z :: l => by rw [fC_cons, List.length_append, fC_length l, cs5, List.length_cons]; omega
theorem fC_split (l : List Fnd) (i : Nat) (hi : i < l.length) : fC l = fC (l.take i) ++ (cs l[i] ++ fC (l.drop (i + 1))) := by
  have : l = l.take i ++ l[i] :: l.drop (i + 1) := by simp
  rw [← fC_cons, ← fC_app]
  exact congrArg fC this
theorem fC_take_len (l : List Fnd) (i : Nat) (hi : i < l.length) : (fC (l.take i)).length = i * 5 := by rw [fC_length, List.length_take, Nat.min_eq_left (by omega)]
theorem fC_drop (l : List Fnd) (i k : Nat) (hi : i < l.length) : (fC l).drop (i * 5 + k) = (cs l[i] ++ fC (l.drop (i + 1))).drop k := by
  rw [fC_split l i hi, ← fC_take_len l i hi, List.drop_append, List.drop_eq_nil_of_le (by omega), Nat.add_sub_cancel_left]
  rfl
theorem fC_set (l : List Fnd) (i : Nat) (hi : i < l.length) (z : Fnd) : (fC l).take (i * 5) ++ cs z ++ (fC l).drop (i * 5 + 5) = fC (l.set i z) := by
  rw [fC_drop l i 5 hi]
  have h1 : (fC l).take (i * 5) = fC (l.take i) := by rw [fC_split l i hi, ← fC_take_len l i hi, List.take_left']; rfl
  have h2 : (cs l[i] ++ fC (l.drop (i + 1))).drop 5 = fC (l.drop (i + 1)) := by rw [← cs5 l[i], List.drop_left']; rfl
  rw [h1, h2, List.append_assoc, ← fC_cons, ← fC_app, List.set_eq_take_append_cons_drop, if_pos hi]
theorem fC_obj (l : List Fnd) : isObj (fC l) = false := by
  cases l with
  | nil => rfl
  | cons z l => rfl
theorem chunk_fC (l : List Fnd) : chunkV 5 l.length (fC l) = l.map cs := by
  have := chunkV_of (sz := 5) (l.map cs) (by intro e he; obtain ⟨z, _, rfl⟩ := List.mem_map.1 he; rfl) []
  simpa [fC] using this
/-- One on its way down, among those that are sorted. -/
def curF (A : List Fnd) (x : Fnd) (R : List Fnd) (j : Nat) : List Fnd := A.take j ++ x :: (A.drop j ++ R)
theorem curF_length (A : List Fnd) (x : Fnd) (R : List Fnd) {j : Nat} (hj : j ≤ A.length) : (curF A x R j).length = A.length + 1 + R.length := by
  simp only [curF, List.length_append, List.length_take, List.length_cons, List.length_drop]; omega
theorem curF_at (A : List Fnd) (x : Fnd) (R : List Fnd) {j : Nat} (hj : j ≤ A.length) : (curF A x R j)[j]? = some x := by
  unfold curF
  rw [List.getElem?_append_right (by simp; omega)]
  simp [Nat.min_eq_left hj]
theorem curF_prev (A : List Fnd) (x : Fnd) (R : List Fnd) {j : Nat} (hj : j + 1 ≤ A.length) : (curF A x R (j + 1))[j]? = some (A[j]'(by omega)) := by
  unfold curF
  rw [List.getElem?_append_left (by simp; omega), List.getElem?_take, if_pos (by omega), List.getElem?_eq_getElem (by omega)]
theorem curF_swap (A : List Fnd) (x : Fnd) (R : List Fnd) {j : Nat} (hj : j + 1 ≤ A.length) : ((curF A x R (j + 1)).set (j + 1) (A[j]'(by omega))).set j x = curF A x R j := by
  have hA : A.take (j + 1) = A.take j ++ [A[j]'(by omega)] := by rw [List.take_add_one, List.getElem?_eq_getElem (by omega)]; rfl
  have hD : A.drop j = A[j]'(by omega) :: A.drop (j + 1) := List.drop_eq_getElem_cons (by omega)
  have hl : (A.take j).length = j := by simp; omega
  unfold curF
  rw [hD, hA, List.append_assoc, List.set_append_right _ _ (by omega), List.set_append_right _ _ (by omega)]
  simp [hl]
  rw [List.drop_eq_getElem_cons (show j < A.length by omega)]
  rfl
end Go.Av

namespace Go.Av
open Enc (enc dec)
open Cel (cs dc)
open Go.Proofs Pl

/-- The memory of a sort. -/
def srtM (m : Mem) (b : Nat) (l : List Fnd) : Mem := ⟨m.boxes.set b (fC l), m.tips⟩
def InsI (m0 : Mem) (b : Nat) (A : List Fnd) (x : Fnd) (R : List Fnd) (N n : Nat) (k : Nat) (s : Nat → V) (m : Mem) : Prop :=
  k ≤ A.length ∧ (∀ y ∈ A.drop k, x.rcd.seq < y.rcd.seq) ∧ s 0 = .ref (.sli 0 5 N) b ∧ s 1 = .val (.int .i64 0) ∧ s 2 = .val (.int .i64 n) ∧ s 3 = .func n_log_All_1 [] ∧ s 8 = .val (.int .i64 A.length) ∧ s 9 = .val (.int .i64 k) ∧ m = srtM m0 b (curF A x R k)
def OutI (m0 : Mem) (b : Nat) (l : List Fnd) (N n : Nat) (k : Nat) (s : Nat → V) (m : Mem) : Prop :=
  ∃ i : Nat, i + k = n ∧ 1 ≤ i ∧ s 0 = .ref (.sli 0 5 N) b ∧ s 1 = .val (.int .i64 0) ∧ s 2 = .val (.int .i64 n) ∧ s 3 = .func n_log_All_1 [] ∧ s 8 = .val (.int .i64 i) ∧ m = srtM m0 b (sortF (l.take i) ++ l.drop i)
theorem c_insertion (m : Mem) (b : Nat) (l : List Fnd) (n : Nat) (hb : m.boxes[b]? = some (fC l)) (hn : n ≤ l.length) (hn1 : 1 ≤ n) (hl : l.length ≤ 2 ^ 30) :
    Loc Try.prog n_slices_insertionSortCmpFunc_Found [.ref (.sli 0 5 l.length) b, .val (.int .i64 0), .val (.int .i64 n), .func n_log_All_1 []] m (.tuple []) (srtM m b (sortF (l.take n) ++ l.drop n)) := by
  refine Loc.ofX Dw3_ok hm F_slices_insertionSortCmpFunc_Found_ok (by simp [F_slices_insertionSortCmpFunc_Found]) ?_
  have hbl := lt_of_some hb
  have f0 : ∀ (x y : List V), (m.boxes.set b x).set b y = m.boxes.set b y := fun x y => List.set_set ..
  have f1 : ∀ (x : List V), (m.boxes.set b x)[b]? = some x := fun x => List.getElem?_set_self hbl
  have w0 : IntKind.i64.wrap (0 + 1) = 1 := by decide
  have w00 : IntKind.i64.wrap 1 = 1 := by decide
  simp [F_slices_insertionSortCmpFunc_Found, w0]
  have e0 : sortF (l.take 1) ++ l.drop 1 = l := by
    cases l with
    | nil => rfl
    | cons a l => rfl
  refine wp_loop (OutI m b l l.length n) (n - 1) (IW.of ⟨1, by omega, by omega, by simp, by simp, by simp, by simp, by simp [w00], ?_⟩) fun k s m' ⟨i, hik, hi1, s0, s1, s2, s3, s8, hm'⟩ => ?_
  · rw [e0]
    unfold srtM
    rw [setC_self hb]
  subst hm'
  by_cases hi : i < n
  · have hil : i < l.length := by omega
    have hiI : (i : Int) < n := by omega
    have w1 := IntWalk.i64_in ((i : Int) + 1) (by omega)
    have hA := sortF_length (l.take i)
    rw [List.length_take, Nat.min_eq_left (by omega)] at hA
    have hcur : sortF (l.take i) ++ l.drop i = curF (sortF (l.take i)) l[i] (l.drop (i + 1)) i := by
      have e1 : (sortF (l.take i)).take i = sortF (l.take i) := List.take_of_length_le (by omega)
      have e2 : (sortF (l.take i)).drop i = [] := List.drop_eq_nil_of_le (by omega)
      unfold curF
      rw [e1, e2, List.nil_append, ← List.drop_eq_getElem_cons hil]
    have hs := sortF_sorted (l.take i)
    have hnext : sortF (l.take (i + 1)) = insS (sortF (l.take i)) l[i] := by
      rw [List.take_add_one, List.getElem?_eq_getElem hil]
      exact sortF_snoc _ _
    generalize hAA : sortF (l.take i) = A at hA hcur hs hnext
    rw [hcur]
    simp [F_slices_insertionSortCmpFunc_Found_L1, s0, s1, s2, s3, s8, hiI, hi]
    refine wp_loop (InsI m b A l[i] (l.drop (i + 1)) l.length n) i (IW.of ⟨by omega, by rw [List.drop_eq_nil_of_le (by omega)]; simp, by simpa using s0, by simpa using s1, by simpa using s2, by simpa using s3, by simpa [hA] using s8, by simp, rfl⟩) fun j s' m'' ⟨hj, hgt, t0, t1, t2, t3, t8, t9, hm''⟩ => ?_
    subst hm''
    have hend : ∀ (h1 : ∀ (h0 : 0 < j), (A[j - 1]'(by omega)).rcd.seq ≤ l[i].rcd.seq), curF A l[i] (l.drop (i + 1)) j = sortF (l.take (i + 1)) ++ l.drop (i + 1) := fun h1 => by
      rw [hnext, insS_at hs hj hgt h1]
      simp [curF]
    cases j with
    | zero =>
      have he := hend (fun h => absurd h (by omega))
      simp [F_slices_insertionSortCmpFunc_Found_L0, t0, t1, t2, t3, t8, t9, hA, w1]
      exact ⟨k - 1, by omega, IW.of ⟨i + 1, by omega, by omega, by simpa using t0, by simpa using t1, by simpa using t2, by simpa using t3, by simp, by rw [he]⟩⟩
    | succ j =>
      have hjl : j < A.length := by omega
      have hcl := curF_length A l[i] (l.drop (i + 1)) hj
      have hx := curF_at A l[i] (l.drop (i + 1)) hj
      have hp := curF_prev A l[i] (l.drop (i + 1)) hj
      have hsw := curF_swap A l[i] (l.drop (i + 1)) hj
      have hN : A.length + 1 + (l.drop (i + 1)).length = l.length := by rw [List.length_drop]; omega
      generalize hC : curF A l[i] (l.drop (i + 1)) (j + 1) = C at hcl hx hp hsw hend
      have c1 : j + 1 < C.length := by omega
      have c2 : j < C.length := by omega
      have hx' : C[j + 1] = l[i] := by rw [List.getElem?_eq_getElem c1] at hx; exact Option.some.inj hx
      have hp' : C[j] = A[j] := by rw [List.getElem?_eq_getElem c2] at hp; exact Option.some.inj hp
      have g1 := fC_drop C (j + 1) 0 c1
      have g2 := fC_drop C j 0 c2
      have g3 := fC_set C (j + 1) c1 A[j]
      have g4 := fC_set (C.set (j + 1) A[j]) j (by simpa using c2) l[i]
      rw [hsw] at g4
      have g5 : (j + 1) * 5 + 5 ≤ (fC C).length := by rw [fC_length]; omega
      have g6 : j * 5 + 5 ≤ (fC C).length := by omega
      have g7 : j * 5 + 5 ≤ (fC (C.set (j + 1) A[j])).length := by rw [fC_length, List.length_set]; omega
      rw [hx'] at g1
      rw [hp'] at g2
      simp at g1 g2 g3 g4
      have q1 : (0 : Int) < (j : Int) + 1 := by omega
      have q2 : (j : Int) + 1 < l.length := by omega
      have q3 : (j : Int) < l.length := by omega
      have q4 : (0 : Int) ≤ (j : Int) + 1 := by omega
      have q5 : ((j : Int) + 1).toNat = j + 1 := by omega
      have w3 : IntKind.i64.wrap (j : Int) = j := IntWalk.i64_in _ (by omega)
      by_cases hlt : l[i].rcd.seq < A[j].rcd.seq
      · have hc : cmpZ l[i].rcd.seq A[j].rcd.seq = -1 := by simp [cmpZ, hlt]
        simp [F_slices_insertionSortCmpFunc_Found_L0, Dw3, srtM, t0, t1, t2, t3, t8, t9, f0, f1, fC_obj, g1, g2, g3, g4, g5, g6, g7, q1, q2, q3, q4, q5, w3, hc]
        refine ⟨by omega, j, by omega, IW.of (show InsI m b A l[i] (l.drop (i + 1)) l.length n j _ _ from ⟨by omega, fun y hy => ?_, by simpa using t0, by simpa using t1, by simpa using t2, by simpa using t3, by simpa using t8, by simp, rfl⟩)⟩
        rw [List.drop_eq_getElem_cons hjl] at hy
        rcases List.mem_cons.1 hy with rfl | hy
        · exact hlt
        · exact hgt y hy
      · have hc : ¬ cmpZ l[i].rcd.seq A[j].rcd.seq < 0 := by
          unfold cmpZ
          rw [if_neg hlt]
          split <;> omega
        have he := hend (fun _ => by simp only [Nat.add_sub_cancel]; omega)
        simp [F_slices_insertionSortCmpFunc_Found_L0, Dw3, srtM, t0, t1, t2, t3, t8, t9, f0, f1, fC_obj, g1, g2, q1, q2, q3, q4, q5, w3, hc, w1, g5, g6]
        exact ⟨k - 1, by omega, IW.of (show OutI m b l l.length n _ _ _ from ⟨i + 1, by omega, by omega, by simpa using t0, by simpa using t1, by simpa using t2, by simpa using t3, by simp [hA, w1], by rw [← he]; rfl⟩)⟩
  · have : i = n := by omega
    subst this
    simp [F_slices_insertionSortCmpFunc_Found_L1, s0, s1, s2, s3, s8]
theorem c_insertion0 (m : Mem) (x : V) (a : Int) (ha : 0 ≤ a ∧ a ≤ 2 ^ 30) (f : V) : Loc Try.prog n_slices_insertionSortCmpFunc_Found [x, .val (.int .i64 a), .val (.int .i64 a), f] m (.tuple []) m := by
  refine Loc.ofX Dw3_ok hm F_slices_insertionSortCmpFunc_Found_ok (by simp [F_slices_insertionSortCmpFunc_Found]) ?_
  have w1 := IntWalk.i64_in (a + 1) (by omega)
  simp [F_slices_insertionSortCmpFunc_Found, w1]
  refine wp_loop (fun _ s m' => s 2 = .val (.int .i64 a) ∧ s 8 = .val (.int .i64 (a + 1)) ∧ m' = m) 0 (IW.of ⟨by simp, by simp, rfl⟩) fun k s m' ⟨s2, s8, hm'⟩ => ?_
  subst hm'
  have h1 : ¬ a + 1 < a := by omega
  simp [F_slices_insertionSortCmpFunc_Found_L1, s2, s8, h1]
theorem oneL' {P : Program} {n : FuncId} {A : List V} {M M' : Mem} {v : V} (h : Loc P n A M v M') : ∃ sp, EOkL P n sp ∧ sp A M = some (v, M') := by
  classical
  refine ⟨fun args m => if args = A ∧ m = M then some (v, M') else none, fun args m v1 m1 h1 => ?_, if_pos ⟨rfl, rfl⟩⟩
  simp only at h1
  split at h1
  · rename_i hc
    obtain ⟨rfl, rfl⟩ := hc
    cases h1
    exact h
  · cases h1
theorem twoL {P : Program} {n : FuncId} {A A2 : List V} {M M' M2 M2' : Mem} {v v2 : V} (h : Loc P n A M v M') (h2 : Loc P n A2 M2 v2 M2') (hne : A2 ≠ A) : ∃ sp, EOkL P n sp ∧ sp A M = some (v, M') ∧ sp A2 M2 = some (v2, M2') := by
  classical
  refine ⟨fun args m => if args = A ∧ m = M then some (v, M') else if args = A2 ∧ m = M2 then some (v2, M2') else none, fun args m v1 m1 h1 => ?_, if_pos ⟨rfl, rfl⟩, ?_⟩
  · simp only at h1
    split at h1
    · rename_i hc
      obtain ⟨rfl, rfl⟩ := hc
      cases h1
      exact h
    · split at h1
      · rename_i hc
        obtain ⟨rfl, rfl⟩ := hc
        cases h1
        exact h2
      · cases h1
  · simp [hne]
theorem c_stable (m : Mem) (b : Nat) (l : List Fnd) (hb : m.boxes[b]? = some (fC l)) (hl : l.length ≤ 20) (hl1 : 1 ≤ l.length) :
    Loc Try.prog n_slices_stableCmpFunc_Found [.ref (.sli 0 5 l.length) b, .val (.int .i64 l.length), .func n_log_All_1 []] m (.tuple []) (srtM m b (sortF l)) := by
  have h1 := c_insertion m b l l.length hb (Nat.le_refl _) hl1 (by omega)
  rw [List.take_length, List.drop_length, List.append_nil] at h1
  obtain ⟨sp, hsp, e1, e2⟩ := twoL h1 (c_insertion0 (srtM m b (sortF l)) (.ref (.sli 0 5 l.length) b) 20 (by decide) (.func n_log_All_1 [])) (by simp)
  refine Loc.ofX (OOk.nil.addL hsp) hm F_slices_stableCmpFunc_Found_ok (by simp [F_slices_stableCmpFunc_Found]) ?_
  simp at e1 e2
  by_cases h20 : l.length = 20
  · rw [h20] at e1 e2
    simp at e1 e2
    simp [F_slices_stableCmpFunc_Found, h20]
    refine wp_loop (fun k s m' => s 0 = .ref (.sli 0 5 20) b ∧ s 1 = .val (.int .i64 20) ∧ s 2 = .func n_log_All_1 [] ∧ s 6 = .val (.int .i64 20) ∧ ((k = 1 ∧ s 7 = .val (.int .i64 0) ∧ s 8 = .val (.int .i64 20) ∧ m' = m) ∨ (k = 0 ∧ s 7 = .val (.int .i64 20) ∧ s 8 = .val (.int .i64 40) ∧ m' = srtM m b (sortF l)))) 1
      (IW.of ⟨by simp, by simp, by simp, by simp, .inl ⟨rfl, by simp, by simp, rfl⟩⟩) fun k s m' ⟨s0, s1, s2, s6, hh⟩ => ?_
    have w40 : IntKind.i64.wrap (20 + 20) = 40 := by decide
    have w40' : IntKind.i64.wrap 40 = 40 := by decide
    rcases hh with ⟨rfl, s7, s8, rfl⟩ | ⟨rfl, s7, s8, rfl⟩
    · simp [F_slices_stableCmpFunc_Found_L2, s0, s1, s2, s6, s7, s8, e1, w40, w40']
      exact IW.of (show _ ∧ _ from ⟨by simpa using s0, by simpa using s1, by simpa using s2, by simpa using s6, by simp, by simp, rfl⟩)
    · simp [F_slices_stableCmpFunc_Found_L2, s0, s1, s2, s6, s7, s8, e2]
      refine wp_loop (fun _ s m' => s 1 = .val (.int .i64 20) ∧ s 6 = .val (.int .i64 20) ∧ m' = srtM m b (sortF l)) 0 (IW.of ⟨by simpa using s1, by simpa using s6, rfl⟩) fun k s m' ⟨s1, s6, hm'⟩ => ?_
      subst hm'
      simp [F_slices_stableCmpFunc_Found_L1, s1, s6]
  · have hlt : ¬ (20 : Int) ≤ l.length := by omega
    have hlt2 : ¬ (20 : Int) < l.length := by omega
    simp [F_slices_stableCmpFunc_Found]
    refine wp_loop (fun _ s m' => s 0 = .ref (.sli 0 5 l.length) b ∧ s 1 = .val (.int .i64 l.length) ∧ s 2 = .func n_log_All_1 [] ∧ s 6 = .val (.int .i64 20) ∧ s 7 = .val (.int .i64 0) ∧ s 8 = .val (.int .i64 20) ∧ m' = m) 0
      (IW.of ⟨by simp, by simp, by simp, by simp, by simp, by simp, rfl⟩) fun k s m' ⟨s0, s1, s2, s6, s7, s8, hm'⟩ => ?_
    subst hm'
    simp [F_slices_stableCmpFunc_Found_L2, s0, s1, s2, s6, s7, s8, hlt, e1]
    refine wp_loop (fun _ s m'' => s 1 = .val (.int .i64 l.length) ∧ s 6 = .val (.int .i64 20) ∧ m'' = srtM m' b (sortF l)) 0 (IW.of ⟨by simpa using s1, by simpa using s6, rfl⟩) fun k s m'' ⟨s1, s6, hm''⟩ => ?_
    subst hm''
    simp [F_slices_stableCmpFunc_Found_L1, s1, s6, hlt2]
theorem c_sortF (m : Mem) (b : Nat) (l : List Fnd) (hb : m.boxes[b]? = some (fC l)) (hl : l.length ≤ 20) (hl1 : 1 ≤ l.length) :
    Loc Try.prog n_slices_SortStableFunc_Found [.ref (.sli 0 5 l.length) b, .func n_log_All_1 []] m (.tuple []) (srtM m b (sortF l)) := by
  obtain ⟨sp, hsp, e⟩ := oneL' (c_stable m b l hb hl hl1)
  refine Loc.ofX (OOk.nil.addL hsp) hm F_slices_SortStableFunc_Found_ok (by simp [F_slices_SortStableFunc_Found]) ?_
  simp at e
  simp [F_slices_SortStableFunc_Found, e]
end Go.Av

namespace Go.Av.Pl
/-- How many bytes a record has that bytes begin with; it; and is it one? -/
def rdSz (b : List UInt8) : Int := recSz (leN ((b.drop 6).take 2))
def rdRc (b : List UInt8) : Rec := ⟨leN ((b.drop 4).take 2), leN ((b.drop 8).take 8), (openT (b.take (rdSz b).toNat)).drop 16⟩
def rdOk (b : List UInt8) : Bool := decide (16 ≤ b.length) && decide (leN (b.take 4) = 1196184151) && decide (leN ((b.drop 8).take 8) ≤ 4611686018427387903) && decide (¬ rdSz b = 0 ∧ rdSz b ≤ b.length) && openOk (b.take (rdSz b).toNat) && recOk (rdRc b)
/-- The records one behind the other, and where they stand. -/
def scanL : Nat → List UInt8 → Int → List (Rec × Int)
  | 0, _, _ => []
  | k + 1, b, at_ => if rdOk b = true then (rdRc b, at_) :: scanL k (b.drop (rdSz b).toNat) (at_ + rdSz b) else []
theorem leN_leB' (v : Nat) : ∀ w, leN (leB v w) = v % 256 ^ w
  | 0 => by simp [leB_zero, leN, Nat.mod_one]
  | w + 1 => by
    rw [leB_succ, leN_append, leN_leB' v w, leB_length]
    have e : leN [UInt8.ofNat (v / 256 ^ w)] = v / 256 ^ w % 256 := by simp [leN]
    rw [e, Nat.pow_succ, Nat.mod_mul]
theorem leN_of {v w : Nat} (h : v < 256 ^ w) : leN (leB v w) = v := by rw [leN_leB', Nat.mod_eq_of_lt h]
theorem rdSz_pos {b : List UInt8} (h : ¬ rdSz b = 0) : 20 ≤ rdSz b ∧ rdSz b ≤ 4116 := by
  unfold rdSz recSz at *
  split at h
  · exact absurd rfl h
  · rename_i hc
    rw [if_neg hc]
    omega
theorem rd_back {r : Rec} (h : recOk r = true) (rest : List UInt8) : rdOk (recB r ++ rest) = true ∧ rdRc (recB r ++ rest) = r ∧ rdSz (recB r ++ rest) = r.body.length + 20 := by
  have hb := recOk_iff.1 h
  have e0 : recB r = leB 1196184151 4 ++ (leB r.kind.toNat 2 ++ (leB r.body.length 2 ++ (leB r.seq.toNat 8 ++ (r.body ++ leB (crcN 0 (recH r ++ r.body)) 4)))) := by
    rw [recB, if_pos h]
    simp only [sealS, recH, List.append_assoc]
  have hl := recB_length h
  have d0 : (recB r ++ rest).take 4 = leB 1196184151 4 := by
    rw [e0, List.append_assoc, List.take_left' (leB_length _ _)]
  have d4 : (recB r ++ rest).drop 4 = leB r.kind.toNat 2 ++ (leB r.body.length 2 ++ (leB r.seq.toNat 8 ++ (r.body ++ leB (crcN 0 (recH r ++ r.body)) 4))) ++ rest := by
    rw [e0, List.append_assoc, List.drop_left' (leB_length _ _)]
  have d6 : (recB r ++ rest).drop 6 = leB r.body.length 2 ++ (leB r.seq.toNat 8 ++ (r.body ++ leB (crcN 0 (recH r ++ r.body)) 4)) ++ rest := by
    have : (recB r ++ rest).drop 6 = ((recB r ++ rest).drop 4).drop 2 := by rw [List.drop_drop]
    rw [this, d4, List.append_assoc, List.drop_left' (leB_length _ _)]
  have d8 : (recB r ++ rest).drop 8 = leB r.seq.toNat 8 ++ (r.body ++ leB (crcN 0 (recH r ++ r.body)) 4) ++ rest := by
    have : (recB r ++ rest).drop 8 = ((recB r ++ rest).drop 6).drop 2 := by rw [List.drop_drop]
    rw [this, d6, List.append_assoc, List.drop_left' (leB_length _ _)]
  have n0 : leN ((recB r ++ rest).take 4) = 1196184151 := by rw [d0, leN_of (by decide)]
  have n1 : leN (((recB r ++ rest).drop 4).take 2) = r.kind.toNat := by rw [d4, List.append_assoc, List.take_left' (leB_length _ _), leN_of (by omega)]
  have n2 : leN (((recB r ++ rest).drop 6).take 2) = r.body.length := by rw [d6, List.append_assoc, List.take_left' (leB_length _ _), leN_of (by omega)]
  have n3 : leN (((recB r ++ rest).drop 8).take 8) = r.seq.toNat := by rw [d8, List.append_assoc, List.take_left' (leB_length _ _), leN_of (by omega)]
  have hs : rdSz (recB r ++ rest) = r.body.length + 20 := by
    rw [rdSz, n2, recSz, if_neg (by omega)]
  have ht : (recB r ++ rest).take (rdSz (recB r ++ rest)).toNat = recB r := by
    rw [hs, List.take_left' (by omega)]
  have e1 : recB r = sealS (recH r ++ r.body) := by rw [recB, if_pos h]
  have hT : (recB r).take ((recB r).length - 4) = recH r ++ r.body := by
    rw [e1, sealS_length, Nat.add_sub_cancel, sealS, List.take_left']
    rfl
  have hok : openOk (recB r) = true := by
    unfold openOk
    rw [hT, ← e1]
    simp
    omega
  have hoT : openT (recB r) = recH r ++ r.body := by rw [openT, if_pos hok, hT]
  have hr : rdRc (recB r ++ rest) = r := by
    obtain ⟨k, s, b⟩ := r
    simp only at hb
    unfold rdRc
    rw [n1, n3, ht, hoT, List.drop_left' (recH_length _)]
    simp only [Rec.mk.injEq, and_true]
    exact ⟨by omega, by omega⟩
  refine ⟨?_, hr, hs⟩
  unfold rdOk
  rw [hr, h, ht, hok, n0, n3, hs]
  simp
  omega
theorem scan_back : ∀ (l : List Rec) (k : Nat) (at_ : Int), (∀ r ∈ l, recOk r = true) → l.length < k → scanL k (l.flatMap recB) at_ = (List.range l.length).map fun i => (l.getD i Rec.zero, at_ + (((l.take i).flatMap recB).length : Int))
  | [], k + 1, at_, _, _ => by
    have : rdOk [] = false := by decide
    simp [scanL, this]
  | r :: l, k + 1, at_, h, hk => by
    obtain ⟨h1, h2, h3⟩ := rd_back (h r List.mem_cons_self) (l.flatMap recB)
    have hl := recB_length (h r List.mem_cons_self)
    have ih := scan_back l k (at_ + (r.body.length + 20)) (fun x hx => h x (List.mem_cons_of_mem _ hx)) (by simpa using hk)
    rw [List.flatMap_cons, scanL, if_pos h1, h2, h3, List.drop_left' (by omega), ih, List.length_cons, List.range_succ_eq_map, List.map_cons, List.map_map]
    congr 1
    · simp
    · refine List.map_congr_left fun i _ => ?_
      simp only [Function.comp, List.take_succ_cons, List.flatMap_cons, List.length_append, hl]
      refine Prod.ext rfl ?_
      simp only
      omega
  | l, 0, _, _, hk => by omega
end Go.Av.Pl

namespace Go.Av
open Enc (enc dec)
open Cel (cs dc)
open Go.Proofs Pl

def rdV (b : List UInt8) : V := if rdOk b = true then .tuple [enc (rdRc b), enc (rdSz b), enc (0 : Int)] else .tuple [enc Rec.zero, enc (0 : Int), enc (50 : Int)]
theorem sp_zOpen_ok : EOk Try.prog n_crc_Open (sp1 fun b : List UInt8 => if b.length ≤ 2 ^ 40 then some (.tuple [.row 0 1 ((openT b).map cs), enc (openE b)], [(5, 1, (openT b).length)]) else none) := sp1_ok fun b r h => by
  split at h <;> cases h
  exact c_crc_Open b (by assumption)
theorem unpack_whhq {b : List UInt8} (h : 16 ≤ b.length) : unpackS [119, 104, 104, 113] (b.take 16) = some [leN (b.take 4), leN ((b.drop 4).take 2), leN ((b.drop 6).take 2), leN ((b.drop 8).take 8)] := by
  have e : okT = fun (b : List UInt8) (w : Int) => mayB 0 w && decide (w ≤ b.length) := rfl
  match b, h with
  | a1 :: a2 :: a3 :: a4 :: a5 :: a6 :: a7 :: a8 :: a9 :: a10 :: a11 :: a12 :: a13 :: a14 :: a15 :: a16 :: r, _ =>
    simp [unpackS, sizeL, okT, mayB]
def Dv1 : Orc := (((((Orc.nil.add n_le_Unpack (sp2 sp_unpack)).add n_record_Size (sp1 (fun n : Int => some (enc (recSz n), [])))).add n_crc_Open (sp1 fun b : List UInt8 => if b.length ≤ 2 ^ 40 then some (.tuple [.row 0 1 ((openT b).map cs), enc (openE b)], [(5, 1, (openT b).length)]) else none)).add n_bytes_Clone (sp1 sp_clone)).add n_record_Check (sp1 sp_rCheck))
theorem Dv1_ok : OOk Try.prog Dv1 := ((((OOk.nil.add sp_unpack_ok).add (sp1_ok fun n r h => by cases h; exact c_rSize n)).add sp_zOpen_ok).add sp_zclone_ok).add sp_rCheck_ok
set_option maxRecDepth 20000 in
theorem c_rRead (b : List UInt8) (hb : b.length ≤ 2 ^ 39) : Pure Try.prog n_record_Read [enc b] (rdV b) [] := by
  refine Pure.ofC Dv1_ok hm F_record_Read_ok (by simp [F_record_Read]) (by unfold rdV; split <;> simp [V.res, V.res1]) ?_
  by_cases h1 : 16 ≤ b.length
  · have h1' : ¬ (b.length : Int) < 16 := by omega
    have h1i : (16 : Int) ≤ b.length := by omega
    have hp := unpack_whhq h1
    have hN : unpackN [119, 104, 104, 113] (b.take 16) = [leN (b.take 4), leN ((b.drop 4).take 2), leN ((b.drop 6).take 2), leN ((b.drop 8).take 8)] := by simp only [unpackN, hp]; rfl
    have hE : unpackE [119, 104, 104, 113] (b.take 16) = 0 := by simp only [unpackE, hp]; rfl
    have lt := fun (l : List UInt8) (n : Nat) => Nat.lt_of_lt_of_le (leN_lt (l.take n)) (Nat.pow_le_pow_right (show 0 < 256 by decide) (show (l.take n).length ≤ n by simp; omega))
    have l1 := lt (b.drop 4) 2
    have l2 := lt (b.drop 6) 2
    have w1 := IntWalk.i64_in ((leN ((b.drop 4).take 2) : Nat) : Int) (by omega)
    have w2 := IntWalk.i64_in ((leN ((b.drop 6).take 2) : Nat) : Int) (by omega)
    have hlm : min 16 b.length ≤ 1099511627776 := by omega
    by_cases h2 : leN (b.take 4) = 1196184151
    · have h2i : (leN (b.take 4) : Int) = 1196184151 := by omega
      by_cases h3 : leN ((b.drop 8).take 8) ≤ 4611686018427387903
      · have h3' : ¬ (4611686018427387903 : Int) < (leN ((b.drop 8).take 8) : Nat) := by omega
        have w3 := IntWalk.i64_in ((leN ((b.drop 8).take 8) : Nat) : Int) (by omega)
        have hsz : recSz ((leN ((b.drop 6).take 2) : Nat) : Int) = rdSz b := rfl
        by_cases h4 : rdSz b = 0
        · have hno : rdOk b = false := by simp [rdOk, h4]
          simp [F_record_Read, Dv1, h1', h1i, f_whhq, hlm, hN, hE, h2i, h3', w2, hsz, h4, rdV, hno, Rec.zero]
        · obtain ⟨s1, s2⟩ := rdSz_pos h4
          by_cases h5 : (b.length : Int) < rdSz b
          · have hno : rdOk b = false := by simp [rdOk]; omega
            simp [F_record_Read, Dv1, h1', h1i, f_whhq, hlm, hN, hE, h2i, h3', w2, hsz, h4, h5, rdV, hno, Rec.zero]
          · have h5' : rdSz b ≤ b.length := by omega
            have h50 : 0 ≤ rdSz b := by omega
            have h6 : min (rdSz b).toNat b.length ≤ 1099511627776 := by omega
            by_cases h7 : openOk (b.take (rdSz b).toNat) = true
            · have e7 : openE (b.take (rdSz b).toNat) = 0 := by simp [openE, h7]
              have hTl : (openT (b.take (rdSz b).toNat)).length = (rdSz b).toNat - 4 := by
                rw [openT, if_pos h7]
                simp
                omega
              have hT16 : (16 : Int) ≤ (openT (b.take (rdSz b).toNat)).length := by rw [hTl]; omega
              have hTb : (openT (b.take (rdSz b).toNat)).length ≤ 140737488355344 := by omega
              by_cases h8 : recOk (rdRc b) = true
              · have hok : rdOk b = true := by simp [rdOk, h1, h2, h3, h4, h5', h7, h8]
                have e8 : recE ⟨leN ((b.drop 4).take 2), leN ((b.drop 8).take 8), (openT (b.take (rdSz b).toNat)).drop 16⟩ = 0 := by
                  show recE (rdRc b) = 0
                  simp [recE, h8]
                simp [F_record_Read, Dv1, h1', h1i, f_whhq, hlm, hN, hE, h2i, h3', w1, w2, w3, hsz, h4, h5, h5', h50, h6, e7, hT16, hTb, e8, decX_cs, rdV, hok, rdRc]
                omega
              · have h8' : recOk (rdRc b) = false := by simpa using h8
                have hno : rdOk b = false := by simp [rdOk, h8']
                have e8 : recE ⟨leN ((b.drop 4).take 2), leN ((b.drop 8).take 8), (openT (b.take (rdSz b).toNat)).drop 16⟩ = 50 := by
                  show recE (rdRc b) = 50
                  simp [recE, h8']
                simp [F_record_Read, Dv1, h1', h1i, f_whhq, hlm, hN, hE, h2i, h3', w1, w2, w3, hsz, h4, h5, h5', h50, h6, e7, hT16, hTb, e8, decX_cs, rdV, hno, Rec.zero]
                omega
            · have h7' : openOk (b.take (rdSz b).toNat) = false := by simpa using h7
              have e7 : openE (b.take (rdSz b).toNat) = 20 := by simp [openE, h7']
              have hno : rdOk b = false := by simp [rdOk, h7']
              simp [F_record_Read, Dv1, h1', h1i, f_whhq, hlm, hN, hE, h2i, h3', w2, hsz, h4, h5, h5', h50, h6, e7, rdV, hno, Rec.zero]
              omega
      · have h3' : (4611686018427387903 : Int) < (leN ((b.drop 8).take 8) : Nat) := by omega
        have hno : rdOk b = false := by simp [rdOk, h3]
        simp [F_record_Read, Dv1, h1', h1i, f_whhq, hlm, hN, hE, h2i, h3', rdV, hno, Rec.zero]
    · have h2i : ¬ (leN (b.take 4) : Int) = 1196184151 := by omega
      have hno : rdOk b = false := by simp [rdOk, h2]
      simp [F_record_Read, Dv1, h1', h1i, f_whhq, hlm, hN, hE, h2i, rdV, hno, Rec.zero]
  · have h1' : (b.length : Int) < 16 := by omega
    have hno : rdOk b = false := by simp [rdOk, h1]
    simp [F_record_Read, Dv1, h1', rdV, hno, Rec.zero]
end Go.Av

namespace Go.Av
open Enc (enc dec)
open Cel (cs dc)
open Go.Proofs Pl

@[simp] def sp_rRead (b : List UInt8) : Option (V × List Tip) := if b.length ≤ 2 ^ 39 then some (rdV b, []) else none
theorem sp_rRead_ok : EOk Try.prog n_record_Read (sp1 sp_rRead) := sp1_ok fun b r h => by
  simp only [sp_rRead] at h
  split at h <;> cases h
  exact c_rRead b (by assumption)
def Dy1 : Orc := Orc.nil.add n_record_Read (sp1 sp_rRead)
theorem Dy1_ok : OOk Try.prog Dy1 := OOk.nil.add sp_rRead_ok
def scV (b : List UInt8) : V := if rdOk b = true then .tuple [enc (rdRc b), enc (rdSz b), enc true] else .tuple [enc Rec.zero, enc (0 : Int), enc false]
theorem c_scan1 (m : Mem) (p q : Nat) (b : List UInt8) (a : Nat) (hp : m.boxes[p]? = some [.lit 1 (b.map cs)]) (hq : m.boxes[q]? = some [.val (.int .i64 a)]) (ha : a ≤ b.length) (hb : b.length ≤ 2 ^ 39) :
    Loc Try.prog n_record_Scan_1 [.ptr p 0, .ptr q 0] m (scV (b.drop a)) m := by
  refine Loc.ofC Dy1_ok hm F_record_Scan_1_ok (by simp [F_record_Scan_1]) (.inr (by unfold scV; split <;> exact ⟨_, rfl, by simp [clean_cs, Rec.zero]⟩)) m.boxes.length m.tips.length (Nat.le_refl _) (Nat.le_refl _) fun hu => ?_
  have f1 : ∀ (x : List (List V)), (m.boxes ++ x)[p]? = m.boxes[p]? := fun x => List.getElem?_append_left (lt_of_some hp)
  have f2 : ∀ (x : List (List V)), (m.boxes ++ x)[q]? = m.boxes[q]? := fun x => List.getElem?_append_left (lt_of_some hq)
  have hai : (a : Int) ≤ b.length := by omega
  have hbl : b.length - a ≤ 549755813888 := by omega
  cases hr : rdOk (b.drop a) with
  | true => simp [F_record_Scan_1, Dy1, f1, f2, hp, hq, hu, hai, hbl, rdV, scV, hr, box_new, box_set, clean_cs]
  | false => simp [F_record_Scan_1, Dy1, f1, f2, hp, hq, hu, hai, hbl, rdV, scV, hr, box_new, box_set, Rec.zero]
def ScanJ (b : List UInt8) (k : Nat) (s : Nat → V) (m : Mem) : Prop :=
  ∃ (a : Nat) (acc : List (Rec × Int)) (bx : List (List V)), a ≤ b.length ∧ b.length - a < k ∧ acc.length ≤ a ∧ scanL (b.length + 1) b 0 = acc ++ scanL k (b.drop a) a ∧ s 1 = .ptr 0 0 ∧ s 2 = .row 0 3 ((acc.map (·.1)).map cs) ∧ s 3 = .row 1 1 ((acc.map (·.2)).map cs) ∧ s 4 = .ptr 1 0 ∧
    s 5 = .func n_record_Scan_1 [.ptr 0 0, .ptr 1 0] ∧ m = ⟨[.lit 1 (b.map cs)] :: [.val (.int .i64 a)] :: bx, [(36, 3, acc.length), (3, 1, acc.length)]⟩
def scanR (b : List UInt8) : List Rec := (scanL (b.length + 1) b 0).map (·.1)
def scanP (b : List UInt8) : List Int := (scanL (b.length + 1) b 0).map (·.2)
theorem decX_u8r : ∀ {xs : List (List V)} {l : List UInt8}, decX xs = some l → xs = l.map cs
  | [], l, h => by cases h; rfl
  | e :: xs, l, h => by
    rw [decX_cons] at h
    simp only [Option.bind_eq_some_iff] at h
    obtain ⟨a, ha, r, hr, h⟩ := h
    cases h
    rw [decX_u8r hr, List.map_cons]
    congr 1
    simp only [dc_u8, dc1] at ha
    split at ha
    · rename_i v
      cases v with
      | val x => cases x with
        | int k n => cases k with
          | u8 =>
            simp only [dec_u8] at ha
            split at ha
            · rename_i hc
              cases ha
              have : ((UInt8.ofNat n.toNat).toNat : Int) = n := by rw [UInt8.toNat_ofNat']; omega
              simp only [cs_u8, this]
            · cases ha
          | _ => cases ha
        | _ => cases ha
      | _ => cases ha
    · cases ha
def sp_scan1 : List V → Mem → Option (V × Mem)
  | [.ptr p 0, .ptr q 0], m => match m.boxes[p]? with
    | some [.lit 1 xs] => (decX xs : Option (List UInt8)).bind fun b => (boxI m q).bind fun a => if 0 ≤ a ∧ a ≤ b.length ∧ b.length ≤ 2 ^ 39 then some (scV (b.drop a.toNat), m) else none
    | _ => none
  | _, _ => none
theorem sp_scan1_ok : EOkL Try.prog n_record_Scan_1 sp_scan1 := by
  intro args m v m' h
  unfold sp_scan1 at h
  split at h
  · split at h
    · rename_i xs hp
      simp only [Option.bind_eq_some_iff] at h
      obtain ⟨b, hb, a, ha, h⟩ := h
      split at h
      · rename_i hc
        cases h
        rw [decX_u8r hb] at hp
        have hq := boxI_some ha
        have e : ((a.toNat : Nat) : Int) = a := Int.toNat_of_nonneg hc.1
        rw [← e] at hq
        exact c_scan1 m _ _ b a.toNat hp hq (by omega) hc.2.2
      · cases h
    · cases h
  · cases h
def Dy2 : Orc := Orc.nil.addL n_record_Scan_1 sp_scan1
theorem Dy2_ok : OOk Try.prog Dy2 := OOk.nil.addL sp_scan1_ok
theorem c_rScan (b : List UInt8) (hb : b.length ≤ 2 ^ 38) : Pure Try.prog n_record_Scan [enc b] (.tuple [enc (scanR b), enc (scanP b)]) [] := by
  refine Pure.ofC Dy2_ok hm F_record_Scan_ok (by simp [F_record_Scan]) (by simp [V.res, V.res1]) ?_
  have rest : ∀ k s m, ScanJ b k s m → wp Try.prog noY Dy2 F_record_Scan_B0 s m (jumpQ 0 (fun s m => ∃ j, j < k ∧ IW (ScanJ b j) s m) (Fin [.tmp 2, .tmp 3] fun v m => keepN [] v (.tuple [enc (scanR b), enc (scanP b)]))) := by
    intro k s m ⟨a, acc, bx, ha, hk, hacc, hs, s1, s2, s3, s4, s5, hm⟩
    subst hm
    obtain ⟨k, rfl⟩ : ∃ k', k = k' + 1 := ⟨k - 1, by omega⟩
    have ea : sp_scan1 [.ptr 0 0, .ptr 1 0] ⟨[.lit 1 (b.map cs)] :: [.val (.int .i64 a)] :: bx, [(36, 3, acc.length), (3, 1, acc.length)]⟩ = some (scV (b.drop a), ⟨[.lit 1 (b.map cs)] :: [.val (.int .i64 a)] :: bx, [(36, 3, acc.length), (3, 1, acc.length)]⟩) := by
      simp only [sp_scan1, boxI, List.getElem?_cons_zero, List.getElem?_cons_succ, decX_cs, Option.bind_some]
      rw [if_pos ⟨by omega, by omega, by omega⟩, Int.toNat_natCast]
    cases hr : rdOk (b.drop a) with
    | false =>
      have e1 : scanL (k + 1) (b.drop a) a = [] := by rw [scanL, if_neg (by simp [hr])]
      rw [e1, List.append_nil] at hs
      simp [F_record_Scan_B0, Dy2, s1, s2, s3, s4, s5, ea, scV, hr, Rec.zero, scanR, scanP, hs]
      rw [← List.map_map, ← List.map_map]
      exact ⟨clean_cs _, clean_cs _⟩
    | true =>
      obtain ⟨q1, q2⟩ : ¬ rdSz (b.drop a) = 0 ∧ rdSz (b.drop a) ≤ (b.drop a).length := by
        simp only [rdOk, Bool.and_eq_true, decide_eq_true_eq] at hr
        exact hr.1.1.2
      obtain ⟨q3, q4⟩ := rdSz_pos q1
      rw [List.length_drop] at q2
      have e1 : scanL (k + 1) (b.drop a) a = (rdRc (b.drop a), (a : Int)) :: scanL k ((b.drop a).drop (rdSz (b.drop a)).toNat) ((a : Int) + rdSz (b.drop a)) := by rw [scanL, if_pos hr]
      rw [e1] at hs
      obtain ⟨z, hz⟩ : ∃ z : Nat, rdSz (b.drop a) = z := ⟨(rdSz (b.drop a)).toNat, by omega⟩
      have w1 := IntWalk.i64_in ((a : Int) + z) (by omega)
      rw [hz, List.drop_drop, Int.toNat_natCast] at hs
      simp [F_record_Scan_B0, Dy2, s1, s2, s3, s4, s5, ea, scV, hr, hz, w1]
      refine ⟨by omega, by omega, k, by omega, IW.of (show ScanJ b k _ _ from ⟨a + z, acc ++ [(rdRc (b.drop a), (a : Int))], _, by omega, by omega, by simp; omega, ?_, by simpa using s1, by simp, by simp, by simpa using s4, by simpa using s5, by simp; rfl⟩)⟩
      rw [hs]
      simp
  simp [F_record_Scan]
  refine wp_jumps (ScanJ b) ?_ ?_
  · simp [F_record_Scan_S0]
    refine wp_mono _ (fun e s m h => ?_) (rest (b.length + 1) _ _ ⟨0, [], [], by omega, by omega, by simp, by simp, by simp, by simp, by simp, by simp, by simp, by simp⟩)
    cases e with
    | goto l => exact ⟨h.1, h.2.elim fun j hj => ⟨j, hj.2⟩⟩
    | _ => exact h
  · intro k s m hJ
    simp [F_record_Scan_J0]
    exact rest k s m hJ
end Go.Av

namespace Go.Av
open Go.RowKit

/-- What a row's cells may be then: numbers that are no bytes, and bytes in slices. -/
def byteE : List V → Bool
  | [.val (.int .u8 _)] => true
  | _ => false
def meltV : V → Bool
  | .val (.int k _) => decide (k ≠ .u8)
  | .lit 1 ys => ys.all byteE
  | _ => false
section
variable {B : Nat} {I0 : Nat → Nat → Prop} {w0 w wst : World} {M M0 : Mp} {m : Mem}
theorem repX_bytes {M' : Mp} {w : World} : ∀ {ys : List (List V)} {h o : Nat}, ys.all byteE = true → (∀ o' y, M.I h o' → w.cell? ⟨h, o', none⟩ = some y → (∃ k, y = .int .u8 k) → M'.I h o') → RepX M w ys h o → RepX M' w ys h o
  | [], _, _, _, _, _ => trivial
  | e :: ys, h, o, hb, hI, hr => by
    simp only [List.all_cons, Bool.and_eq_true] at hb
    obtain ⟨h1, h2⟩ := hr
    refine ⟨?_, repX_bytes hb.2 hI h2⟩
    have hb1 := hb.1
    unfold byteE at hb1
    split at hb1
    · rename_i k
      obtain ⟨⟨x, k1, k2, k3, k4⟩, _⟩ := h1
      have k4' := k4
      obtain ⟨rfl, _⟩ := k4
      exact ⟨⟨_, hI _ _ k1 k2 ⟨_, rfl⟩, k2, k3, k4'⟩, trivial⟩
    · cases hb1
theorem rep_melt {M' : Mp} {w : World} {v : V} {x : Value} (hv : meltV v = true) (hI : ∀ h o y, M.I h o → w.cell? ⟨h, o, none⟩ = some y → (∃ k, y = .int .u8 k) → M'.I h o) (hr : Rep M w v x) : Rep M' w v x := by
  unfold meltV at hv
  split at hv
  · exact hr
  · rcases hr with hr | ⟨ad, c, rfl, h1, h2, h3, h4⟩
    · exact .inl hr
    · exact .inr ⟨ad, c, rfl, h1, h2, h3, repX_bytes hv (fun o' y => hI _ o' y) h4⟩
  · cases hv
theorem melt_nob {v : V} {x : Value} (hv : meltV v = true) (hr : Rep M w v x) : ¬ ∃ k, x = .int .u8 k := by
  rintro ⟨k, rfl⟩
  unfold meltV at hv
  split at hv
  · obtain ⟨h, _⟩ := hr
    cases h
    simp at hv
  · rcases hr with ⟨_, h⟩ | ⟨ad, c, h, _⟩ <;> cases h
  · cases hv
theorem BoxRep.noκ {i : Nat} {cs : List V} {ob : Obj} (h : BoxRep M i w cs ob) (hno : isObj cs = false) : M.κ i = none := by
  rcases h with ⟨h, _⟩ | ⟨h, _⟩ | ⟨fam, st, _, _, rfl⟩ | ⟨h, _⟩ | ⟨h, _⟩
  · exact h
  · exact h
  · cases st <;> simp [St.v, isObj] at hno
  · exact h
  · exact h
/-- The row's block, as a box. -/
theorem Good.melt (h : Good B I0 w0 M m w) (hI0 : ∀ (b o : Nat), I0 b o → b < B) (hE : Ext M0 M wst w) (hβ0 : M0.β = []) (hγ0 : M0.γ = []) (hI00 : ∀ (b o : Nat), M0.I b o → I0 b o) {t sz : Nat} {e : TypeId} {xs : List (List V)} {x : Value} (ht : m.tips[t]? = some (e, sz, xs.length))
    (hr : Rep M w (.row t sz xs) x) (hne : xs ≠ []) (hm : xs.flatten.all meltV = true) (hbx : ∀ cs ∈ m.boxes, isObj cs = false) :
    ∃ (g c : Nat), x = .slice (some ⟨g, 0, none⟩) xs.length c ∧ xs.length ≤ c ∧
      Good B I0 w0 { β := M.β ++ [g], γ := M.γ.set t [], I := fun b o => M.I b o ∧ b ≠ g, κ := M.κ } ⟨List.replicate m.boxes.length deadC ++ [xs.flatten], m.tips.set t (e, sz, 0)⟩ w ∧
      Ext M0 { β := M.β ++ [g], γ := M.γ.set t [], I := fun b o => M.I b o ∧ b ≠ g, κ := M.κ } wst w := by
  obtain ⟨G, hG, hx⟩ := hr
  rcases hx with ⟨h0, _⟩ | ⟨g, c, rfl, hnc, hsz, hX, hin⟩
  · exact absurd h0 hne
  have hn0 : 0 < xs.length := List.length_pos_iff.2 hne
  have hgen := h.gen t G _ hG hin
  simp only at hgen
  have hblk : (∃ cur, w.heap[g]? = some (.cells cur e (0, 0)) ∧ cur.size = c * sz) ∧ ∀ o, M.I g o → o < xs.length * sz := by
    rcases h.row t G e sz xs.length hG ht with ⟨h0, _⟩ | ⟨g1, c1, us, a1, a2, a3, a4⟩
    · omega
    · obtain ⟨_, a5⟩ := a2 _ hin
      have := a5 rfl
      cases this
      refine ⟨?_, a4⟩
      rcases a3.2 with ⟨_, b1⟩ | ⟨g2, c2, cur, b1, b2, b3, b4, b5, b6, b7⟩
      · omega
      · cases b1
        exact ⟨cur, b3, b6⟩
  obtain ⟨⟨cur, hh, hcs⟩, hIg⟩ := hblk
  have hfl : xs.flatten.length = xs.length * sz := flatten_length hsz
  have hle : xs.flatten.length ≤ cur.size := by rw [hfl, hcs]; exact Nat.mul_le_mul_right _ hnc
  have hcell : ∀ i v, xs.flatten[i]? = some v → ∃ x, cur[i]? = some x ∧ x.oneCell' = true ∧ Rep M w v x := fun i v hi => by
    obtain ⟨x, _, k2, k3, k4⟩ := hX.flat.get hi
    simp only [World.cell?, Nat.zero_add, hh] at k2
    exact ⟨x, by simpa using k2, k3, k4⟩
  have hmv : ∀ v ∈ xs.flatten, meltV v = true := fun v hv => List.all_eq_true.1 hm v hv
  have hIn : ∀ (h' o : Nat) (y : Value), M.I h' o → w.cell? ⟨h', o, none⟩ = some y → (∃ k, y = .int .u8 k) → M.I h' o ∧ h' ≠ g := by
    intro h' o y k1 k2 k3
    refine ⟨k1, ?_⟩
    rintro rfl
    have ho := hIg o k1
    rw [← hfl] at ho
    obtain ⟨x, j1, _, j3⟩ := hcell o _ (List.getElem?_eq_getElem ho)
    simp only [World.cell?, hh] at k2
    have : x = y := by
      have k2' : cur[o]? = some y := by simpa using k2
      rw [j1] at k2'
      exact Option.some.inj k2'
    subst this
    exact melt_nob (hmv _ (List.getElem_mem ho)) j3 k3
  have hκ : ∀ i, i < M.β.length → M.κ i = none := fun i hi => by
    have h1 : M.β[i]? = some M.β[i] := List.getElem?_eq_getElem hi
    have h2 : m.boxes[i]? = some (m.boxes[i]'(by rw [← h.lβ]; exact hi)) := List.getElem?_eq_getElem _
    obtain ⟨_, ob, _, hb⟩ := h.box i _ _ h1 h2
    exact hb.noκ (hbx _ (List.getElem_mem _))
  have hκn : ∀ i, M.κ i = none := fun i => by
    cases hk : M.κ i with
    | none => rfl
    | some fam => rw [← hk]; exact hκ i (h.κlt i fam hk)
  have hgB : B ≤ g := hgen.1
  refine ⟨g, c, rfl, hnc, ?_, ?_⟩
  · exact {
      below := h.below
      sizeB := h.sizeB
      i0 := fun b o hi => ⟨h.i0 b o hi, fun e => by have := hI0 b o hi; omega⟩
      i1 := fun b o hi => h.i1 b o hi.1
      ilt := fun b o hi => h.ilt b o hi.1
      lβ := by simp [h.lβ]
      nd := fun i j g' h1 h2 => by
        simp only [List.getElem?_append] at h1 h2
        split at h1
        · split at h2
          · exact h.nd i j g' h1 h2
          · rename_i k1 k2
            have e2 : j - M.β.length = 0 ∧ g' = g := by
              have := lt_of_some h2
              simp only [List.length_cons, List.length_nil] at this
              have e0 : j - M.β.length = 0 := by omega
              rw [e0] at h2
              exact ⟨e0, by simpa using h2.symm⟩
            rw [e2.2] at h1
            exact absurd (List.mem_of_getElem? h1) hgen.2.2
        · split at h2
          · rename_i k1 k2
            have e2 : g' = g := by
              have := lt_of_some h1
              simp only [List.length_cons, List.length_nil] at this
              have e0 : i - M.β.length = 0 := by omega
              rw [e0] at h1
              simpa using h1.symm
            rw [e2] at h2
            exact absurd (List.mem_of_getElem? h2) hgen.2.2
          · rename_i k1 k2
            have a1 := lt_of_some h1
            have a2 := lt_of_some h2
            simp only [List.length_cons, List.length_nil] at a1 a2
            omega
      iβ := fun b o hi i hb => by
        simp only [List.getElem?_append] at hb ⊢
        split at hb
        · rename_i k1
          have k2 : i < m.boxes.length := by rw [← h.lβ]; exact k1
          simp [k2]
        · have a1 := lt_of_some hb
          simp only [List.length_cons, List.length_nil] at a1
          rename_i k1
          have e0 : i - M.β.length = 0 := by omega
          rw [e0] at hb
          have : g = b := by simpa using hb
          exact absurd this.symm hi.2
      box := fun i g' cs h1 h2 => by
        simp only [List.getElem?_append] at h1 h2
        split at h1
        · rename_i k1
          have k2 : i < m.boxes.length := by rw [← h.lβ]; exact k1
          rw [if_pos (by simpa using k2)] at h2
          have e2 : cs = deadC := by
            rw [List.getElem?_replicate, if_pos k2] at h2
            exact (Option.some.inj h2).symm
          obtain ⟨j1, ob, j2, _⟩ := h.box i g' _ h1 (List.getElem?_eq_getElem k2)
          exact ⟨j1, ob, j2, .inr (.inr (.inr (.inr ⟨hκn i, e2⟩)))⟩
        · rename_i k1
          have a1 := lt_of_some h1
          simp only [List.length_cons, List.length_nil] at a1
          have e0 : i - M.β.length = 0 := by omega
          rw [e0] at h1
          have eg : g = g' := by simpa using h1
          subst eg
          have e3 : i = m.boxes.length := by rw [← h.lβ]; omega
          rw [if_neg (by simp; omega)] at h2
          have e4 : i - (List.replicate m.boxes.length deadC).length = 0 := by simp; omega
          rw [e4] at h2
          have e5 : xs.flatten = cs := by simpa using h2
          subst e5
          have htk : (cur.toList.take xs.flatten.length).length = xs.flatten.length := by rw [List.length_take]; exact Nat.min_eq_left (by simpa using hle)
          refine ⟨hgB, _, hh, .inl ⟨hκn i, cur, e, rfl, hle, RepL.of_get htk (fun i v z hv hz => ?_), fun z hz => ?_⟩⟩
          · obtain ⟨x, k1, k2, k3⟩ := hcell i v hv
            rw [List.getElem?_take, if_pos (lt_of_some hv)] at hz
            have hz' : cur[i]? = some z := by simpa using hz
            rw [k1] at hz'
            cases hz'
            exact rep_melt (hmv v (List.mem_of_getElem? hv)) hIn k3
          · obtain ⟨i, hi⟩ := List.getElem?_of_mem hz
            have hil := lt_of_some hi
            rw [htk] at hil
            obtain ⟨x, k1, k2, _⟩ := hcell i _ (List.getElem?_eq_getElem hil)
            rw [List.getElem?_take, if_pos hil] at hi
            have hz' : cur[i]? = some z := by simpa using hi
            rw [k1] at hz'
            cases hz'
            exact k2
      κlt := fun i fam hk => by simp only [hκn i] at hk; cases hk
      lγ := by simp [h.lγ]
      row := fun t' G' e' sz' n' h1 h2 => by
        by_cases htt : t' = t
        · subst htt
          have k1 : t' < M.γ.length := lt_of_some hG
          have k2 : t' < m.tips.length := lt_of_some ht
          rw [List.getElem?_set_self k1] at h1
          rw [List.getElem?_set_self k2] at h2
          cases h1
          cases h2
          exact .inl ⟨rfl, rfl⟩
        · rw [List.getElem?_set_ne (Ne.symm htt)] at h1 h2
          rcases h.row t' G' e' sz' n' h1 h2 with k | ⟨g1, c1, us, a1, a2, a3, a4⟩
          · exact .inl k
          · exact .inr ⟨g1, c1, us, a1, a2, a3, fun o ho => a4 o ho.1⟩
      gen := fun t' G' y h1 h2 => by
        by_cases htt : t' = t
        · subst htt
          rw [List.getElem?_set_self (lt_of_some hG)] at h1
          cases h1
          cases h2
        · rw [List.getElem?_set_ne (Ne.symm htt)] at h1
          obtain ⟨k1, k2, k3⟩ := h.gen t' G' y h1 h2
          refine ⟨k1, k2, fun hmem => ?_⟩
          rcases List.mem_append.1 hmem with hmem | hmem
          · exact k3 hmem
          · simp only [List.mem_singleton] at hmem
            exact htt (h.sep t' t G' G y _ h1 hG h2 hin hmem)
      sep := fun t1 t2 G1 G2 y1 y2 h1 h2 h3 h4 h5 => by
        have key : ∀ (t' : Nat) (G' : List (Nat × Nat × Nat)) (y : Nat × Nat × Nat), (M.γ.set t [])[t']? = some G' → y ∈ G' → t' ≠ t ∧ M.γ[t']? = some G' := by
          intro t' G' y k1 k2
          by_cases htt : t' = t
          · subst htt
            rw [List.getElem?_set_self (lt_of_some hG)] at k1
            cases k1
            cases k2
          · rw [List.getElem?_set_ne (Ne.symm htt)] at k1
            exact ⟨htt, k1⟩
        exact h.sep t1 t2 G1 G2 y1 y2 (key t1 G1 y1 h1 h3).2 (key t2 G2 y2 h2 h4).2 h3 h4 h5 }
  · refine ⟨fun b g' hb => by rw [hβ0] at hb; simp at hb, fun t' G' hb => by rw [hγ0] at hb; simp at hb, fun b o hi => ?_, fun i hi => by rw [hβ0] at hi; simp at hi⟩
    obtain ⟨k1, k2⟩ := hE.I b o hi
    exact ⟨⟨k1, fun e => by have := hI0 b o (hI00 b o hi); omega⟩, k2⟩
end
/-- All is forgotten but scalars, and the slice. -/
def meltS (d sz : Nat) (xs : List (List V)) (m : Mem) (s : Nat → V) : Nat → V := fun i => if i = d then .ref (.sli 0 sz xs.length) m.boxes.length else match s i with
  | .val v => .val v
  | _ => .any
def meltM (m : Mem) (t : Nat) (e : TypeId) (sz : Nat) (xs : List (List V)) : Mem := ⟨List.replicate m.boxes.length deadC ++ [xs.flatten], m.tips.set t (e, sz, 0)⟩
structure MeltOk (s : Nat → V) (m : Mem) (d t : Nat) (e : TypeId) (sz : Nat) (xs : List (List V)) : Prop where
  sl : s d = .row t sz xs
  tip : m.tips[t]? = some (e, sz, xs.length)
  ne : xs ≠ []
  cells : xs.flatten.all meltV = true
  boxes : ∀ cs ∈ m.boxes, isObj cs = false
theorem AT.melt {B : Nat} {I0 : Nat → Nat → Prop} {w0 wst w : World} {M0 : Mp} {n : Nat} {s : Nat → V} {m : Mem} {a : Act} (h : AT B I0 w0 M0 wst n s m a w) (hI0 : ∀ (b o : Nat), I0 b o → b < B) (hβ0 : M0.β = []) (hγ0 : M0.γ = []) (hI00 : ∀ (b o : Nat), M0.I b o → I0 b o)
    {d t : Nat} {e : TypeId} {sz : Nat} {xs : List (List V)} (hk : MeltOk s m d t e sz xs) : AT B I0 w0 M0 wst n (meltS d sz xs m s) (meltM m t e sz xs) a w := by
  obtain ⟨M, hE, hg, hs, ds, d1, d2, d3⟩ := h
  have hr := hs.2 d
  rw [hk.sl] at hr
  obtain ⟨g, c, hx, hnc, hg', hE'⟩ := hg.melt hI0 hE hβ0 hγ0 hI00 hk.tip hr hk.ne hk.cells hk.boxes
  refine ⟨_, hE', hg', ⟨hs.1, fun i => ?_⟩, ds, d1, d2, fun g' hg' => ?_⟩
  · unfold meltS
    split
    · rename_i e
      subst e
      rw [hx]
      refine ⟨g, c, rfl, hnc, ?_⟩
      simp [hg.lβ]
    · have h1 := hs.2 i
      split
      · rename_i v e
        rw [e] at h1
        exact h1
      · trivial
  · obtain ⟨b, k1, k2, k3⟩ := d3 g' hg'
    refine ⟨b, k1, ?_, k3⟩
    show (M.β ++ [g])[b]? = _
    rw [List.getElem?_append_left (lt_of_some k2)]
    exact k2
/-- A run up to some place, behind so many parts. -/
def wpK (P : Program) (Y : YRel) (D : Orc) (K : (Nat → V) → Mem → C → Prop) (Q : Exit → (Nat → V) → Mem → Prop) : Nat → C → (Nat → V) → Mem → Prop
  | 0, c, s, m => K s m c
  | k + 1, .seq a b, s, m => wp P Y D a s m (seqQ (fun s' m' => wpK P Y D K Q k b s' m') Q)
  | _ + 1, _, _, _ => False
section
variable {P : Program} {D : Orc} {own : Nat → Bool} {f : FuncId} {F : F} {args : List V}
theorem wpK_sound (hD : OOk P D) (hm : P.follows .mixedOrders = true) {Y : YRel} {n Nn : Nat} {B : Nat} {I0 : Nat → Nat → Prop} {w0 wst : World} {M0 : Mp} (hY : YOk P Y M0 wst) {K : (Nat → V) → Mem → C → Prop} {Q : Exit → (Nat → V) → Mem → Prop}
    (hK : ∀ (code : Code) (c : C) (s : Nat → V) (m : Mem) (a : Act) (w : World), compC P n own false code = some c → AT B I0 w0 M0 wst n s m a w → K s m c → code.wpIn (fen none) Nn P (Up B I0 w0 M0 wst n Q) a w) :
    ∀ (k : Nat) (code : Code) (c : C) (s : Nat → V) (m : Mem) (a : Act) (w : World), compC P n own false code = some c → AT B I0 w0 M0 wst n s m a w → wpK P Y D K Q k c s m → code.wpIn (fen none) Nn P (Up B I0 w0 M0 wst n Q) a w
  | 0, code, c, s, m, a, w, hc, hat, h => hK code c s m a w hc hat h
  | k + 1, code, c, s, m, a, w, hc, hat, h => by
    cases c with
    | seq c1 c2 =>
      have hcode : ∃ x y, code = .seq x y ∧ compC P n own false x = some c1 ∧ compC P n own false y = some c2 := by
        cases code with
        | seq x y =>
          simp only [compC] at hc
          split at hc
          · rename_i a1 a2 h1 h2
            cases hc
            exact ⟨x, y, rfl, h1, h2⟩
          · cases hc
        | region id ops draw =>
          simp only [compC] at hc
          repeat' split at hc
          all_goals first | cases hc | (simp only [Option.map_eq_some_iff] at hc; obtain ⟨_, _, hc⟩ := hc; cases hc)
        | scope x =>
          simp only [compC] at hc
          repeat' split at hc
          all_goals first | cases hc | (simp only [Option.map_eq_some_iff] at hc; obtain ⟨_, _, hc⟩ := hc; cases hc)
        | cond x y z =>
          simp only [compC] at hc
          repeat' split at hc
          all_goals cases hc
        | rangeFunc x y z u =>
          simp only [compC] at hc
          repeat' split at hc
          all_goals cases hc
        | block id x => simp only [compC, Option.map_eq_some_iff] at hc; obtain ⟨_, _, hc⟩ := hc; cases hc
        | loop x => simp only [compC, Option.map_eq_some_iff] at hc; obtain ⟨_, _, hc⟩ := hc; cases hc
        | _ => simp [compC] at hc
      obtain ⟨x, y, rfl, h1, h2⟩ := hcode
      refine wpIn_seq (wpIn_mono (comp_sound hm hY (.inl ⟨rfl, rfl⟩) x c1 h1 s m a w _ hat (wp_sound hD _ h)) fun e a' w' ⟨s', m', hat', hq⟩ => ?_)
      cases e with
      | normal => exact wpK_sound hD hm hY hK k y c2 s' m' a' w' h2 hat' hq
      | _ => exact ⟨s', m', hat', hq⟩
    | _ => exact h.elim
/-- Behind the run slices in boxes are as they are; at some place within it a row is one. -/
theorem Pure.ofM {D : Orc} (hD : OOk P D) (hm : P.follows .mixedOrders = true) (hF : compF P own f = some F) (hn : args.length ≤ F.n) {r : V} (k d : Nat)
    (h : wpK P noY D (fun s m c => ∃ t e sz xs, MeltOk s m d t e sz xs ∧ wp P noY D c (meltS d sz xs m s) (meltM m t e sz xs) (Fin F.rs fun v m => keepN [] (unref 0 m v) r)) (Fin F.rs fun v m => keepN [] (unref 0 m v) r) k F.c (argS args) ⟨[], []⟩) (hcl : r.isClean = true) (hres : r.res = true) : Pure P f args r [] := by
  unfold compF at hF
  split at hF
  case isFalse => cases hF
  rename_i hca
  refine ⟨hca, hres, fun I w vals hI hr => ?_⟩
  split at hF
  case h_2 => cases hF
  rename_i fn hfn
  split at hF
  case h_2 => cases hF
  rename_i code hcode
  split at hF
  case h_2 => cases hF
  rename_i c rs hc hrs
  cases hF
  refine callsIn_wide (n := 0).1 (callsIn_of_wp_marks hfn hcode trivial ?_)
  have hg := Good.start hI
  have hat : AT w.heap.size I w ⟨[], [], I, fun _ => none⟩ w fn.ntmps (argS args) ⟨[], []⟩ { tmps := vals ++ Array.replicate (fn.ntmps - vals.size) undef, defers := [] } w := ⟨_, Ext.refl _ _, hg, slots_args hr hn, [], rfl, by simp, by simp⟩
  refine wpIn_mono (F := fen none) (wpK_sound hD hm YOk.no (fun code' c' s m a w' hc' hat' ⟨t, e, sz, xs, hk, hw⟩ => comp_sound hm YOk.no (.inl ⟨rfl, rfl⟩) code' c' hc' _ _ a w' _ (hat'.melt hI rfl rfl (fun b o h => h) hk) (wp_sound hD _ hw)) k code c _ _ _ _ hc hat h) fun e a' w' ⟨s', m', hat', hq⟩ => ?_
  have key : ∀ v, resE rs s' m' = some v → keepN [] (unref 0 m' v) r → LeavesInM (fen none) 0 P fn a'.tmps (fun e w' => ∃ x M', e = .returned x ∧ Good w.heap.size I w M' ⟨[], []⟩ w' ∧ Rep M' w' r x) a'.defers .returning w' := by
    intro v hv hR
    obtain ⟨M', hE, hg', hs', ds, hd1, hd2, hd3⟩ := hat'
    rw [hd1]
    refine leaves ds M' w' hE hg' hs' hd2 hd3 fun M2 w2 hE2 hg2 hs2 => ?_
    obtain ⟨x, hx, hrx⟩ := res_sound hs2 hg2 hrs hv
    have hx2 := keepN_rep hR (hg2.unref (k := 0) hrx)
    exact ⟨x, hx, x, _, rfl, hg2.lent, Rep.clean (M := (M2.lend 0 m').sel []) (M' := ⟨[], [], M2.allI 0 m', fun _ => none⟩) (fun _ _ h => h) _ _ hcl hx2⟩
  cases e with
  | normal => obtain ⟨v, hv, hR⟩ := hq; exact key v hv hR
  | ret => obtain ⟨v, hv, hR⟩ := hq; exact key v hv hR
  | _ => exact hq.elim
end
end Go.Av

namespace Go.Av.Pl
/-- The records of a zone; of zones, from a number on. -/
def scanF (z : Zo) (i : Nat) : List Fnd := (scanL (z.data.length + 1) z.data 0).map fun p => ⟨p.1, (i : Int), p.2⟩
def allF : List Zo → Nat → List Fnd
  | [], _ => []
  | z :: r, i => scanF z i ++ allF r (i + 1)
end Go.Av.Pl
namespace Go.Av
open Enc (enc dec)
open Cel (cs dc)
open Go.Proofs Pl

theorem famL {P : Program} {n : FuncId} {ι : Type} (A : ι → List V) (Mi : ι → Mem) (v : ι → V) (M' : ι → Mem) (h : ∀ i, Loc P n (A i) (Mi i) (v i) (M' i)) (hinj : ∀ i j, A i = A j → Mi i = Mi j → v i = v j ∧ M' i = M' j) : ∃ sp, EOkL P n sp ∧ ∀ i, sp (A i) (Mi i) = some (v i, M' i) := by
  classical
  refine ⟨fun args m => if h : ∃ i, A i = args ∧ Mi i = m then some (v h.choose, M' h.choose) else none, fun args m v1 m1 h1 => ?_, fun i => ?_⟩
  · simp only at h1
    split at h1
    · rename_i hex
      cases h1
      have h2 := h hex.choose
      rw [hex.choose_spec.1, hex.choose_spec.2] at h2
      exact h2
    · cases h1
  · have hex : ∃ j, A j = A i ∧ Mi j = Mi i := ⟨i, rfl, rfl⟩
    simp only
    rw [dif_pos hex]
    obtain ⟨e1, e2⟩ := hinj _ _ hex.choose_spec.1 hex.choose_spec.2
    rw [e1, e2]
theorem fC_inj {a b : List Fnd} (h : fC a = fC b) : a = b := by
  have hl : a.length = b.length := by
    have := congrArg List.length h
    rw [fC_length, fC_length] at this
    omega
  have h1 := chunk_fC a
  rw [h, hl, chunk_fC b] at h1
  have h2 : (decX (b.map cs) : Option (List Fnd)) = decX (a.map cs) := by rw [h1]
  rw [decX_map, decX_map] at h2
  exact (Option.some.inj h2).symm
theorem sp_sort_ex : ∃ sp, EOkL Try.prog n_slices_SortStableFunc_Found sp ∧ ∀ (b : Nat) (l : List Fnd) (m : Mem), m.boxes[b]? = some (fC l) → 1 ≤ l.length → l.length ≤ 20 → sp [.ref (.sli 0 5 l.length) b, .func n_log_All_1 []] m = some (.tuple [], srtM m b (sortF l)) := by
  obtain ⟨sp, h1, h2⟩ := famL (P := Try.prog) (n := n_slices_SortStableFunc_Found) (ι := {x : Nat × List Fnd × Mem // x.2.2.boxes[x.1]? = some (fC x.2.1) ∧ 1 ≤ x.2.1.length ∧ x.2.1.length ≤ 20})
    (fun x => [.ref (.sli 0 5 x.1.2.1.length) x.1.1, .func n_log_All_1 []]) (fun x => x.1.2.2) (fun _ => .tuple []) (fun x => srtM x.1.2.2 x.1.1 (sortF x.1.2.1)) (fun x => c_sortF _ _ _ x.2.1 x.2.2.2 x.2.2.1) (fun x y e1 e2 => by
      obtain ⟨⟨b, l, m⟩, h1, h2, h3⟩ := x
      obtain ⟨⟨b', l', m'⟩, h1', h2', h3'⟩ := y
      simp only at e1 e2 h1 h1' ⊢
      subst e2
      simp only [List.cons.injEq, V.ref.injEq, and_true] at e1
      obtain ⟨_, rfl⟩ := e1
      rw [h1] at h1'
      have := fC_inj (Option.some.inj h1')
      subst this
      exact ⟨trivial, rfl⟩)
  exact ⟨sp, h1, fun b l m e1 e2 e3 => h2 ⟨(b, l, m), e1, e2, e3⟩⟩
/-- The sort of none. -/
theorem c_ins0 (m : Mem) (x f : V) : Loc Try.prog n_slices_insertionSortCmpFunc_Found [x, .val (.int .i64 0), .val (.int .i64 0), f] m (.tuple []) m := c_insertion0 m x 0 (by decide) f
theorem c_stable0 (m : Mem) (x f : V) : Loc Try.prog n_slices_stableCmpFunc_Found [x, .val (.int .i64 0), f] m (.tuple []) m := by
  obtain ⟨sp, hsp, e⟩ := oneL' (c_ins0 m x f)
  refine Loc.ofX (OOk.nil.addL hsp) hm F_slices_stableCmpFunc_Found_ok (by simp [F_slices_stableCmpFunc_Found]) ?_
  simp [F_slices_stableCmpFunc_Found]
  refine wp_loop (fun _ s m' => s 0 = x ∧ s 1 = .val (.int .i64 0) ∧ s 2 = f ∧ s 6 = .val (.int .i64 20) ∧ s 7 = .val (.int .i64 0) ∧ s 8 = .val (.int .i64 20) ∧ m' = m) 0
      (IW.of ⟨by simp, by simp, by simp, by simp, by simp, by simp, rfl⟩) fun k s m' ⟨s0, s1, s2, s6, s7, s8, hm'⟩ => ?_
  subst hm'
  simp [F_slices_stableCmpFunc_Found_L2, s0, s1, s2, s6, s7, s8, e]
  refine wp_loop (fun _ s m'' => s 1 = .val (.int .i64 0) ∧ s 6 = .val (.int .i64 20) ∧ m'' = m') 0 (IW.of ⟨by simpa using s1, by simpa using s6, rfl⟩) fun k s m'' ⟨s1, s6, hm''⟩ => ?_
  subst hm''
  simp [F_slices_stableCmpFunc_Found_L1, s1, s6]
theorem c_sort0 (m : Mem) (f : V) (t : Nat) : Loc Try.prog n_sort0 [.row t 5 [], f] m (.tuple []) m := by
  obtain ⟨sp, hsp, e⟩ := oneL' (c_stable0 m (.row t 5 []) f)
  refine Loc.ofX (OOk.nil.addL hsp) hm F_sort0_ok (by simp [F_sort0]) ?_
  simp [F_sort0, e]
def sp_sort0 : List V → Mem → Option (V × Mem)
  | [.row _ 5 [], _], m => some (.tuple [], m)
  | _, _ => none
theorem sp_sort0_ok : EOkL Try.prog n_sort0 sp_sort0 := by
  intro args m v m' h
  unfold sp_sort0 at h
  split at h
  · cases h
    exact c_sort0 m _ _
  · cases h
end Go.Av

namespace Go.Av
open Enc (enc dec)
open Cel (cs dc)
open Go.Proofs Pl

theorem allF_len (zs : List Zo) (i : Nat) (hi : i < zs.length) (n : Nat) : allF (zs.drop i) n = scanF zs[i] n ++ allF (zs.drop (i + 1)) (n + 1) := by
  rw [List.drop_eq_getElem_cons hi, allF]
@[simp] def sp_rScan (b : List UInt8) : Option (V × List Tip) := if b.length ≤ 2 ^ 38 then some (.tuple [enc (scanR b), enc (scanP b)], []) else none
theorem sp_rScan_ok : EOk Try.prog n_record_Scan (sp1 sp_rScan) := sp1_ok fun b r h => by
  simp only [sp_rScan] at h
  split at h <;> cases h
  exact c_rScan b (by assumption)
def AllO (sp : List V → Mem → Option (V × Mem)) : Orc := ((Orc.nil.add n_dev_Check (sp1 sp_dCheck)).add n_record_Scan (sp1 sp_rScan)).addL n_slices_SortStableFunc_Found sp
theorem AllO_ok {sp : List V → Mem → Option (V × Mem)} (h : EOkL Try.prog n_slices_SortStableFunc_Found sp) : OOk Try.prog (AllO sp) := ((OOk.nil.add sp_dCheck_ok).add sp_rScan_ok).addL h
def AllI (zs : List Zo) (k : Nat) (s : Nat → V) (m : Mem) : Prop :=
  ∃ (i : Nat) (acc : List Fnd) (bx : List (List V)), i + k = zs.length ∧ allF zs 0 = acc ++ allF (zs.drop i) i ∧ (∀ c ∈ bx, isObj c = false) ∧ s 14 = .lit 4 (zs.map cs) ∧ s 15 = .val (.int .i64 zs.length) ∧ s 16 = .val (.int .i64 i) ∧ s 2 = .row 0 5 (acc.map cs) ∧ m = ⟨bx, [(57, 5, acc.length)]⟩
def AllJ (zs : List Zo) (i : Nat) (z : Zo) (acc : List Fnd) (k : Nat) (s : Nat → V) (m : Mem) : Prop :=
  ∃ (j : Nat) (bx : List (List V)), j + k = (scanF z i).length ∧ (∀ c ∈ bx, isObj c = false) ∧ s 14 = .lit 4 (zs.map cs) ∧ s 15 = .val (.int .i64 zs.length) ∧ s 16 = .val (.int .i64 i) ∧ s 4 = .val (.int .i64 i) ∧ s 27 = .lit 3 ((scanR z.data).map cs) ∧ s 7 = .lit 1 ((scanP z.data).map cs) ∧ s 28 = .val (.int .i64 (scanF z i).length) ∧ s 29 = .val (.int .i64 j) ∧
    s 2 = .row 0 5 ((acc ++ (scanF z i).take j).map cs) ∧ m = ⟨bx, [(57, 5, acc.length + j)]⟩
theorem scanF_get {z : Zo} {i j : Nat} {f : Fnd} (h : (scanF z i)[j]? = some f) : (scanR z.data)[j]? = some f.rcd ∧ (scanP z.data)[j]? = some f.at_ ∧ f.zone = i := by
  unfold scanF at h
  rw [List.getElem?_map, Option.map_eq_some_iff] at h
  obtain ⟨p, hp, rfl⟩ := h
  simp [scanR, scanP, hp]
theorem melt_fnd : ∀ l : List Fnd, (l.map cs).flatten.all meltV = true
  | [] => rfl
  | f :: l => by
    have h1 : ∀ b : List UInt8, (b.map cs).all byteE = true := fun b => by
      rw [List.all_map, List.all_eq_true]
      intro x _
      rfl
    rw [List.map_cons, List.flatten_cons, List.all_append, melt_fnd l, Bool.and_true]
    simp [meltV, h1]
theorem c_lAll (d : Dv) (hok : dOk d = true) (hn : (allF d.zones 0).length ≤ 20) : Pure Try.prog n_log_All [enc d] (.tuple [enc (sortF (allF d.zones 0)), enc (0 : Int)]) [] := by
  obtain ⟨sp, hsp, e⟩ := sp_sort_ex
  obtain ⟨hs, hne⟩ := dOk_sm hok
  have hsn := hs.n
  have hzl := (dOk_iff.1 hok).2.2.1
  by_cases h0 : allF d.zones 0 = []
  · refine Pure.ofC (AllO_ok sp_sort0_ok) hm F_log_All_ok (by simp [F_log_All]) (by simp [V.res, V.res1]) ?_
    simp only [Nat.reducePow] at hsn
    simp [F_log_All, AllO, decX_map, hsn, hok, h0, sortF]
    refine wp_loop (AllI d.zones) d.zones.length (IW.of ⟨0, [], _, by omega, by simp, ?_, by simp, by simp, by simp, by simp, rfl⟩) fun k s m ⟨i, acc, bx, hik, hall, hbx, s14, s15, s16, s2, hm⟩ => ?_
    · simp
    subst hm
    rw [h0] at hall
    obtain ⟨rfl, hal2⟩ := List.append_eq_nil_iff.1 hall.symm
    clear hall
    by_cases hi : i < d.zones.length
    · have hg : d.zones[i]? = some d.zones[i] := List.getElem?_eq_getElem hi
      have w1 := IntWalk.i64_in ((i : Int) + 1) (by omega)
      have hzd := hs.z _ (List.getElem_mem hi)
      have hzd2 : d.zones[i].data.length ≤ 274877906944 := by omega
      rw [allF_len _ _ hi] at hal2
      obtain ⟨e1, e2⟩ := List.append_eq_nil_iff.1 hal2
      have hR : scanR d.zones[i].data = [] := by
        have : (scanR d.zones[i].data).length = (scanF d.zones[i] i).length := by simp [scanR, scanF]
        rw [e1] at this
        exact List.eq_nil_of_length_eq_zero this
      simp [F_log_All_L1, AllO, s14, s15, s16, s2, hi, hg, hzd2, decX_cs, hR]
      refine wp_loop (AllJ d.zones i d.zones[i] []) 0 (IW.of ⟨0, _, by simp [e1], ?_, by simpa using s14, by simpa using s15, by simpa using s16, by simp, by simp [hR], by simp, by simp [e1], by simp, by simpa using s2, by simp; rfl⟩) fun k' s m ⟨j, bx, hjk, hbx, s14, s15, s16, s4, s27, s7, s28, s29, s2, hm⟩ => ?_
      · intro c hc
        rcases List.mem_append.1 hc with hc | hc
        · exact hbx c hc
        · simp only [List.mem_singleton] at hc
          subst hc
          rfl
      subst hm
      rw [e1] at hjk s28 s2
      have ej : j = 0 := by simp at hjk; omega
      subst ej
      simp [F_log_All_L0, s14, s15, s16, s28, s29, s2, w1]
      exact ⟨k - 1, by omega, IW.of (show AllI d.zones _ _ _ from ⟨i + 1, [], bx, by omega, by rw [h0, e2]; rfl, hbx, by simpa using s14, by simpa using s15, by simp, by simpa using s2, by simp⟩)⟩
    · simp [F_log_All_L1, s14, s15, s16, s2, hi, sp_sort0]
  · refine Pure.ofM (AllO_ok hsp) hm F_log_All_ok (by simp [F_log_All]) (0 + 1 + 1 + 1) 2 ?_ (by simp [clean_cs]) (by simp [V.res, V.res1])
    simp only [Nat.reducePow] at hsn
    simp [F_log_All, wpK, AllO, decX_map, hsn, hok]
    refine wp_loop (AllI d.zones) d.zones.length (IW.of ⟨0, [], _, by omega, by simp, ?_, by simp, by simp, by simp, by simp, rfl⟩) fun k s m ⟨i, acc, bx, hik, hall, hbx, s14, s15, s16, s2, hm⟩ => ?_
    · simp
    subst hm
    by_cases hi : i < d.zones.length
    · have hg : d.zones[i]? = some d.zones[i] := List.getElem?_eq_getElem hi
      have w1 := IntWalk.i64_in ((i : Int) + 1) (by omega)
      have hzd := hs.z _ (List.getElem_mem hi)
      have hzd2 : d.zones[i].data.length ≤ 274877906944 := by omega
      rw [allF_len _ _ hi] at hall
      have hlen : acc.length + (scanF d.zones[i] i).length ≤ 20 := by
        rw [hall] at hn
        simp only [List.length_append] at hn
        omega
      have hR : (scanR d.zones[i].data).length = (scanF d.zones[i] i).length := by simp [scanR, scanF]
      simp [F_log_All_L1, AllO, s14, s15, s16, s2, hi, hg, hzd2, decX_cs, hR]
      refine wp_loop (AllJ d.zones i d.zones[i] acc) (scanF d.zones[i] i).length (IW.of ⟨0, _, by omega, ?_, by simpa using s14, by simpa using s15, by simpa using s16, by simp, by simp, by simp, by simp, by simp, by simpa using s2, by simp; rfl⟩) fun k' s m ⟨j, bx, hjk, hbx, s14, s15, s16, s4, s27, s7, s28, s29, s2, hm⟩ => ?_
      · intro c hc
        rcases List.mem_append.1 hc with hc | hc
        · exact hbx c hc
        · simp only [List.mem_singleton] at hc
          subst hc
          rfl
      subst hm
      by_cases hj : j < (scanF d.zones[i] i).length
      · have hf : (scanF d.zones[i] i)[j]? = some (scanF d.zones[i] i)[j] := List.getElem?_eq_getElem hj
        obtain ⟨q1, q2, q3⟩ := scanF_get hf
        have hsn2 : (scanF d.zones[i] i).take (j + 1) = (scanF d.zones[i] i).take j ++ [(scanF d.zones[i] i)[j]] := by rw [List.take_add_one, hf]; rfl
        generalize hF : (scanF d.zones[i] i)[j] = f at q1 q2 q3 hsn2
        have w2 := IntWalk.i64_in ((j : Int) + 1) (by omega)
        have hjl : j ≤ (scanF d.zones[i] i).length := by omega
        simp [F_log_All_L0, AllO, s14, s15, s16, s4, s27, s7, s28, s29, s2, hj, q1, q2, w2, hjl]
        refine ⟨by omega, k' - 1, by omega, IW.of (show AllJ d.zones i d.zones[i] acc _ _ _ from ⟨j + 1, _, by omega, fun c hc => ?_, by simpa using s14, by simpa using s15, by simpa using s16, by simpa using s4, by simpa using s27, by simpa using s7, by simpa using s28, by simp, ?_, rfl⟩)⟩
        · rcases List.mem_append.1 hc with hc | hc
          · exact hbx c hc
          · simp only [List.mem_singleton] at hc
            subst hc
            rfl
        · rw [hsn2]
          simp [q3]
      · have e2 : (scanF d.zones[i] i).take j = scanF d.zones[i] i := List.take_of_length_le (by omega)
        have e3 : j = (scanF d.zones[i] i).length := by omega
        rw [e2] at s2
        simp [F_log_All_L0, s14, s15, s16, s28, s29, s2, hj, w1]
        exact ⟨k - 1, by omega, IW.of (show AllI d.zones _ _ _ from ⟨i + 1, acc ++ scanF d.zones[i] i, bx, by omega, by rw [hall, List.append_assoc], hbx, by simpa using s14, by simpa using s15, by simp, by simpa using s2, by rw [e3]; simp⟩)⟩
    · rw [List.drop_eq_nil_of_le (by omega)] at hall
      simp only [allF, List.append_nil] at hall
      simp [F_log_All_L1, s14, s15, s16, s2, hi]
      have hacc : acc ≠ [] := by rw [← hall]; exact h0
      have hal : 1 ≤ acc.length := List.length_pos_iff.2 hacc
      rw [hall] at hn
      have eM := e bx.length acc (meltM ⟨bx, [(57, 5, acc.length)]⟩ 0 57 5 (acc.map cs)) (by simp [meltM, fC]) hal hn
      have eS : ∀ s : Nat → V, meltS 2 5 (acc.map cs) ⟨bx, [(57, 5, acc.length)]⟩ s 2 = .ref (.sli 0 5 acc.length) bx.length := fun s => by simp [meltS]
      have hun : ∀ t, unref1 0 ⟨(List.replicate bx.length deadC ++ [(acc.map cs).flatten]).set bx.length (fC (sortF acc)), t⟩ (.ref (.sli 0 5 acc.length) bx.length) = .lit 5 ((sortF acc).map cs) := fun t => by
        have h1 : ((List.replicate bx.length deadC ++ [(acc.map cs).flatten]).set bx.length (fC (sortF acc)))[bx.length]? = some (fC (sortF acc)) := List.getElem?_set_self (by simp)
        simp only [unref1, h1]
        have h2 := sortF_length acc
        rw [if_pos ⟨Nat.zero_le _, fC_obj _, by rw [fC_length, h2]; omega⟩, List.drop_zero]
        have h3 : ∀ l : List Fnd, (fC l).map V.top1 = fC l := by
          intro l
          induction l with
          | nil => rfl
          | cons z l ih =>
            rw [fC_cons, List.map_append, ih]
            rfl
        rw [h3, ← h2, chunk_fC]
      have hv : ∀ (k : Nat) (m : Mem) (x : Value), unref1 k m (.val x) = .val x := fun _ _ _ => rfl
      refine ⟨0, 57, 5, acc.map cs, ⟨by simpa using s2, by simp, by simpa using hacc, melt_fnd acc, hbx⟩, ?_⟩
      have hE := hall
      simp [meltM, srtM] at eM hun
      simp [eS, eM, srtM, meltM, unref, unrefA, hun, hv, hE, clean_cs]
end Go.Av

namespace Go.Av.Pl
open Go.Av
def runF (l : List Fnd) : Nat → Int → List Rec
  | 0, _ => []
  | k + 1, q => match lookF l q with
    | some r => r :: runF l k (q + 1)
    | none => []
end Go.Av.Pl
namespace Go.Av
open Enc (enc dec)
open Cel (cs dc)
open Go.Proofs Pl

theorem look_mem {l : List Fnd} {q : Int} {r : Rec} (h : lookF l q = some r) : ∃ f ∈ l, f.rcd.seq = q := by
  rw [lookF, Option.map_eq_some_iff] at h
  obtain ⟨f, hf, _⟩ := h
  exact ⟨f, List.mem_of_find?_eq_some hf, by simpa using List.find?_some hf⟩
theorem run_len (frm : Int) : ∀ (n : Nat) (l : List Fnd), (∀ i : Nat, i < n → (lookF l (frm + i)).isSome = true) → n ≤ l.length
  | 0, _, _ => Nat.zero_le _
  | n + 1, l, h => by
    have h0 := h n (by omega)
    rw [lookF, Option.isSome_map, List.find?_isSome] at h0
    obtain ⟨f, hf, hq⟩ := h0
    have hq : f.rcd.seq = frm + n := by simpa using hq
    have := run_len frm n (l.erase f) fun i hi => by
      have h1 := h i (by omega)
      rw [lookF, Option.isSome_map, List.find?_isSome] at h1 ⊢
      obtain ⟨g, hg, hg2⟩ := h1
      have hg3 : g.rcd.seq = frm + i := by simpa using hg2
      exact ⟨g, (List.mem_erase_of_ne (fun e => by rw [e] at hg3; omega)).2 hg, hg2⟩
    rw [List.length_erase_of_mem hf] at this
    have h2 := List.length_pos_of_mem hf
    omega
def RunM1 (l : List Fnd) (acc : List (Nat × Fnd)) : Mem := ⟨[mpV (kvF [] acc), [.ref .map 0], [.lit 5 (l.map cs)], [St.ready.v], [St.ready.v]], [(36, 3, 0)]⟩
def Dzb : Orc := Orc.nil.addL n_slices_Backward_Found sp_bw
theorem Dzb_ok : OOk Try.prog Dzb := OOk.nil.addL sp_bw_ok
def RunI (l : List Fnd) (frm : Int) (R : List Rec) (k : Nat) (s : Nat → V) (m : Mem) : Prop :=
  ∃ (acc : List Rec) (q : Int) (r0 : Rec) (p : Nat) (bx : List (List V)), R = acc ++ runF l k q ∧ q = frm + acc.length ∧ (∀ i : Nat, i < acc.length → (lookF l (frm + i)).isSome = true) ∧ k + acc.length = l.length + 1 ∧ s 1 = .val (.int .i64 q) ∧ s 4 = .row 0 3 (acc.map cs) ∧ s 5 = .ptr 1 0 ∧ s 8 = .ptr (p + 5) 0 ∧ s 9 = .val (.bool (lookF l q).isSome) ∧
    bx[p]? = some (cs ((lookF l q).getD Rec.zero)) ∧ m = ⟨mpV (kvF [] (bwTo l l.length)) :: [.ref .map 0] :: [.lit 5 (l.map cs)] :: [St.ready.v] :: [St.ready.v] :: bx, [(36, 3, acc.length)]⟩
theorem c_lRun (l : List Fnd) (frm : Int) (hl : l.length ≤ 2 ^ 30) (hf : -(2 ^ 63) ≤ frm ∧ (frm ≤ 2 ^ 62 ∨ ∀ f ∈ l, f.rcd.seq ≤ 2 ^ 62)) : Pure Try.prog n_log_Run [enc l, enc frm] (enc (runF l (l.length + 1) frm)) [] := by
  refine Pure.ofC Dzb_ok hm F_log_Run_ok (by simp [F_log_Run]) (by simp [V.res, V.res1]) ?_
  have hl2 : l.length ≤ 2 ^ 40 := by omega
  simp [F_log_Run, Dzb, sp_bw, decX_map]
  refine ⟨_, _, .tuple [], RunM1 l (bwTo l l.length), .ready, by simp, c_backward1 _ _ 2 l hl2 _ _ rfl ?run1, by simp [RunM1, loopAt], by simp, ?fin1⟩
  case run1 =>
    refine YRun.list bwArg (RunM1 l) (bwTo l l.length) ?_ ?_
    rotate_left
    · intro acc x r h
      rfl
    intro acc x r h
    refine Or.inr ⟨rfl, ?_⟩
    simp [roundW, putAll, St.of, St.cont, RunM1, loopAt, bwArg]
    refine .inr ⟨?_, ?_⟩
    · have h1 := (kvF_clean acc (kvs := []) (fun p hp => by cases hp)).put x.2.rcd.seq (Enc.cl x.2.rcd)
      rw [enc_rec] at h1
      have h2 := h1.under 5 1
      have h3 := under_map 5 1 l
      simp [underX, underL, V.under, St.v, h2, h3]
    · simp [kvF, List.foldl_append]
  case fin1 =>
    rw [show St.ready.out = Exit.normal from rfl]
    have hlook := kvF_look l
    have loop : ∀ R Q s m, RunI l frm R (l.length + 1) s m → (∀ s' m', s' 4 = .row 0 3 (R.map cs) → Q (.exit 2) s' m') → wp Try.prog noY Dzb F_log_Run_L0.loop s m Q := by
      intro R Q s m h hQ
      refine wp_loop (RunI l frm R) (l.length + 1) (IW.of h) fun k s m ⟨acc, q, r0, p, bx, hR, hq, hal, hk, s1, s4, s5, s8, s9, hp, hm⟩ => ?_
      subst hm
      cases hlk : lookF l q with
      | none =>
        rw [hlk] at s9
        have e1 : runF l k q = [] := by
          cases k with
          | zero => rfl
          | succ k => simp [runF, hlk]
        rw [e1, List.append_nil] at hR
        subst hR
        simp [F_log_Run_L0, s9]
        exact hQ _ _ s4
      | some r =>
        rw [hlk] at s9 hp
        simp only [Option.getD_some, Option.isSome_some] at s9 hp
        simp at hp
        have hal2 : ∀ i : Nat, i < acc.length + 1 → (lookF l (frm + i)).isSome = true := fun i hi => by
          by_cases e : i = acc.length
          · subst e; rw [← hq, hlk]; rfl
          · exact hal i (by omega)
        have hlen := run_len frm _ l hal2
        obtain ⟨k, rfl⟩ : ∃ j, k = j + 1 := ⟨k - 1, by omega⟩
        have hq62 : q ≤ 2 ^ 62 + 2 ^ 30 := by
          rcases hf.2 with h | h
          · omega
          · obtain ⟨f, hf1, hf2⟩ := look_mem hlk
            have := h f hf1
            omega
        have w1 := IntWalk.i64_in (q + 1) (by omega)
        have hR2 : R = (acc ++ [r]) ++ runF l k (q + 1) := by rw [hR, runF, hlk, List.append_assoc]; rfl
        cases hlk2 : lookF l (q + 1) with
        | none =>
          simp [F_log_Run_L0, s1, s4, s5, s8, s9, hp, w1, hlook, decX_map, hlk2]
          refine ⟨by omega, k, by omega, IW.of ⟨acc ++ [r], q + 1, r, bx.length, bx ++ [cs Rec.zero], hR2, by simp; omega, by simpa using hal2, by simp; omega, by simp, by simp, by simp [s5], by simp, by simp [hlk2], by simp [hlk2, Rec.zero], by simp [Rec.zero]⟩⟩
        | some r2 =>
          simp [F_log_Run_L0, s1, s4, s5, s8, s9, hp, w1, hlook, decX_map, hlk2]
          refine ⟨by omega, k, by omega, IW.of ⟨acc ++ [r], q + 1, r, bx.length, bx ++ [cs r2], hR2, by simp; omega, by simpa using hal2, by simp; omega, by simp, by simp, by simp [s5], by simp, by simp [hlk2], by simp [hlk2, Rec.zero], by simp [Rec.zero]⟩⟩
    simp [RunM1]
    cases hlk : lookF l frm with
    | none =>
      simp [hlook, hlk]
      refine loop (runF l (l.length + 1) frm) _ _ _ ⟨[], frm, Rec.zero, 0, [cs Rec.zero], rfl, by simp, by simp, by simp, by simp, by simp, by simp, by simp [RunM1], by simp [hlk], by simp [hlk], by simp [RunM1, Rec.zero]⟩ fun s' m' h4 => ?_
      simp [h4]
    | some r =>
      simp [hlook, hlk]
      refine loop (runF l (l.length + 1) frm) _ _ _ ⟨[], frm, r, 0, [cs r], rfl, by simp, by simp, by simp, by simp, by simp, by simp, by simp [RunM1], by simp [hlk], by simp [hlk], by simp [RunM1]⟩ fun s' m' h4 => ?_
      simp [h4]
end Go.Av

namespace Go.Av.Pl
theorem zIdx_none {pr : Zo → Bool} {l : List Zo} (h : zIdx pr l < 0) : ∀ z ∈ l, pr z = false := by
  unfold zIdx at h
  split at h
  · omega
  · rename_i e
    intro z hz
    simpa using List.findIdx?_eq_none_iff.1 e z hz
theorem DG.mono {d : Dv} {k k' : Nat} (h : DG d k) (hk : k ≤ k') : DG d k' := ⟨h.ok, h.dn, h.lf, ⟨h.dd.1, by have := h.dd.2; omega⟩, h.op⟩
theorem recB_ne {r : Rec} (h : recOk r = true) : recB r ≠ [] := by
  intro e
  have := recB_length h
  rw [e] at this
  simp at this
theorem one_bad {d : Dv} (hl : d.zones.length ≤ 2 ^ 40) {r : Rec} (hr : recOk r = false) : one1 d r = some (d, ⟨0, 0⟩, 50) := by
  unfold one1
  rw [if_pos hl, if_pos hr]
/-- Behind a record. -/
structure OneS (d : Dv) (k : Nat) (b : List UInt8) (d' : Dv) (i : Nat) (hi : i < d.zones.length) : Prop where
  room : (b.length : Int) ≤ zRoom d.zones[i] d.size
  good : DG d' (k + 2)
  size : d'.size = d.size
  zones : (d.zones[i].st = 1 ∧ d'.zones = d.zones.set i (zAdd d.zones[i] d.size b)) ∨
    (d.zones[i].st = 0 ∧ (∀ z ∈ d.zones, z.st = 1 → zRoom z d.size < b.length) ∧ (d'.zones = d.zones.set i (zAdd d.zones[i] d.size b) ∨
      ∃ (j : Nat) (hj : j < d.zones.length), j ≠ i ∧ d.zones[j].st = 1 ∧ stN 1 d.zones = 3 ∧ d'.zones = (d.zones.set j (zEnd d.zones[j])).set i (zAdd d.zones[i] d.size b)))
theorem one_good {d : Dv} {k : Nat} (hg : DG d k) (hk : k + 2 ≤ 2 ^ 62) {r : Rec} (hr : recOk r = true) :
    (placeE d (recB r).length ≠ 0 ∧ one1 d r = some (d, ⟨0, 0⟩, placeE d (recB r).length)) ∨
    ∃ (i : Nat) (hi : i < d.zones.length) (d' : Dv), one1 d r = some (d', ⟨FloatKind.f64.nearest (i : Int), FloatKind.f64.nearest (d.zones[i].data.length : Int)⟩, 0) ∧ OneS d k (recB r) d' i hi := by
  have hd := dOk_iff.1 hg.ok
  have hl : d.zones.length ≤ 2 ^ 40 := by omega
  have hr' : ¬ recOk r = false := by simp [hr]
  by_cases hp : placeE d (recB r).length = 0
  · refine .inr ?_
    have hb := recB_ne hr
    have hbl := recB_length hr
    have hbody := (recOk_iff.1 hr).2.2.2.2
    have hb0 : 0 < (recB r).length := by omega
    have hn1 : ¬ (dOk d = false ∨ ((recB r).length : Int) < 1 ∨ d.size < (recB r).length) := by
      intro h
      unfold placeE at hp
      rw [if_pos h] at hp
      cases hp
    have hone : ∀ d', oneD d r = some d' → one1 d r = some (d', oneC d r, 0) := fun d' h => by
      unfold one1
      rw [if_pos hl, if_neg hr', if_neg (by simp [hp]), h]
      rfl
    by_cases h1 : 0 ≤ dFirst d 1 (recB r).length
    · obtain ⟨i, hi, e, hpr⟩ := zIdx_lt h1
      simp only [Bool.and_eq_true, decide_eq_true_eq] at hpr
      have eN : placeN d (recB r).length = i := by unfold placeN; rw [if_neg hn1, if_pos h1]; exact e
      have eL : placeL d (recB r).length = [] := by unfold placeL; rw [if_neg hn1, if_pos h1]
      obtain ⟨k1, k2⟩ := do_app hg (by omega) hi hb (by omega) hpr.2 (.inl hpr.1)
      refine ⟨i, hi, _, (hone _ (by unfold oneD cmdL; rw [eL, eN]; simp only [List.nil_append, List.foldlM_cons, List.foldlM_nil]; rw [k1]; rfl)).trans ?_, ⟨hpr.2, k2.mono (by omega), rfl, .inl ⟨hpr.1, rfl⟩⟩⟩
      unfold oneC
      rw [eN, Int.toNat_natCast, List.getD_eq_getElem?_getD, List.getElem?_eq_getElem hi]
      rfl
    · have h1' : dFirst d 1 (recB r).length < 0 := by omega
      have h2 : 0 ≤ dFirst d 0 (recB r).length := by
        refine Classical.byContradiction fun h2 => ?_
        unfold placeE at hp
        rw [if_neg hn1, if_neg h1, if_pos (by omega)] at hp
        cases hp
      have h2' : ¬ dFirst d 0 (recB r).length < 0 := by omega
      obtain ⟨i, hi, e, hpr⟩ := zIdx_lt h2
      simp only [Bool.and_eq_true, decide_eq_true_eq] at hpr
      have eN : placeN d (recB r).length = i := by unfold placeN; rw [if_neg hn1, if_neg h1, if_neg h2']; exact e
      have hno : ∀ z ∈ d.zones, z.st = 1 → zRoom z d.size < (recB r).length := fun z hz hs => by
        have := zIdx_none h1' z hz
        simp [hs] at this
        omega
      have eC : oneC d r = ⟨FloatKind.f64.nearest (i : Int), FloatKind.f64.nearest (d.zones[i].data.length : Int)⟩ := by
        unfold oneC
        rw [eN, Int.toNat_natCast, List.getD_eq_getElem?_getD, List.getElem?_eq_getElem hi]
        rfl
      by_cases h3 : 3 ≤ stN 1 d.zones
      · have h30 := hg.op
        have hex : 0 ≤ dFirst d 1 0 := by
          refine Classical.byContradiction fun hx => ?_
          have hall := zIdx_none (show dFirst d 1 0 < 0 by omega)
          have : stN 1 d.zones = 0 := by
            unfold stN
            rw [List.countP_eq_zero]
            intro z hz hs
            have hs' : z.st = 1 := by simpa using hs
            have := hall z hz
            simp only [hs', decide_true, Bool.true_and, decide_eq_false_iff_not] at this
            apply this
            unfold zRoom
            split
            · have := zOk_iff.1 (hd.1 z hz)
              omega
            · omega
          omega
        obtain ⟨j, hj, ej, hpj⟩ := zIdx_lt hex
        simp only [Bool.and_eq_true, decide_eq_true_eq] at hpj
        have hji : j ≠ i := by
          rintro rfl
          rw [hpr.1] at hpj
          exact absurd hpj.1 (by decide)
        have eL : placeL d (recB r).length = [⟨3, j, []⟩] := by unfold placeL; rw [if_neg hn1, if_neg h1, if_neg h2', if_pos h3]; rw [show dFirst d 1 0 = (j : Int) from ej]
        obtain ⟨f1, f2, f3⟩ := do_fin hg (by omega) hj hpj.1
        have hi' : i < (dDid d (d.zones.set j (zEnd d.zones[j]))).zones.length := by simpa [dDid] using hi
        have eg : (dDid d (d.zones.set j (zEnd d.zones[j]))).zones[i] = d.zones[i] := by
          exact List.getElem_set_ne hji (show i < (d.zones.set j (zEnd d.zones[j])).length by simpa using hi)
        obtain ⟨k1, k2⟩ := do_app f2 (by omega) hi' hb (by omega) (by rw [eg]; exact hpr.2) (.inr (by show stN 1 (d.zones.set j _) < 3; omega))
        rw [eg] at k1 k2
        refine ⟨i, hi, _, (hone _ (by unfold oneD cmdL; rw [eL, eN]; simp only [List.cons_append, List.nil_append, List.foldlM_cons, List.foldlM_nil]; rw [f1]; simp only [Option.bind_eq_bind, Option.bind_some]; rw [k1]; rfl)).trans (by rw [eC]), ⟨hpr.2, k2.mono (by omega), rfl, .inr ⟨hpr.1, hno, .inr ⟨j, hj, hji, hpj.1, by omega, rfl⟩⟩⟩⟩
      · have eL : placeL d (recB r).length = [] := by unfold placeL; rw [if_neg hn1, if_neg h1, if_neg h2', if_neg h3]
        obtain ⟨k1, k2⟩ := do_app hg (by omega) hi hb (by omega) hpr.2 (.inr (by omega))
        exact ⟨i, hi, _, (hone _ (by unfold oneD cmdL; rw [eL, eN]; simp only [List.nil_append, List.foldlM_cons, List.foldlM_nil]; rw [k1]; rfl)).trans (by rw [eC]), ⟨hpr.2, k2.mono (by omega), rfl, .inr ⟨hpr.1, hno, .inl rfl⟩⟩⟩
  · refine .inl ⟨hp, ?_⟩
    unfold one1
    rw [if_pos hl, if_neg hr', if_pos hp]
end Go.Av.Pl

namespace Go.Av
open Enc (enc dec)
open Cel (cs dc)
open Go.Proofs Pl

theorem decX_rep : ∀ n : Nat, (decX (List.replicate n [V.val (.int .u8 0)]) : Option (List UInt8)) = some (List.replicate n 0)
  | 0 => rfl
  | n + 1 => by
    rw [List.replicate_succ, decX_cons, decX_rep n]
    rfl
@[simp] def sp_lApp (d : Dv) (l : List Rec) : Option (V × List Tip) := if (d.zones.length ≤ 2 ^ 40 ∧ d.zones.all (fun z => decide (z.data.length ≤ 2 ^ 30)) = true ∧ d.zones ≠ []) ∧ l.length ≤ 2 ^ 30 then (appR d l).map fun R => (.tuple [enc R.1, enc R.2.1, enc R.2.2], []) else none
theorem sp_lApp_ok : EOk Try.prog n_log_Append (sp2 sp_lApp) := sp2_ok fun d l r h => by
  simp only [sp_lApp] at h
  split at h
  · rename_i hc
    simp only [Option.map_eq_some_iff] at h
    obtain ⟨R, hR, rfl⟩ := h
    exact c_lAppend d l ⟨hc.1.1, fun z hz => by simpa using List.all_eq_true.1 hc.1.2.1 z hz⟩ hc.1.2.2 hc.2 R hR
  · cases h
@[simp] def sp_dNew (a b : Int) : Option (V × List Tip) := some (.tuple [enc (dNew a b), enc (dNewE a b)], [])
theorem sp_dNew_ok : EOk Try.prog n_dev_New (sp2 sp_dNew) := sp2_ok fun a b r h => by cases h; exact c_dNew a b
@[simp] def sp_lEmpty (d : Dv) : Option (V × List Tip) := if d.zones.length ≤ 2 ^ 40 then some (enc (stN 0 d.zones : Int), []) else none
theorem sp_lEmpty_ok : EOk Try.prog n_log_Empty (sp1 sp_lEmpty) := sp1_ok fun d r h => by
  simp only [sp_lEmpty] at h
  split at h <;> cases h
  exact c_lEmpty d (by assumption)
@[simp] def sp_true : Option (V × List Tip) := some (.val (.bool true), [])
theorem dg_app {d : Dv} {k : Nat} (h : DG d k) : d.zones.length ≤ 2 ^ 40 ∧ d.zones.all (fun z => decide (z.data.length ≤ 2 ^ 30)) = true ∧ d.zones ≠ [] := by
  obtain ⟨h1, h2⟩ := dOk_sm h.ok
  exact ⟨h1.n, List.all_eq_true.2 fun z hz => by simpa using h1.z z hz, h2⟩
end Go.Av

namespace Go.Av.Pl
/-- Two records, and a device that holds them. -/
def awB : List UInt8 := List.replicate 40 0
def awA : Rec := ⟨1, 5, awB⟩
def awC : Rec := ⟨1, 6, awB⟩
def awX1 : Dv := ⟨100, [⟨1, 0, recB awA, 0⟩, ⟨0, 0, [], 0⟩], -1, false, 1⟩
def awX : Dv := ⟨100, [⟨1, 0, recB awA, 0⟩, ⟨1, 0, recB awC, 0⟩], -1, false, 2⟩
theorem awA_ok : recOk awA = true := by decide
theorem awC_ok : recOk awC = true := by decide
theorem awA_len : (recB awA).length = 60 := recB_length awA_ok
theorem awC_len : (recB awC).length = 60 := recB_length awC_ok
theorem aw_new : dNew 2 100 = ⟨100, [⟨0, 0, [], 0⟩, ⟨0, 0, [], 0⟩], -1, false, 0⟩ := by decide
theorem aw_nearest0 : FloatKind.f64.nearest (0 : Int) = 0 := by decide
theorem aw_nearest1 : FloatKind.f64.nearest (1 : Int) = 4607182418800017408 := by decide
theorem awA_ne : ¬ recB awA = [] := recB_ne awA_ok
theorem awC_ne : ¬ recB awC = [] := recB_ne awC_ok
theorem aw1 : one1 (dNew 2 100) awA = some (awX1, ⟨0, 0⟩, 0) := by
  rw [aw_new]
  simp [one1, awA_ok, awX1, placeE, placeN, placeL, dOk, zOk, awA_len, awC_len, dFirst, zIdx, zRoom, zTakes, stN, oneD, oneC, cmdL, dDoR, dDoZ, dCmd, zApp, zFill, dDid, dLeft, aw_nearest0, aw_nearest1, List.findIdx?_cons, List.findIdx?_nil, awA_ne, awC_ne]
theorem aw2 : one1 awX1 awC = some (awX, ⟨4607182418800017408, 0⟩, 0) := by
  simp [one1, awC_ok, awX1, awX, placeE, placeN, placeL, dOk, zOk, awA_len, awC_len, dFirst, zIdx, zRoom, zTakes, stN, oneD, oneC, cmdL, dDoR, dDoZ, dCmd, zApp, zFill, dDid, dLeft, aw_nearest0, aw_nearest1, List.findIdx?_cons, List.findIdx?_nil, awA_ne, awC_ne]
theorem aw3 : one1 awX awA = some (awX, ⟨0, 0⟩, 60) := by
  simp [one1, awA_ok, awX, placeE, placeN, placeL, dOk, zOk, awA_len, awC_len, dFirst, zIdx, zRoom, zTakes, stN, oneD, oneC, cmdL, dDoR, dDoZ, dCmd, zApp, zFill, dDid, dLeft, aw_nearest0, aw_nearest1, List.findIdx?_cons, List.findIdx?_nil, awA_ne, awC_ne]
theorem aw12 : appR (dNew 2 100) [awA, awC] = some (awX, [⟨0, 0⟩, ⟨4607182418800017408, 0⟩], 0) := by
  simp [appR, aw1, aw2]
theorem aw4 : appR awX [awA] = some (awX, [], 60) := by
  simp [appR, aw3]
theorem aw_place : placeN awX 40 = 0 ∧ placeL awX 40 = [] ∧ placeE awX 40 = 0 ∧ placeE awX 101 = 1 := by
  simp [awX, placeE, placeN, placeL, dOk, zOk, awA_len, awC_len, dFirst, zIdx, zRoom, zTakes, stN, oneD, oneC, cmdL, dDoR, dDoZ, dCmd, zApp, zFill, dDid, dLeft, aw_nearest0, aw_nearest1, List.findIdx?_cons, List.findIdx?_nil, awA_ne, awC_ne]
theorem aw_dOk : dOk awX = true := by simp [awX, placeE, placeN, placeL, dOk, zOk, awA_len, awC_len, dFirst, zIdx, zRoom, zTakes, stN, oneD, oneC, cmdL, dDoR, dDoZ, dCmd, zApp, zFill, dDid, dLeft, aw_nearest0, aw_nearest1, List.findIdx?_cons, List.findIdx?_nil, awA_ne, awC_ne]
theorem aw_emp : stN 0 awX.zones = 0 ∧ stN 0 (dNew 2 100).zones = 2 := by
  rw [aw_new]
  simp [awX, stN]
theorem scan_one {r : Rec} (h : recOk r = true) (a b c : Int) (i : Nat) : scanF ⟨a, b, recB r, c⟩ i = [⟨r, i, 0⟩] := by
  have := scan_back [r] ((recB r).length + 1) 0 (by simpa using h) (by have := recB_length h; simp; omega)
  rw [List.flatMap_cons, List.flatMap_nil, List.append_nil] at this
  rw [scanF, this]
  rfl
theorem aw_allF : allF awX.zones 0 = [⟨awA, 0, 0⟩, ⟨awC, 1, 0⟩] := by
  simp only [awX, allF, scan_one awA_ok, scan_one awC_ok]
  rfl
theorem aw_sort : sortF [⟨awA, 0, 0⟩, ⟨awC, 1, 0⟩] = [⟨awA, 0, 0⟩, ⟨awC, 1, 0⟩] := rfl
theorem aw_run : runF [⟨awA, 0, 0⟩, ⟨awC, 1, 0⟩] 3 5 = [awA, awC] ∧ runF [⟨awA, 0, 0⟩, ⟨awC, 1, 0⟩] 3 4 = [] := by
  simp [runF, lookF, awA, awC]
end Go.Av.Pl
namespace Go.Av
open Enc (enc dec)
open Cel (cs dc)
open Go.Proofs Pl

@[simp] def sp_lAll (d : Dv) : Option (V × List Tip) := if dOk d = true ∧ (allF d.zones 0).length ≤ 20 then some (.tuple [enc (sortF (allF d.zones 0)), enc (0 : Int)], []) else none
theorem sp_lAll_ok : EOk Try.prog n_log_All (sp1 sp_lAll) := sp1_ok fun d r h => by
  simp only [sp_lAll] at h
  split at h <;> cases h
  rename_i hc
  exact c_lAll d hc.1 hc.2
@[simp] def sp_lRun (l : List Fnd) (n : Int) : Option (V × List Tip) := if l.length ≤ 2 ^ 30 ∧ -(2 ^ 63) ≤ n ∧ (n ≤ 2 ^ 62 ∨ l.all (fun f => decide (f.rcd.seq ≤ 2 ^ 62)) = true) then some (enc (runF l (l.length + 1) n), []) else none
theorem sp_lRun_ok : EOk Try.prog n_log_Run (sp2 sp_lRun) := sp2_ok fun l n r h => by
  simp only [sp_lRun] at h
  split at h <;> cases h
  rename_i hc
  exact c_lRun l n hc.1 ⟨hc.2.1, hc.2.2.imp id fun h f hf => by simpa using List.all_eq_true.1 h f hf⟩
def DawO : Orc := (((((Orc.nil.add n_dev_New (sp2 sp_dNew)).add n_log_Append (sp2 sp_lApp)).add n_log_All (sp1 sp_lAll)).add n_log_Place (sp2 sp_lPlace)).add n_log_Run (sp2 sp_lRun)).add n_log_Empty (sp1 sp_lEmpty)
theorem DawO_ok : OOk Try.prog DawO := (((((OOk.nil.add sp_dNew_ok).add sp_lApp_ok).add sp_lAll_ok).add sp_lPlace_ok).add sp_lRun_ok).add sp_lEmpty_ok
set_option maxRecDepth 8000 in
theorem c_w06awake : Pure Try.prog n_w06_awake [] (.val (.bool true)) [] := by
  refine Pure.ofC DawO_ok hm F_w06_awake_ok (by simp [F_w06_awake]) rfl ?_
  have h12 := aw12
  have h4 := aw4
  simp only [awA, awC, awB, List.replicate] at h12 h4
  have z1 : (dNew 2 100).zones.length = 2 := by rw [aw_new]; rfl
  have z2 : ∀ z ∈ (dNew 2 100).zones, z.data.length ≤ 1073741824 := by rw [aw_new]; simp
  have z3 : ¬ (dNew 2 100).zones = [] := by rw [aw_new]; simp
  have x1 : awX.zones.length = 2 := rfl
  have x2 : ∀ z ∈ awX.zones, z.data.length ≤ 1073741824 := by simp [awX, awA_len, awC_len]
  have x3 : ¬ awX.zones = [] := by simp [awX]
  have hN : dNewE 2 100 = 0 := by decide
  have a1 := aw_allF
  have a2 := aw_sort
  obtain ⟨p1, p2, p3, p4⟩ := aw_place
  obtain ⟨e1, e2⟩ := aw_emp
  obtain ⟨r1, r2⟩ := aw_run
  have f0 : Op.floatEq .f64 0 0 = true := by decide
  have f1 : Op.floatEq .f64 4607182418800017408 4607182418800017408 = true := by decide
  have q6 : awC.seq = 6 := rfl
  simp [F_w06_awake, DawO, z1, z3, h12]
  simp [x1, x3, h4, p1, p2, p3, p4, e1, e2, aw_dOk, a1, a2, r1, r2, f0, f1, q6]
  refine ⟨z2, x2, ?_⟩
  rw [show (⟨awC.kind, 6, awC.body⟩ : Rec) = awC from rfl, r1, r2, z1]
  decide
end Go.Av

namespace Go.Av
open Enc (enc dec)
open Cel (cs dc)
open Go.Proofs Pl

theorem sp_awake6k_ok : EOk Try.prog n_w06_awake (sp0 sp_true) := sp0_ok fun r h => by cases h; exact c_w06awake
theorem smallB_iff {d : Dv} (h : smallB d = true) : d.zones.length ≤ 70 ∧ ∀ z ∈ d.zones, z.data.length ≤ 300 := by
  simp only [smallB, Bool.and_eq_true, decide_eq_true_eq, List.all_eq_true] at h
  exact h
@[simp] def sp_dCopyR (d : Dv) : Option (V × List Tip) := if smallB d = true then some (enc d, []) else none
theorem sp_dCopyR_ok : EOk Try.prog n_r04_Copy (sp1 sp_dCopyR) := sp1_ok fun d r h => by
  simp only [sp_dCopyR] at h
  split at h
  · rename_i hc
    cases h
    obtain ⟨h1, h2⟩ := smallB_iff hc
    exact c_dCopy d (by omega) fun z hz => by have := h2 z hz; omega
  · cases h
@[simp] def sp_dSameR (a b : Dv) : Option (V × List Tip) := if a = b ∧ smallB a = true then some (.val (.bool true), []) else none
theorem sp_dSameR_ok : EOk Try.prog n_r04_Same (sp2 sp_dSameR) := sp2_ok fun a b r h => by
  simp only [sp_dSameR] at h
  split at h
  · rename_i hc
    cases h
    obtain ⟨rfl, hc⟩ := hc
    obtain ⟨h1, h2⟩ := smallB_iff hc
    exact c_dSame a (by omega)
  · cases h
@[simp] def sp_lAppA (d : Dv) (l : List Rec) : Option (V × List Tip) := if dOk d = true ∧ l.length ≤ 20 then some (.alts ((appA d l).map tupA), []) else none
theorem sp_lAppA_ok : EOk Try.prog n_log_Append (sp2 sp_lAppA) := sp2_ok fun d l r h => by
  simp only [sp_lAppA] at h
  split at h
  · rename_i hc
    cases h
    exact c_lAppendA d l hc.1 (by omega)
  · cases h
def DlkO : Orc := ((((((Orc.nil.add n_w06_awake (sp0 sp_true)).add n_w04_Small (sp1 fun d : Dv => some (.val (.bool (smallB d)), []))).add n_dev_Check (sp1 sp_dCheck)).add n_w06k_bodies (sp1 fun l : List Rec => some (.val (.bool (bodK l)), []))).add n_r04_Copy (sp1 sp_dCopyR)).add n_log_Append (sp2 sp_lAppA)).add n_r04_Same (sp2 sp_dSameR)
theorem DlkO_ok : OOk Try.prog DlkO := ((((((OOk.nil.add sp_awake6k_ok).add sp_small_ok).add sp_dCheck_ok).add sp_bodK_ok).add sp_dCopyR_ok).add sp_lAppA_ok).add sp_dSameR_ok
def LkI (d x : Dv) (k : Nat) (s : Nat → V) (m : Mem) : Prop :=
  ∃ (i : Nat) (b1 : List V) (r : List (List V)), i + k = d.zones.length ∧ s 2 = .ptr 0 0 ∧ s 5 = .val (.bool true) ∧ s 7 = .ptr 2 0 ∧ s 11 = .val (.int .i64 i) ∧ m.boxes = cs d :: b1 :: cs x :: r
theorem c_LogKeeps (d : Dv) (l : List Rec) : Pure Try.prog n_w06_LogKeeps [enc d, enc l] (.val (.bool true)) [] := by
  refine Pure.ofA1 (al := fun f => f == 19) DlkO_ok hm F_w06_LogKeeps_ok (by simp [F_w06_LogKeeps]) rfl ?_
  by_cases h1 : smallB d = true
  case neg =>
    have h1 : smallB d = false := by simpa using h1
    simp [F_w06_LogKeeps, DlkO, h1, decX_map]
  obtain ⟨hn, hz⟩ := smallB_iff h1
  have hn' : d.zones.length ≤ 1099511627776 := by omega
  by_cases h2 : dOk d = true
  case neg =>
    have h2 : dOk d = false := by simpa using h2
    simp [F_w06_LogKeeps, DlkO, h1, h2, hn', decX_map]
  by_cases h3 : bodK l = true
  case neg =>
    have h3 : bodK l = false := by simpa using h3
    simp [F_w06_LogKeeps, DlkO, h1, h2, h3, hn', decX_map]
  have hl : l.length ≤ 20 := by
    simp only [bodK, Bool.and_eq_true, decide_eq_true_eq] at h3
    exact h3.1
  simp [F_w06_LogKeeps, DlkO, h1, h2, h3, hn', hl, decX_map, tupA]
  rintro _ x p e hQ rfl
  obtain ⟨hk, hp, he⟩ := appA_keeps l h2 _ hQ
  have hok : dOk x = true := hk.ok
  have hxl : x.zones.length = d.zones.length := hk.len
  have hp : p.length ≤ l.length := hp
  have he : e = 0 → p.length = l.length := he
  have e1 : ¬ (l.length : Int) < p.length := by omega
  have hstart : ∀ (s : Nat → V) (m : Mem), s 2 = .ptr 0 0 → s 5 = .val (.bool true) → s 7 = .ptr 2 0 → s 11 = .val (.int .i64 0) → (∃ b1 r, m.boxes = cs d :: b1 :: cs x :: r) → IW (LkI d x d.zones.length) s m :=
    fun s m q2 q5 q7 q11 ⟨b1, r, hb⟩ => IW.of ⟨0, b1, r, by omega, q2, q5, q7, q11, hb⟩
  by_cases he0 : e = 0
  case' pos =>
    have e2 := he he0
    subst he0
    simp [h1, hn', hok, hxl, e1, e2]
  case' neg => simp [h1, hn', hok, hxl, e1, he0]
  all_goals
    refine wpA_loop (LkI d x) d.zones.length (hstart _ _ (by simp) (by simp) (by simp) (by simp) ⟨cs d, [], by simp⟩) fun k s m ⟨i, b1, r, hik, s2, s5, s7, s11, hb⟩ => ?_
    obtain ⟨bx, tips⟩ := m
    simp only at hb
    subst hb
    by_cases hi : i < d.zones.length
    · have hg : d.zones[i]? = some d.zones[i] := List.getElem?_eq_getElem hi
      have hix : i < x.zones.length := by omega
      have hgx : x.zones[i]? = some x.zones[i] := List.getElem?_eq_getElem hix
      have hpre := hk.pre i _ _ hg hgx
      have hle := hpre.length_le
      have hle' : ¬ (x.zones[i].data.length : Int) < d.zones[i].data.length := by omega
      have hle2 : (d.zones[i].data.length : Int) ≤ x.zones[i].data.length := by omega
      have ht : x.zones[i].data.take d.zones[i].data.length = d.zones[i].data := (List.prefix_iff_eq_take.1 hpre).symm
      have w1 := IntWalk.i64_in ((i : Int) + 1) (by omega)
      simp [F_w06_LogKeeps_L0, s2, s5, s7, s11, hi, hix, hg, hgx, w1, hle', hle2, hle, decX_map, ht]
      exact ⟨k - 1, by omega, IW.of ⟨i + 1, b1, r, by omega, by simpa using s2, by simpa using s5, by simpa using s7, by simp, rfl⟩⟩
    · simp [F_w06_LogKeeps_L0, s2, s5, s7, s11, hi]
end Go.Av

namespace Go.Av
open Enc (enc dec)
open Cel (cs dc)
open Go.RowKit Go.ChangeShapes Go.WideShapes Go.Deep

/-- The old memory. -/
def oldI (w : World) (b _o : Nat) : Prop := b < w.heap.size
def oldM (w : World) : Mp := ⟨[], [], oldI w, fun _ => none⟩
/-- Cells of a type are those of a plain value that has a property. -/
def Opn (P : Program) (t : TypeId) {α : Type} (c : α → List V) (Wf : α → Prop) : Prop :=
  (∀ a, (c a).length = P.cellsOf t) ∧ ∀ {H : Type} (en : TypeId × Value → H) (w : World) (base : Nat) (spare : Nat → Bool) (held : Bool) (fuel : Nat) (cs : List Value) (x : DataW H × List MemPlace),
    DataW.trod en P w base spare held fuel t cs = some x → ∃ a : α, Wf a ∧ RepL (oldM w) w (c a) cs ∧ ∀ v ∈ cs, v.oneCell' = true
theorem block_lt {w : World} {a : Addr} {v : Value} (h : w.cell? a = some v) : a.block < w.heap.size ∧ a.spot = none := by
  unfold World.cell? at h
  split at h
  · rename_i c e f hh
    refine ⟨(Array.getElem?_eq_some_iff.1 hh).1, ?_⟩
    cases hs : a.spot with
    | none => rfl
    | some s => simp [hs] at h
  · cases h
theorem Opn.int {P : Program} {t : TypeId} (ht : P.underlying t = some (.int .i64)) (hc : P.cellsOf t = 1) : Opn P t (fun n : Int => [enc n]) fun n => (Lit.int .i64 n).wf = true := by
  refine ⟨fun _ => hc.symm, fun en w base spare held fuel cs x h => ?_⟩
  obtain ⟨n, rfl, _, hw⟩ := DataW.trod_int ht h
  exact ⟨n, hw, ⟨_, _, rfl, ⟨rfl, rfl⟩, rfl⟩, by simp [Value.oneCell']⟩
theorem Opn.u8 {P : Program} {t : TypeId} (ht : P.underlying t = some (.int .u8)) (hc : P.cellsOf t = 1) : Opn P t (fun b : UInt8 => Cel.cs b) fun _ => True := by
  refine ⟨fun _ => hc.symm, fun en w base spare held fuel cs x h => ?_⟩
  obtain ⟨n, rfl, _, hw⟩ := DataW.trod_int ht h
  have hw := bounds_u8 hw
  have e : ((UInt8.ofNat n.toNat).toNat : Int) = n := by
    rw [UInt8.toNat_ofNat']
    omega
  refine ⟨UInt8.ofNat n.toNat, trivial, ⟨_, _, rfl, ⟨?_, rfl⟩, rfl⟩, by simp [Value.oneCell']⟩
  rw [e]
theorem cellsRep {w : World} {base n : Nat} {a : Addr} {cs : List Value} {l : List V} (h : w.cells? base a n = some cs) (hr : RepL (oldM w) w l cs) (ho : ∀ v ∈ cs, v.oneCell' = true) : RepC (oldM w) w l a.block a.off ∧ (l = [] ∨ a.spot = none) := by
  obtain ⟨_, hlen, hget⟩ := World.cells?_some h
  have hll := hr.length
  refine ⟨RepC.of_get fun i v hi => ?_, ?_⟩
  · obtain ⟨x, hx, hrep⟩ := hr.get hi
    have hin : i < n := by
      have := (List.getElem?_eq_some_iff.1 hx).1
      omega
    have hc := hget i hin
    rw [hx] at hc
    have hb := block_lt hc
    have e : a.add i = ⟨a.block, a.off + i, none⟩ := by
      unfold Addr.add at hb ⊢
      split
      · rename_i h0
        rw [if_pos h0] at hb
        subst h0
        cases a
        simp at hb ⊢
        exact hb.2
      · rfl
    rw [e] at hc hb
    exact ⟨x, hb.1, hc, ho x (List.mem_of_getElem? hx), hrep⟩
  · cases l with
    | nil => exact .inl rfl
    | cons v l =>
      right
      obtain ⟨x, hx, _⟩ := hr.get (i := 0) (v := v) rfl
      have hin : 0 < n := by
        have := (List.getElem?_eq_some_iff.1 hx).1
        omega
      have hc := hget 0 hin
      rw [hx] at hc
      exact (block_lt (a := a) (by simpa [Addr.add] using hc)).2
theorem Opn.slice {P : Program} {t e : TypeId} {α : Type} [Cel α] {Wf : α → Prop} (ht : P.underlying t = some (.slice e)) (hc : P.cellsOf t = 1) (hz : 0 < Cel.sz α) (he : Opn P e (Cel.cs (α := α)) Wf) : Opn P t (fun l : List α => [enc l]) fun l => l.length ≤ maxLen ∧ ∀ a ∈ l, Wf a := by
  refine ⟨fun _ => hc.symm, fun en w base spare held fuel cs x h => ?_⟩
  rcases open_slice ht h with ⟨rfl, rfl⟩ | ⟨a, len, cap, m, n, D, Pl, rfl, hb, hl, hm, hmm, rfl, hx⟩
  · exact ⟨[], ⟨Nat.zero_le _, by simp⟩, ⟨_, _, rfl, .inl ⟨rfl, rfl⟩, rfl⟩, by simp [Value.oneCell']⟩
  · have hlm : len ≤ m := by rw [hmm]; split <;> omega
    have key : ∀ j, j ≤ len → ∃ l : List α, l.length = j ∧ (∀ b ∈ l, Wf b) ∧ RepX (oldM w) w (l.map Cel.cs) a.block (a.off + (len - j) * Cel.sz α) ∧ (l = [] ∨ len - j ≠ 0 ∨ a.spot = none) := by
      intro j
      induction j with
      | zero => intro _; exact ⟨[], rfl, by simp, trivial, .inl rfl⟩
      | succ j ih =>
        intro hj
        obtain ⟨l, h1, h2, h3, _⟩ := ih (by omega)
        obtain ⟨cs', h4, h5⟩ := hx (len - (j + 1)) (by omega)
        obtain ⟨b, h6, h7, h8⟩ := he.2 en w base spare held n cs' _ h5
        obtain ⟨h9, h10⟩ := cellsRep h4 h7 h8
        have eo : (a.add ((len - (j + 1)) * P.cellsOf e)).block = a.block ∧ (a.add ((len - (j + 1)) * P.cellsOf e)).off = a.off + (len - (j + 1)) * Cel.sz α := by
          rw [← he.1 b, Cel.len]
          unfold Addr.add
          split
          · rename_i h0; exact ⟨rfl, by rw [h0]; rfl⟩
          · exact ⟨rfl, rfl⟩
        rw [eo.1, eo.2] at h9
        refine ⟨b :: l, by simp [h1], ?_, ⟨h9, ?_⟩, ?_⟩
        · intro c hc
          rcases List.mem_cons.1 hc with rfl | hc
          · exact h6
          · exact h2 c hc
        · have e2 : a.off + (len - (j + 1)) * Cel.sz α + (Cel.cs b).length = a.off + (len - j) * Cel.sz α := by
            rw [Cel.len]
            have : len - j = (len - (j + 1)) + 1 := by omega
            rw [this, Nat.add_mul]
            omega
          rw [e2]
          exact h3
        · by_cases h0 : len - (j + 1) = 0
          · right; right
            rw [h0, Nat.zero_mul] at h10
            rcases h10 with h10 | h10
            · have := congrArg List.length h10
              rw [Cel.len] at this
              simp at this
              omega
            · simpa [Addr.add] using h10
          · exact .inr (.inl h0)
    obtain ⟨l, h1, h2, h3, h4⟩ := key len (Nat.le_refl _)
    refine ⟨l, ⟨by omega, h2⟩, ⟨_, _, rfl, .inr ⟨a, cap, by simp [h1], by simp; omega, ?_, ?_, ?_⟩, rfl⟩, by simp [Value.oneCell']⟩
    · rcases h4 with h4 | h4 | h4
      · left; simp [h4]
      · omega
      · exact .inr h4
    · intro c hc
      obtain ⟨b, _, rfl⟩ := List.mem_map.1 hc
      exact Cel.len b
    · simpa using h3
/-- A struct's fields, of a cell each. -/
theorem open_flat {P : Program} {t : TypeId} {fs : Array Field} {H : Type} {en : TypeId × Value → H} {w : World} {base : Nat} {spare : Nat → Bool} {held : Bool} {fuel : Nat} {cs : List Value} {x : DataW H × List MemPlace}
    (ht : P.underlying t = some (.struct fs)) (hof : ∀ (i : Nat) (f : Field), fs[i]? = some f → f.offset = i ∧ P.cellsOf f.type = 1) (hc : P.cellsOf t = fs.size) (h : DataW.trod en P w base spare held fuel t cs = some x) :
    cs.length = fs.size ∧ ∃ n, ∀ (i : Nat) (f : Field), fs[i]? = some f → ∃ v y, cs[i]? = some v ∧ DataW.trod en P w base spare held n f.type [v] = some y := by
  obtain ⟨xs, n, _, _, hl, hlen, hf⟩ := DataW.trod_struct ht h
  refine ⟨by rw [hl, hc], n, fun i f hi => ?_⟩
  have h1 := hf i f hi
  obtain ⟨h2, h3⟩ := hof i f hi
  have hi2 := (Array.getElem?_eq_some_iff.1 hi).1
  rw [h2, h3, List.getElem?_eq_getElem (by omega)] at h1
  have h4 : i < cs.length := by omega
  refine ⟨cs[i], xs[i], List.getElem?_eq_getElem h4, ?_⟩
  rw [← h1, List.drop_eq_getElem_cons h4]
  rfl
/-- A value of more cells than one. -/
theorem Opn.agg {P : Program} {t : TypeId} {α : Type} {c : α → List V} {Wf : α → Prop} (h : Opn P t c Wf) {H : Type} {en : TypeId × Value → H} {w : World} {base : Nat} {spare : Nat → Bool} {held : Bool} {v : Value} {d : DataW H} {ps : List MemPlace} {xs : Array Value} (hv : v = .agg xs) (hd : DataW.Trod en P w base spare held t v d ps) :
    ∃ a : α, Wf a ∧ Rep (oldM w) w (.agg (c a)) v := by
  obtain ⟨fuel, hd⟩ := hd
  subst hv
  obtain ⟨a, h1, h2, _⟩ := h.2 en w base spare held fuel _ _ hd
  exact ⟨a, h1, xs, rfl, h2⟩
/-- A value of one cell. -/
theorem Opn.one {P : Program} {t : TypeId} {α : Type} {e : α → V} {Wf : α → Prop} (h : Opn P t (fun a => [e a]) Wf) {H : Type} {en : TypeId × Value → H} {w : World} {base : Nat} {spare : Nat → Bool} {held : Bool} {v : Value} {d : DataW H} {ps : List MemPlace} (hv : v.oneCell' = true) (hd : DataW.Trod en P w base spare held t v d ps) :
    ∃ a : α, Wf a ∧ Rep (oldM w) w (e a) v := by
  obtain ⟨fuel, hd⟩ := hd
  have hc : v.cells.toList = [v] := by cases v <;> first | rfl | simp [Value.oneCell'] at hv
  rw [hc] at hd
  obtain ⟨a, h1, ⟨x, r, h2, h3, h4⟩, _⟩ := h.2 en w base spare held fuel _ _ hd
  cases h2
  exact ⟨a, h1, h3⟩
/-- Behind the call: the answer is plain, what was there reads as it did. -/
theorem post_of_below {H : Type} {en : TypeId × Value → H} {P : Program} {f : Func} {s : ChangeSpec} {apart fresh handsOn again : Bool} {W W' : World} {args : Array Value} {v : Value} {ds gs : List (DataW H)} {before pa pv : List MemPlace}
    (hW : DataW.Whole en P f.params.toList s.vars apart W args.toList ds gs before) (hb : Below W.heap.size W W')
    (hres : ∀ (b : Nat) (sp : Nat → Bool) (hd : Bool), DataW.TrodAll en P W' b sp hd f.resultTypes.toList (v.resultList f.resultTypes.size) (s.fn H (ds ++ gs)).results [])
    (hargs : ∀ sp : Nat → Bool, (∀ p ∈ before, sp p.block = true) → DataW.TrodAll en P W' 0 sp true f.params.toList args.toList (s.fn H (ds ++ gs)).args pa)
    (hvars : ∀ sp : Nat → Bool, (∀ p ∈ before, sp p.block = true) → DataW.TrodVars en P W' sp s.vars (s.fn H (ds ++ gs)).vars pv)
    (hps : before = pa ++ pv)
    (hok : ∀ (j : Nat) (t : TypeId) (r : Value), f.resultTypes[j]? = some t → (v.resultList f.resultTypes.size)[j]? = some r → Value.okWide P W' .any 0 t r) :
    s.post en P f apart fresh handsOn again W args v W' := by
  have hold : ∀ p ∈ before, (fun b => decide (b < W.heap.size)) p.block = true := fun p hp => by simpa using hW.lt p hp
  refine ⟨ds, gs, before, [], pa, pv, hW, hres _ _ _, hargs _ hold, hvars _ hold, World.keptBut_mono (fun p hp => ⟨hp, ?_⟩) (hb.frame (· ∈ before)), fun _ => ?_⟩
  · rw [hps, List.mem_append] at hp
    exact Or.inr hp
  · have hlt := hW.lt
    obtain ⟨_, _, _, _, _, hz, hn⟩ := hW
    refine ⟨hok, _, _, ([] ++ pa) ++ pv, ⟨[] ++ pa, pv, trodAll_append (hargs _ (fun _ _ => rfl)) (hres _ _ _), hvars _ (fun _ _ => rfl), rfl, ?_, ?_⟩, ?_⟩
    · intro b off hp
      have hp' : MemPlace.cell b off ∈ before := by rw [hps]; simpa using hp
      rw [hb.frozen (p := ⟨b, off, none⟩) (hlt _ hp')]
      exact hz b off hp'
    · intro ha
      have := hn ha
      rw [hps] at this
      simpa using this
    · intro p hp _
      rw [hps]
      simpa using hp
/-- What was handed in reads as it did. -/
theorem TrodAll_stays {H : Type} {en : TypeId × Value → H} {P : Program} {W W' : World} (hl : laidOutB P = true) {sp : Nat → Bool} (hb : Below W.heap.size W W') : ∀ {ts : List TypeId} {vs : List Value} {ds : List (DataW H)} {ps : List MemPlace},
    (∀ t ∈ ts, P.readableRec t = true ∧ t < P.types.size) → DataW.TrodAll en P W 0 (fun _ => true) true ts vs ds ps → (∀ x ∈ ps, x.block < W.heap.size) → (∀ x ∈ ps, sp x.block = true) → DataW.TrodAll en P W' 0 sp true ts vs ds ps
  | [], _, _, _, _, h, _, _ => by
    obtain ⟨rfl, rfl, rfl⟩ := trodAll_nil h
    exact trodAll_mk0
  | t :: ts, _, _, _, ht, h, hlt, hsp => by
    obtain ⟨v, vs1, d, ds1, a, b, rfl, rfl, rfl, h1, h2⟩ := trodAll_cons h
    obtain ⟨k1, k2⟩ := ht t (List.mem_cons_self ..)
    exact ⟨a, b, WideElems.Trod_stays hl k1 k2 h1 (fun x hx => hb.same (hlt x (List.mem_append_left _ hx))) (fun x hx => hsp x (List.mem_append_left _ hx)),
      TrodAll_stays hl hb (fun t ht' => ht t (List.mem_cons_of_mem _ ht')) h2 (fun x hx => hlt x (List.mem_append_right _ hx)) (fun x hx => hsp x (List.mem_append_right _ hx)), rfl⟩
end Go.Av

namespace Go.Av
open Enc (enc dec)
open Cel (cs dc)
open Go.Proofs Pl Go.ChangeShapes Go.WideShapes Go.RowKit

theorem Opn.weak {P : Program} {t : TypeId} {α : Type} {c : α → List V} {W W' : α → Prop} (h : Opn P t c W) (hw : ∀ a, W a → W' a) : Opn P t c W' :=
  ⟨h.1, fun en w base spare held fuel cs x hd => by
    obtain ⟨a, h1, h2⟩ := h.2 en w base spare held fuel cs x hd
    exact ⟨a, hw a h1, h2⟩⟩
theorem opn_int : Opn Try.prog 3 (fun n : Int => [enc n]) (fun n => (Lit.int .i64 n).wf = true) := Opn.int Try.underlying3 (by kernel_rfl)
theorem opn_u8 : Opn Try.prog 5 (fun b : UInt8 => cs b) (fun _ => True) := Opn.u8 Try.underlying5 (by kernel_rfl)
theorem opn_bytes : Opn Try.prog 34 (fun l : List UInt8 => [enc l]) (fun l => l.length ≤ maxLen ∧ ∀ b ∈ l, True) := Opn.slice Try.underlying34 (by kernel_rfl) (by decide) opn_u8
/-- A function of a plain answer, run. -/
theorem Pure.run {P : Program} {f : FuncId} {args : List V} {r : Value} {w : World} {vals : Array Value} (h : Pure P f args (.val r) []) (hr : RepL (oldM w) w args vals.toList) :
    Calls P f vals w fun e w' => e = .returned r ∧ Below w.heap.size w w' := by
  refine (h.2.2 (oldI w) w vals (fun b o hb => hb) hr).mono fun e w' ⟨x, M', he, hg, hx⟩ => ?_
  obtain ⟨rfl, _⟩ := hx
  exact ⟨he, hg.below⟩
end Go.Av

namespace Go.Av
open Enc (enc dec)
open Cel (cs dc)
open Go.Proofs Pl Go.ChangeShapes Go.WideShapes Go.RowKit

theorem Opn.bool {P : Program} {t : TypeId} (ht : P.underlying t = some .bool) (hc : P.cellsOf t = 1) : Opn P t (fun b : Bool => [enc b]) fun _ => True := by
  refine ⟨fun _ => hc.symm, fun en w base spare held fuel cs x h => ?_⟩
  obtain ⟨b, rfl, _⟩ := DataW.trod_bool ht h
  exact ⟨b, trivial, ⟨_, _, rfl, ⟨rfl, rfl⟩, rfl⟩, by simp [Value.oneCell']⟩
theorem opn_bool : Opn Try.prog 4 (fun b : Bool => [enc b]) (fun _ => True) := Opn.bool Try.underlying4 (by kernel_rfl)
theorem opn_zo : Opn Try.prog 85 (fun x : Zo => cs x) (fun _ => True) := by
  refine ⟨fun _ => Eq.symm (by kernel_rfl), fun en w base spare held fuel c x h => ?_⟩
  obtain ⟨hl, n, hf⟩ := open_flat Try.underlying85 (by rintro (_ | _ | _ | _ | i) f hi <;> simp at hi <;> subst hi <;> exact ⟨rfl, by kernel_rfl⟩) (by kernel_rfl) h
  obtain ⟨v0, y0, g0, t0⟩ := hf 0 _ rfl
  obtain ⟨v1, y1, g1, t1⟩ := hf 1 _ rfl
  obtain ⟨v2, y2, g2, t2⟩ := hf 2 _ rfl
  obtain ⟨v3, y3, g3, t3⟩ := hf 3 _ rfl
  obtain rfl : c = [v0, v1, v2, v3] := by
    match c, hl with
    | [a0, a1, a2, a3], _ => simp at g0 g1 g2 g3; simp [g0, g1, g2, g3]
  obtain ⟨a0, _, r0, o0⟩ := opn_int.2 en w base spare held n _ _ t0
  obtain ⟨a1, _, r1, o1⟩ := opn_int.2 en w base spare held n _ _ t1
  obtain ⟨a2, _, r2, o2⟩ := opn_bytes.2 en w base spare held n _ _ t2
  obtain ⟨a3, _, r3, o3⟩ := opn_int.2 en w base spare held n _ _ t3
  refine ⟨⟨a0, a1, a2, a3⟩, trivial, r0.append (r1.append (r2.append r3)), ?_⟩
  intro v hv
  simp only [List.mem_cons, List.not_mem_nil, or_false] at hv
  rcases hv with rfl | rfl | rfl | rfl
  · exact o0 _ (by simp)
  · exact o1 _ (by simp)
  · exact o2 _ (by simp)
  · exact o3 _ (by simp)
theorem opn_zos : Opn Try.prog 25 (fun l : List Zo => [enc l]) (fun l => l.length ≤ maxLen ∧ ∀ b ∈ l, True) := Opn.slice Try.underlying25 (by kernel_rfl) (by decide) opn_zo
theorem opn_dv : Opn Try.prog 27 (fun x : Dv => cs x) (fun _ => True) := by
  refine ⟨fun _ => Eq.symm (by kernel_rfl), fun en w base spare held fuel c x h => ?_⟩
  obtain ⟨hl, n, hf⟩ := open_flat Try.underlying27 (by rintro (_ | _ | _ | _ | _ | i) f hi <;> simp at hi <;> subst hi <;> exact ⟨rfl, by kernel_rfl⟩) (by kernel_rfl) h
  obtain ⟨v0, y0, g0, t0⟩ := hf 0 _ rfl
  obtain ⟨v1, y1, g1, t1⟩ := hf 1 _ rfl
  obtain ⟨v2, y2, g2, t2⟩ := hf 2 _ rfl
  obtain ⟨v3, y3, g3, t3⟩ := hf 3 _ rfl
  obtain ⟨v4, y4, g4, t4⟩ := hf 4 _ rfl
  obtain rfl : c = [v0, v1, v2, v3, v4] := by
    match c, hl with
    | [a0, a1, a2, a3, a4], _ => simp at g0 g1 g2 g3 g4; simp [g0, g1, g2, g3, g4]
  obtain ⟨a0, _, r0, o0⟩ := opn_int.2 en w base spare held n _ _ t0
  obtain ⟨a1, _, r1, o1⟩ := opn_zos.2 en w base spare held n _ _ t1
  obtain ⟨a2, _, r2, o2⟩ := opn_int.2 en w base spare held n _ _ t2
  obtain ⟨a3, _, r3, o3⟩ := opn_bool.2 en w base spare held n _ _ t3
  obtain ⟨a4, _, r4, o4⟩ := opn_int.2 en w base spare held n _ _ t4
  refine ⟨⟨a0, a1, a2, a3, a4⟩, trivial, r0.append (r1.append (r2.append (r3.append r4))), ?_⟩
  intro v hv
  simp only [List.mem_cons, List.not_mem_nil, or_false] at hv
  rcases hv with rfl | rfl | rfl | rfl | rfl
  · exact o0 _ (by simp)
  · exact o1 _ (by simp)
  · exact o2 _ (by simp)
  · exact o3 _ (by simp)
  · exact o4 _ (by simp)
end Go.Av

namespace Go.Av
open Enc (enc dec)
open Cel (cs dc)
open Go.Proofs Pl Go.ChangeShapes Go.WideShapes Go.RowKit

theorem opn_rec : Opn Try.prog 36 (fun x : Rec => cs x) (fun r => r.seq < 2 ^ 63 ∧ r.body.length ≤ maxLen) := by
  refine ⟨fun _ => Eq.symm (by kernel_rfl), fun en w base spare held fuel c x h => ?_⟩
  obtain ⟨hl, n, hf⟩ := open_flat Try.underlying36 (by rintro (_ | _ | _ | i) f hi <;> simp at hi <;> subst hi <;> exact ⟨rfl, by kernel_rfl⟩) (by kernel_rfl) h
  obtain ⟨v0, y0, g0, t0⟩ := hf 0 _ rfl
  obtain ⟨v1, y1, g1, t1⟩ := hf 1 _ rfl
  obtain ⟨v2, y2, g2, t2⟩ := hf 2 _ rfl
  obtain rfl : c = [v0, v1, v2] := by
    match c, hl with
    | [a0, a1, a2], _ => simp at g0 g1 g2; simp [g0, g1, g2]
  obtain ⟨a0, _, r0, o0⟩ := opn_int.2 en w base spare held n _ _ t0
  obtain ⟨a1, w1, r1, o1⟩ := opn_int.2 en w base spare held n _ _ t1
  obtain ⟨a2, m2, r2, o2⟩ := opn_bytes.2 en w base spare held n _ _ t2
  have hs : a1 < 2 ^ 63 := by
    simp only [Lit.wf, Bool.and_eq_true, decide_eq_true_eq] at w1
    have : a1 ≤ 9223372036854775807 := w1.2
    omega
  refine ⟨⟨a0, a1, a2⟩, ⟨hs, m2.1⟩, r0.append (r1.append r2), ?_⟩
  intro v hv
  simp only [List.mem_cons, List.not_mem_nil, or_false] at hv
  rcases hv with rfl | rfl | rfl
  · exact o0 _ (by simp)
  · exact o1 _ (by simp)
  · exact o2 _ (by simp)
theorem len5 {α : Type} {c : List α} (h : c.length = 5) : ∃ c0 c1 c2 c3 c4, c = [c0, c1, c2, c3, c4] := by
  match c, h with
  | [a0, a1, a2, a3, a4], _ => exact ⟨a0, a1, a2, a3, a4, rfl⟩
theorem len3 {α : Type} {c : List α} (h : c.length = 3) : ∃ c0 c1 c2, c = [c0, c1, c2] := by
  match c, h with
  | [a0, a1, a2], _ => exact ⟨a0, a1, a2, rfl⟩
theorem opn_fnd : Opn Try.prog 57 (fun x : Fnd => cs x) (fun f => f.rcd.seq < 2 ^ 63 ∧ f.rcd.body.length ≤ maxLen) := by
  refine ⟨fun _ => Eq.symm (by kernel_rfl), fun en w base spare held fuel c x h => ?_⟩
  obtain ⟨xs, n, _, _, hl, hlen, hf⟩ := DataW.trod_struct Try.underlying57 h
  have hc : Try.prog.cellsOf 57 = 5 := by kernel_rfl
  have h36 : Try.prog.cellsOf 36 = 3 := by kernel_rfl
  have h3 : Try.prog.cellsOf 3 = 1 := by kernel_rfl
  rw [hc] at hl
  have t0 : DataW.trod en Try.prog w base spare held n 36 ((c.drop 0).take (Try.prog.cellsOf 36)) = xs[0]? := hf 0 _ rfl
  have t1 : DataW.trod en Try.prog w base spare held n 3 ((c.drop 3).take (Try.prog.cellsOf 3)) = xs[1]? := hf 1 _ rfl
  have t2 : DataW.trod en Try.prog w base spare held n 3 ((c.drop 4).take (Try.prog.cellsOf 3)) = xs[2]? := hf 2 _ rfl
  rw [h36] at t0
  rw [h3] at t1 t2
  obtain ⟨c0, c1, c2, c3, c4, rfl⟩ := len5 hl
  obtain ⟨y0, y1, y2, rfl⟩ := len3 (show xs.length = 3 from hlen)
  obtain ⟨a0, m0, r0, o0⟩ := opn_rec.2 en w base spare held n [c0, c1, c2] y0 t0
  obtain ⟨a1, _, r1, o1⟩ := opn_int.2 en w base spare held n [c3] y1 t1
  obtain ⟨a2, _, r2, o2⟩ := opn_int.2 en w base spare held n [c4] y2 t2
  refine ⟨⟨a0, a1, a2⟩, m0, r0.append (r1.append r2), ?_⟩
  intro v hv
  simp only [List.mem_cons, List.not_mem_nil, or_false] at hv
  rcases hv with rfl | rfl | rfl | rfl | rfl
  · exact o0 _ (by simp)
  · exact o0 _ (by simp)
  · exact o0 _ (by simp)
  · exact o1 _ (by simp)
  · exact o2 _ (by simp)
theorem opn_fnds : Opn Try.prog 55 (fun l : List Fnd => [enc l]) (fun l => l.length ≤ maxLen ∧ ∀ f ∈ l, f.rcd.seq < 2 ^ 63 ∧ f.rcd.body.length ≤ maxLen) := Opn.slice Try.underlying55 (by kernel_rfl) (by decide) opn_fnd
end Go.Av

namespace Go.Av
open Enc (enc dec)
open Cel (cs dc)
open Go.Proofs Pl Go.ChangeShapes Go.WideShapes Go.RowKit

theorem opn_recs : Opn Try.prog 47 (fun l : List Rec => [enc l]) (fun l => l.length ≤ maxLen ∧ ∀ r ∈ l, r.seq < 2 ^ 63 ∧ r.body.length ≤ maxLen) := Opn.slice Try.underlying47 (by kernel_rfl) (by decide) opn_rec
theorem opn_ints : Opn Try.prog 64 (fun l : List Int => [enc l]) (fun l => l.length ≤ maxLen ∧ ∀ n ∈ l, (Lit.int .i64 n).wf = true) := Opn.slice Try.underlying64 (by kernel_rfl) (by decide) opn_int
end Go.Av
