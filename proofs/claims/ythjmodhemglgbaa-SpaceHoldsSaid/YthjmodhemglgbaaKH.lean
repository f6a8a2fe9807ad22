/-
  ToE: Contracts: snap.Records.
  ToF: Contracts: slices.Backward, snap.Found.
  ToG: Contracts: snap.Found.
  ToH: Contracts of the laws' own functions.
  PlE: A state's bytes: what is written is read, and what is read was written. No Go here.
  ToI: Contracts of the laws' own functions: awake.
  AvOp: Arguments, as a row reads them, as plain values of Lean; behind the call they read as they did.
  ToP: What the rows hand in, as plain values.
  DvN: Numbers and compact codes of functions.
  AvTh: A new slice that a function answers, written to from then on: it lies in a box.
  AvBo: Slices that are written, lent to a function that only reads; and, behind a run, as they are.
-/
import Derived.Test.YthjmodhemglgbaaKG
import Derived.Deep.Slices
import Derived.ChangeSame
import Derived.Carry
import Derived.OpenShut
import Derived.Test.YthjmodhemglgbaaRows
set_option linter.unusedSimpArgs false
set_option linter.unusedVariables false

namespace Go.Av
open Enc (enc dec)
open Cel (cs dc)
open Go.Proofs Pl

theorem wk1_refl (e : V) : wk1 e e := by cases e <;> simp [wk1]
theorem wkL_refl : ∀ l : List V, wkL l l
  | [] => trivial
  | e :: l => ⟨wk1_refl e, wkL_refl l⟩
/-- A row and a plain value, where the row's elements may be weakened. -/
theorem Pure.ofRW {α : Type} [Cel α] {P : Program} {D : Orc} {own : Nat → Bool} {f : FuncId} {F : F} {args : List V} (hD : OOk P D) (hm : P.follows .mixedOrders = true) (hF : compF P own f = some F) (hn : args.length ≤ F.n) {l : List α} {e : V} {tip : Tip} (hc : e.isClean = true)
    (h : wp P noY D F.c (argS args) ⟨[], []⟩ (Fin F.rs fun v m => ∃ t, ((∃ xs, v = .tuple [.row t (Cel.sz α) xs, e] ∧ decX xs = some l) ∨ (v = .tuple [.val (.slice none 0 0), e] ∧ l = [])) ∧ m.tips[t]? = some tip)) : Pure P f args (.tuple [.row 0 (Cel.sz α) (l.map cs), e]) [tip] := by
  have hcl : callable P f = true := by
    unfold compF at hF
    split at hF
    · assumption
    · cases hF
  have hk : ∀ t, keepN [t] (.tuple [.row t (Cel.sz α) (l.map cs), e]) (.tuple [.row 0 (Cel.sz α) (l.map cs), e]) := by
    intro t
    refine ⟨⟨⟨rfl, rfl, rfl⟩, clean_cs l⟩, ?_, trivial⟩
    unfold keepN1
    split
    · simp [V.isClean] at hc
    · rename_i k
      exact ⟨wkL_refl k, by simpa [V.isClean] using hc⟩
    · exact ⟨wk1_refl e, hc⟩
  refine ⟨hcl, keepN_res (hk 0), fun I w vals hI hr => ?_⟩
  refine (calls_sound hm hF hn (Good.start hI) hr YOk.no (wp_sound hD _ h)).2.mono fun en w' ⟨x, M', v, m', he, hE, hg, hx, t, hv, ht⟩ => ?_
  refine ⟨x, M'.sel [t], he, hg.sel (by simp) (by simp [selTips, ht]), ?_⟩
  rcases hv with ⟨xs, rfl, hd⟩ | ⟨rfl, rfl⟩
  · refine keepN_rep (hk t) ?_
    obtain ⟨vs, rfl, y, r, hvs, h1, h2⟩ := hx
    exact ⟨vs, rfl, y, r, hvs, row_dec rfl hd h1, h2⟩
  · have h2 : keepN [t] (.tuple [.val (.slice none 0 0), e]) (.tuple [.row 0 (Cel.sz α) [], e]) := ⟨⟨⟨rfl, rfl⟩, rfl⟩, (hk t).2.1, trivial⟩
    exact keepN_rep h2 hx
/-- The records of parts, from a number on. -/
def partsR (seq : Int) : List (List UInt8) → List Rec
  | [] => []
  | c :: l => ⟨2, seq, c⟩ :: partsR (seq + 1) l
theorem partsR_append (seq : Int) (c : List UInt8) : ∀ l : List (List UInt8), partsR seq (l ++ [c]) = partsR seq l ++ [⟨2, seq + l.length, c⟩]
  | [] => by simp [partsR]
  | d :: l => by
    simp only [List.cons_append, partsR, partsR_append (seq + 1) c l, List.length_cons]
    have : seq + 1 + (l.length : Int) = seq + ((l.length + 1 : Nat) : Int) := by omega
    rw [this]
theorem partsR_length (seq : Int) : ∀ l : List (List UInt8), (partsR seq l).length = l.length
  | [] => rfl
  | _ :: l => by simp [partsR, partsR_length (seq + 1) l]
theorem chunksF_length (n : Nat) : ∀ (k : Nat) (l : List UInt8), (chunksF n k l).length ≤ k
  | 0, _ => by simp [chunksF]
  | k + 1, l => by
    rw [chunksF]
    split
    · simp
    · have := chunksF_length n k (l.drop n); simp; omega
theorem chunks_mem {n : Nat} {l : List UInt8} : ∀ c ∈ chunks n l, c.length ≤ l.length := by
  have key : ∀ (k : Nat) (l : List UInt8), ∀ c ∈ chunksF n k l, c.length ≤ l.length := by
    intro k
    induction k with
    | zero => intro l c h; simp [chunksF] at h
    | succ k ih =>
      intro l c h
      rw [chunksF] at h
      split at h
      · cases h
      · rcases List.mem_cons.1 h with rfl | h
        · simp; omega
        · have := ih _ _ h; simp at this; omega
  exact key _ _
def snapParts (q : Sta) : List (List UInt8) := chunks 4096 (snapB q)
def seqOk (seq : Int) : Bool := decide (0 ≤ seq ∧ seq ≤ 2305843009213693952)
/-- A snapshot's records. -/
def recsL (q : Sta) (seq : Int) : List Rec := if staOk q = true ∧ seqOk seq = true then partsR seq (snapParts q) ++ [⟨3, seq + (snapParts q).length, bytesPut [] (snapParts q).length 2⟩] else []
def recsE (q : Sta) (seq : Int) : Int := if staOk q = true then (if seqOk seq = true then errPut (snapParts q).length 2 else 120) else 110
@[simp] def sp_snapWrite (q : Sta) : Option (V × List Tip) := if q.map.length ≤ 2 ^ 30 ∧ q.pts.length ≤ 2 ^ 30 ∧ (∀ p ∈ q.pts, p.map.length ≤ 2 ^ 30) ∧ q.staged.length ≤ 2 ^ 30 then some (.tuple [.row 0 1 ((snapB q).map cs), enc (staE q)], [(5, 1, (snapB q).length)]) else none
theorem sp_snapWrite_ok : EOk Try.prog n_snap_Write (sp1 sp_snapWrite) := sp1_ok fun q r h => by
  simp only [sp_snapWrite] at h
  split at h <;> cases h
  exact c_snap_Write q (by assumption)
def D38 : Orc := (((Orc.nil.add n_snap_Write (sp1 sp_snapWrite)).add n_bytes_Clone (sp1 sp_clone)).add n_le_Put (sp3 sp_Put)).addL n_snap_parts sp_parts
theorem D38_ok : OOk Try.prog D38 := by
  refine (((OOk.nil.add sp_snapWrite_ok).add (sp1_ok fun l r h => ?_)).add (sp3_ok fun b v w r h => ?_)).addL sp_parts_ok
  · simp only [sp_clone] at h
    split at h <;> cases h
    exact c_clone l (by assumption)
  · simp only [sp_Put] at h
    split at h <;> cases h
    exact c_le_Put b v w (by assumption)
theorem snapB_length (q : Sta) : (snapB q).length ≤ 20000 := by
  unfold snapB
  split
  · rename_i h
    obtain ⟨f1, f2, f3, f4, f5, f6, f7, f8⟩ := staOk_fine h
    have h1 := mapB_length f1
    have h2 : ∀ l : List Pt, (∀ p ∈ l, ptFine q p) → (l.flatMap ptB).length ≤ 2510 * l.length := by
      intro l
      induction l with
      | nil => intro _; simp
      | cons p l ih =>
        intro hl
        have h3 := mapB_length (hl p (List.mem_cons_self ..)).1
        have h4 := ih fun p hp => hl p (List.mem_cons_of_mem _ hp)
        have h5 : (ptB p).length = 8 + (mapB p.map).length := by simp [ptB, leB_length]; omega
        rw [List.flatMap_cons, List.length_append, List.length_cons]
        omega
    have h6 := h2 q.pts f8
    have h7 : (sealS (bodyS q)).length = 16 + q.staged.length + (mapB q.map).length + (q.pts.flatMap ptB).length := by
      simp [sealS, bodyS, headB, leB_length]; omega
    omega
  · simp
def RecsM (q : Sta) (seq : Int) (acc : List (List UInt8)) : Mem :=
  ⟨[cs q, [.val (.int .i64 seq)], [.row 0 3 ((partsR seq acc).map cs)], [.lit 1 ((snapB q).map cs)], [.val (.int .i64 4096)], [St.ready.v], [St.ready.v]], [(36, 3, acc.length), (5, 1, (snapB q).length)]⟩
theorem c_snap_Records (q : Sta) (seq : Int) (hq : staLen q) : Pure Try.prog n_snap_Records [enc q, enc seq] (.tuple [.row 0 3 ((recsL q seq).map cs), enc (recsE q seq)]) [(36, 3, (recsL q seq).length)] := by
  have hq' := hq
  unfold staLen at hq'
  obtain ⟨g1, g2, g3, g4⟩ := hq
  have g1' : q.map.length ≤ 1073741824 := g1
  have g2' : q.pts.length ≤ 1073741824 := g2
  have g3' : ∀ p ∈ q.pts, p.map.length ≤ 1073741824 := g3
  have g4' : q.staged.length ≤ 1073741824 := g4
  refine Pure.ofRW (α := Rec) D38_ok hm F_snap_Records_ok (by simp [F_snap_Records]) rfl ?_
  have hsl := snapB_length q
  have hpl : (snapParts q).length ≤ 20000 := Nat.le_trans (chunksF_length _ _ _) hsl
  cases hok : staOk q with
  | false =>
    have e : staE q = 110 := by simp [staE, hok]
    simp [F_snap_Records, D38, g1', g2', g3', g4', e, recsL, recsE, hok]
    exact ⟨g3', 0, rfl⟩
  | true =>
    have e : staE q = 0 := by simp [staE, hok]
    cases hseq : seqOk seq with
    | false =>
      have h1 : seq < 0 ∨ (0 ≤ seq ∧ 2305843009213693952 < seq) := by
        simp [seqOk] at hseq; omega
      rcases h1 with h1 | ⟨h1, h2⟩
      · simp [F_snap_Records, D38, g1', g2', g3', g4', e, recsL, recsE, hok, hseq, h1]
        exact ⟨g3', 0, rfl⟩
      · have h3 : ¬ seq < 0 := by omega
        simp [F_snap_Records, D38, g1', g2', g3', g4', e, recsL, recsE, hok, hseq, h2, h3]
        exact ⟨g3', 0, rfl⟩
    | true =>
      have h1 : ¬ seq < 0 ∧ ¬ 2305843009213693952 < seq := by
        simp [seqOk] at hseq; omega
      simp [F_snap_Records, D38, g1', g2', g3', g4', e, recsL, recsE, hok, hseq, h1.1, h1.2, sp_parts]
      refine ⟨g3', ?_⟩
      refine ⟨_, _, .tuple [], RecsM q seq (snapParts q), .ready, by simp, c_chunk1 _ _ 3 4 (snapB q) 4096 (by decide) (by decide) (by omega) _ _ ⟨rfl, rfl⟩ ?run, by simp [RecsM, loopAt], by simp, ?fin⟩
      case run =>
        refine YRun.list (fun c => [.full 1 (c.map cs)]) (RecsM q seq) (snapParts q) ?_ ?_
        rotate_left
        · intro acc x r h
          exact ⟨rfl, rfl⟩
        intro acc x r h
        refine Or.inr ⟨rfl, ?_⟩
        have hal : acc.length ≤ 20000 := by
          have := congrArg List.length h
          simp at this
          omega
        have w1 := IntWalk.i64_in (acc.length : Int) (by omega)
        have w2 := IntWalk.i64_in (seq + (acc.length : Int)) (by omega)
        simp [roundW, putAll, St.of, St.cont, CutM, RecsM, loopAt, D38, partsR_append, partsR_length, w1, w2]
        exact ⟨by have := chunks_mem (n := 4096) (l := snapB q) x (by show x ∈ snapParts q; rw [h]; simp); omega, by omega⟩
      case fin =>
        have w1 := IntWalk.i64_in ((snapParts q).length : Int) (by omega)
        have w2 := IntWalk.i64_in (seq + ((snapParts q).length : Int)) (by omega)
        have w3 := IntWalk.u64_in ((snapParts q).length : Int) (by omega)
        rw [show St.ready.out = Exit.normal from rfl]
        simp [RecsM, D38, partsR_length, w1, w2, w3]
        exact ⟨by omega, 0, ⟨_, ⟨rfl, rfl⟩, by simp [decX_map]⟩, rfl⟩
end Go.Av

namespace Go.Av.Pl
structure Fnd where
  rcd : Rec
  zone : Int
  at_ : Int
deriving DecidableEq
end Go.Av.Pl
namespace Go.Av
open Enc (enc dec)
open Cel (cs dc)
open Go.Proofs Pl

instance : Cel Fnd where
  sz := 5
  cs x := [enc x.rcd.kind, enc x.rcd.seq, enc x.rcd.body, enc x.zone, enc x.at_]
  dc l := match l with
    | [a, b, c, d, e] => (dec a).bind fun a => (dec b).bind fun b => (dec c).bind fun c => (dec d).bind fun d => (dec e).bind fun e => some ⟨⟨a, b, c⟩, d, e⟩
    | _ => none
  len _ := rfl
  ok l x h := by
    split at h
    · simp only [Option.bind_eq_some_iff] at h
      obtain ⟨a, ha, b, hb, c, hc, d, hd, e, he, h⟩ := h
      cases h
      exact wk_dec (wk_dec (wk_dec (wk_dec (wk_dec wk_nil he) hd) hc) hb) ha
    · cases h
  cl x := by simp [clean_cs]
  de x := by simp [decX_map]
instance : Enc Fnd := encC
@[simp] theorem sz_fnd : Cel.sz Fnd = 5 := rfl
@[simp] theorem cs_fnd (x : Fnd) : cs x = [.val (.int .i64 x.rcd.kind), .val (.int .i64 x.rcd.seq), .lit 1 (x.rcd.body.map cs), .val (.int .i64 x.zone), .val (.int .i64 x.at_)] := rfl
@[simp] theorem enc_fnd (x : Fnd) : (enc x : V) = .agg [.val (.int .i64 x.rcd.kind), .val (.int .i64 x.rcd.seq), .lit 1 (x.rcd.body.map cs), .val (.int .i64 x.zone), .val (.int .i64 x.at_)] := rfl
@[simp] theorem dc_fnd (a b c d e : V) : (dc [a, b, c, d, e] : Option Fnd) = (dec a).bind fun a => (dec b).bind fun b => (dec c).bind fun c => (dec d).bind fun d => (dec e).bind fun e => some ⟨⟨a, b, c⟩, d, e⟩ := rfl
@[simp] theorem dec_fnd (l : List V) : (dec (.agg l) : Option Fnd) = dc l := rfl

/-- An iterator that looks for one. -/
theorem YRun.find {α β : Type} {Y : YRel} {L : Nat} {K : Mem → Prop} (arg : α → List V) (g : α → Option β) (m0 : Mem) (m1 : β → Mem) (hK : K m0) : ∀ (all : List α), (∀ x ∈ all, Y L (arg x) m0 (.val (.bool (g x).isNone)) ((g x).elim m0 m1)) →
    YRun Y L K (all.map arg) m0 ((all.findSome? g).elim m0 m1)
  | [], _ => .done
  | x :: r, h1 => by
    have h := h1 x (List.mem_cons_self ..)
    rw [List.findSome?_cons]
    cases hg : g x with
    | none =>
      rw [hg] at h
      exact .next h hK (YRun.find arg g m0 m1 hK r (fun x hx => h1 x (List.mem_cons_of_mem _ hx)))
    | some y =>
      rw [hg] at h
      exact .stop h
/-- The first so many, with their places, from behind. -/
def bwTo {α : Type} (l : List α) : Nat → List (Nat × α)
  | 0 => []
  | k + 1 => match l[k]? with
    | some x => (k, x) :: bwTo l k
    | none => bwTo l k
theorem bwTo_snd {α : Type} (l : List α) : ∀ k, k ≤ l.length → (bwTo l k).map (·.2) = (l.take k).reverse
  | 0, _ => by simp [bwTo]
  | k + 1, h => by
    have hk : k < l.length := by omega
    rw [bwTo, List.getElem?_eq_getElem hk]
    simp only [List.map_cons, bwTo_snd l k (by omega)]
    rw [List.take_add_one, List.getElem?_eq_getElem hk, Option.toList_some, List.reverse_append]
    rfl
def bwArg {α : Type} [Cel α] (p : Nat × α) : List V := [.val (.int .i64 p.1), .agg (cs p.2)]
def BwK (a : Nat) (l : List Fnd) (m : Mem) : Prop := m.boxes[a]? = some [.lit 5 (l.map cs)]
def BwI (Y : YRel) (L a : Nat) (l : List Fnd) (m1 : Mem) (k : Nat) (s : Nat → V) (m : Mem) : Prop :=
  k ≤ l.length ∧ s 0 = .yld L ∧ s 1 = .ptr a 0 ∧ s 3 = .val (.int .i64 ((k : Int) - 1)) ∧ BwK a l m ∧ YRun Y L (BwK a l) ((bwTo l k).map bwArg) m m1
theorem c_backward1 (Y : YRel) (L a : Nat) (l : List Fnd) (hl : l.length ≤ 2 ^ 40) (m m1 : Mem) (hK : BwK a l m)
    (h : YRun Y L (BwK a l) ((bwTo l l.length).map bwArg) m m1) : LocY Try.prog Y n_slices_Backward_Found_1 [.yld L, .ptr a 0] m (.tuple []) m1 := by
  refine LocY.ofX OOk.nil hm F_slices_Backward_Found_1_ok (by simp [F_slices_Backward_Found_1]) ?_
  have w1 := IntWalk.i64_in ((l.length : Int) - 1) (by omega)
  have hK' : m.boxes[a]? = some [.lit 5 (l.map cs)] := hK
  simp [F_slices_Backward_Found_1, hK', w1]
  refine wp_loop (BwI Y L a l m1) l.length (IW.of ⟨by omega, by simp, by simp, by simp, hK, h⟩) fun k s m ⟨hk, s0, s1, s3, k1, hr⟩ => ?_
  unfold BwK at k1
  cases k with
  | zero =>
    have hm1 : m = m1 := by
      cases hr
      rfl
    simp [F_slices_Backward_Found_1_L0, s0, s1, s3, k1]
    exact hm1
  | succ k =>
    have hk2 : k < l.length := by omega
    rw [bwTo, List.getElem?_eq_getElem hk2, List.map_cons] at hr
    have w2 := IntWalk.i64_in ((k : Int) - 1) (by omega)
    have e0 : ((k + 1 : Nat) : Int) - 1 = k := by omega
    rw [e0] at s3
    simp [F_slices_Backward_Found_1_L0, s0, s1, s3, k1, hk2]
    cases hr with
    | stop hy =>
      refine ⟨_, _, hy, ?_⟩
      simp
    | next hy hk3 h2 =>
      refine ⟨_, _, hy, ?_⟩
      simp [s3, w2]
      exact ⟨k, by omega, IW.of ⟨by omega, by simp [s0], by simp [s1], by simp, hk3, h2⟩⟩
def sp_bw : List V → Mem → Option (V × Mem)
  | [v], m => (dec v : Option (List Fnd)).bind fun l => some (.func n_slices_Backward_Found_1 [.ptr m.boxes.length 0], ⟨m.boxes ++ [[.lit 5 (l.map cs)]], m.tips⟩)
  | _, _ => none
theorem sp_bw_ok : EOkL Try.prog n_slices_Backward_Found sp_bw := by
  intro args m v m' h
  unfold sp_bw at h
  split at h
  · rename_i a
    simp only [Option.bind_eq_some_iff] at h
    obtain ⟨l, hl, h⟩ := h
    cases h
    refine Loc.wk (wk_dec wk_nil hl) (Loc.ofX OOk.nil hm F_slices_Backward_Found_ok (by simp [F_slices_Backward_Found]) ?_)
    simp [F_slices_Backward_Found]
  · cases h
end Go.Av

namespace Go.Av
open Enc (enc dec)
open Cel (cs dc)
open Go.Proofs Pl

@[simp] theorem isObj_ref {k : Rk} {b : Nat} : isObj [.ref k b] = false := rfl
mutual
theorem clean_under (k j : Nat) : ∀ v : V, v.isClean = true → v.under k j = true
  | .val _, _ => rfl
  | .agg l, h => cleanL_under k j l h
  | .lit _ xs, h => cleanX_under k j xs h
  | .full _ xs, h => cleanX_under k j xs h
  | .emp _, _ => rfl
  | .row _ _ _, h => by simp [V.isClean] at h
  | .ptr _ _, h => by simp [V.isClean] at h
  | .yld _, h => by simp [V.isClean] at h
  | .ref _ _, h => by simp [V.isClean] at h
  | .eptr cs, h => cleanL_under k j cs h
  | .func _ cap, h => cleanL_under k j cap h
  | .iface _ v, h => clean_under k j v h
  | .tuple l, h => cleanL_under k j l h
theorem cleanL_under (k j : Nat) : ∀ l : List V, cleanL l = true → underL k j l = true
  | [], _ => rfl
  | v :: l, h => by
    simp only [cleanL, Bool.and_eq_true] at h
    simp only [underL, clean_under k j v h.1, cleanL_under k j l h.2]; rfl
theorem cleanX_under (k j : Nat) : ∀ l : List (List V), cleanX l = true → underX k j l = true
  | [], _ => rfl
  | e :: l, h => by
    simp only [cleanX, Bool.and_eq_true] at h
    simp only [underX, cleanL_under k j e h.1, cleanX_under k j l h.2]; rfl
end
theorem under_map {α : Type} [Cel α] (k j : Nat) (l : List α) : underX k j (l.map cs) = true := cleanX_under k j _ (clean_cs l)
def kvClean (kvs : List (Int × V)) : Prop := ∀ p ∈ kvs, p.2.isClean = true
theorem kvClean.under {kvs : List (Int × V)} (h : kvClean kvs) (k j : Nat) : underL k j (mpV kvs) = true := by
  have : ∀ kvs : List (Int × V), kvClean kvs → cleanL (kvs.map fun p => V.tuple [.val (.int .i64 p.1), p.2]) = true := by
    intro kvs
    induction kvs with
    | nil => intro _; rfl
    | cons p l ih =>
      intro h
      simp only [List.map_cons, cleanL, V.isClean, h p (List.mem_cons_self ..), ih fun q hq => h q (List.mem_cons_of_mem _ hq)]; rfl
  simp only [mpV, underL, V.under, cleanL_under k j _ (this kvs h)]; rfl
theorem kvClean.put {kvs : List (Int × V)} (h : kvClean kvs) (q : Int) {v : V} (hv : v.isClean = true) : kvClean (mpPut kvs q v) := by
  induction kvs with
  | nil => intro p hp; simp [mpPut] at hp; subst hp; exact hv
  | cons a l ih =>
    intro p hp
    rw [mpPut] at hp
    split at hp
    · rcases List.mem_cons.1 hp with rfl | hp
      · exact hv
      · exact h p (List.mem_cons_of_mem _ hp)
    · rcases List.mem_cons.1 hp with rfl | hp
      · exact h _ (List.mem_cons_self ..)
      · exact ih (fun q hq => h q (List.mem_cons_of_mem _ hq)) p hp
/-- The records by their numbers, as they are put. -/
def kvF (kvs : List (Int × V)) (acc : List (Nat × Fnd)) : List (Int × V) := acc.foldl (fun kv p => mpPut kv p.2.rcd.seq (enc p.2.rcd)) kvs
theorem kvF_clean : ∀ (acc : List (Nat × Fnd)) {kvs : List (Int × V)}, kvClean kvs → kvClean (kvF kvs acc)
  | [], _, h => h
  | p :: l, _, h => kvF_clean l (h.put _ (Enc.cl p.2.rcd))
/-- The first record of a number. -/
def lookF (l : List Fnd) (q : Int) : Option Rec := (l.find? fun f => f.rcd.seq == q).map (·.rcd)
theorem kvF_at (l : List Fnd) (q : Int) : ∀ (k : Nat) (kvs : List (Int × V)), k ≤ l.length → mpAt (kvF kvs (bwTo l k)) q = match lookF (l.take k) q with
    | some r => some (enc r)
    | none => mpAt kvs q
  | 0, kvs, _ => rfl
  | k + 1, kvs, h => by
    have hk : k < l.length := by omega
    rw [bwTo, List.getElem?_eq_getElem hk]
    show mpAt (kvF (mpPut kvs l[k].rcd.seq (enc l[k].rcd)) (bwTo l k)) q = _
    rw [kvF_at l q k _ (by omega)]
    have e : l.take (k + 1) = l.take k ++ [l[k]] := by rw [List.take_add_one, List.getElem?_eq_getElem hk]; rfl
    rw [e, lookF, lookF, List.find?_append]
    cases hf : (l.take k).find? fun f => f.rcd.seq == q with
    | some f => simp
    | none =>
      simp only [Option.map_none, Option.none_or, mpAt_put]
      by_cases hq : q = l[k].rcd.seq
      · simp [hq]
      · simp [hq, Ne.symm hq]
theorem kvF_look (l : List Fnd) (q : Int) : mpAt (kvF [] (bwTo l l.length)) q = (lookF l q).map enc := by
  rw [kvF_at l q l.length [] (Nat.le_refl _), List.take_length]
  cases lookF l q <;> rfl
/-- The parts' bytes. -/
def gather (look : Int → Option Rec) : Int → Nat → Option (List UInt8)
  | _, 0 => some []
  | q, k + 1 => (look q).bind fun p => if p.kind = 2 then (gather look (q + 1) k).map (p.body ++ ·) else none
/-- The snapshot that a record ends. -/
def fndOne (l : List Fnd) (f : Fnd) : Option (Sta × Int × Int) :=
  if f.rcd.kind = 3 ∧ takeE f.rcd.body 2 = 0 ∧ takeR f.rcd.body 2 = [] ∧ (takeV f.rcd.body 2 : Int) ≤ f.rcd.seq then
    (gather (lookF l) (f.rcd.seq - takeV f.rcd.body 2) (takeV f.rcd.body 2)).bind fun b => if rdE b = 0 then some (rdQ b, f.rcd.seq - takeV f.rcd.body 2, f.rcd.seq) else none
  else none
def fndS (l : List Fnd) : Option (Sta × Int × Int) := (bwTo l l.length).findSome? fun p => fndOne l p.2
def fndV (x : Option (Sta × Int × Int)) : V := match x with
  | some (q, a, b) => .tuple [enc q, enc a, enc b, enc (0 : Int)]
  | none => .tuple [enc Sta.zero, enc (0 : Int), enc (0 : Int), enc (120 : Int)]
def fndLen (l : List Fnd) : Prop := l.length ≤ 2 ^ 30 ∧ ∀ f ∈ l, f.rcd.body.length ≤ 2 ^ 20 ∧ f.rcd.seq < 2 ^ 63
@[simp] def sp_snapRead (b : List UInt8) : Option (V × List Tip) := if b.length ≤ 2 ^ 40 then some (.tuple [enc (rdQ b), enc (rdE b)], []) else none
theorem sp_snapRead_ok : EOk Try.prog n_snap_Read (sp1 sp_snapRead) := sp1_ok fun b r h => by
  simp only [sp_snapRead] at h
  split at h <;> cases h
  exact c_snap_Read b (by assumption)
def D39 : Orc := ((Orc.nil.add n_le_Take (sp2 sp_Take)).add n_snap_Read (sp1 sp_snapRead)).addL n_slices_Backward_Found sp_bw
theorem D39_ok : OOk Try.prog D39 := by
  refine ((OOk.nil.add (sp2_ok fun b w r h => ?_)).add sp_snapRead_ok).addL sp_bw_ok
  simp only [sp_Take] at h
  split at h <;> cases h
  exact c_le_Take b w (by assumption)
def fnd0 : List V := [.val (.int .i64 0), .val (.int .i64 0), .lit 5 [], .lit 3 [], .val (.int .i64 0), .lit 1 []]
def FndM1 (l : List Fnd) (acc : List (Nat × Fnd)) : Mem := ⟨[fnd0, [.val (.int .i64 0)], [.val (.int .i64 0)], [.val (.int .i64 0)], mpV (kvF [] acc), [.ref .map 4], [.lit 5 (l.map cs)], [St.ready.v], [St.ready.v]], []⟩
def FndM2 (l : List Fnd) (a b c d : List V) (st : St) : Mem := ⟨[a, b, c, d, mpV (kvF [] (bwTo l l.length)), [.ref .map 4], [.lit 5 (l.map cs)], [St.ready.v], [St.ready.v], [.lit 5 (l.map cs)], [St.ready.v], [st.v]], []⟩
def FndM3 (l : List Fnd) (y : Sta × Int × Int) : Mem := FndM2 l (cs y.1) [.val (.int .i64 y.2.1)] [.val (.int .i64 y.2.2)] [.val (.int .i64 0)] .ret
def FndI (l : List Fnd) (f : Fnd) (G : Option (List UInt8)) (k : Nat) (s : Nat → V) (m : Mem) : Prop :=
  ∃ (acc : List UInt8) (junk : List (List V)) (n0 : Nat), s 6 = .ptr 5 0 ∧ s 11 = .ptr 13 0 ∧ s 2 = .ptr 0 0 ∧ s 3 = .ptr 1 0 ∧ s 4 = .ptr 2 0 ∧ s 5 = .ptr 3 0 ∧ s 16 = .val (.int .i64 (f.rcd.seq - takeV f.rcd.body 2)) ∧
    s 17 = .val (.int .i64 (f.rcd.seq - k)) ∧ k ≤ takeV f.rcd.body 2 ∧ s 15 = .row 1 1 (acc.map cs) ∧ G = (gather (lookF l) (f.rcd.seq - k) k).map (acc ++ ·) ∧ acc.length ≤ (65536 - k) * 2 ^ 20 ∧
    m = ⟨fnd0 :: [.val (.int .i64 0)] :: [.val (.int .i64 0)] :: [.val (.int .i64 0)] :: mpV (kvF [] (bwTo l l.length)) :: [.ref .map 4] :: [.lit 5 (l.map cs)] :: [St.ready.v] :: [St.ready.v] :: [.lit 5 (l.map cs)] :: [St.ready.v] :: [St.busy.v] :: cs f :: cs f.rcd :: junk, [(5, 1, n0), (5, 1, acc.length)]⟩
theorem c_snap_Found (l : List Fnd) (hl : fndLen l) : Pure Try.prog n_snap_Found [enc l] (fndV (fndS l)) [] := by
  refine Pure.ofC D39_ok hm F_snap_Found_ok (by simp [F_snap_Found]) (by unfold fndV; split <;> simp [V.res, V.res1]) ?_
  have hl2 : l.length ≤ 2 ^ 40 := by have := hl.1; omega
  simp [F_snap_Found, D39, sp_bw]
  refine ⟨_, _, .tuple [], FndM1 l (bwTo l l.length), .ready, by simp, c_backward1 _ _ 6 l hl2 _ _ rfl ?run1, by simp [FndM1, loopAt], by simp, ?fin1⟩
  case run1 =>
    refine YRun.list bwArg (FndM1 l) (bwTo l l.length) ?_ ?_
    rotate_left
    · intro acc x r h
      rfl
    intro acc x r h
    refine Or.inr ⟨rfl, ?_⟩
    simp [roundW, putAll, St.of, St.cont, FndM1, loopAt, bwArg]
    refine .inr ⟨?_, ?_⟩
    · have h1 := (kvF_clean acc (kvs := []) (fun p hp => by cases hp)).put x.2.rcd.seq (Enc.cl x.2.rcd)
      rw [enc_rec] at h1
      have h2 := h1.under 9 0
      have h3 := under_map 9 0 l
      simp [underX, underL, V.under, fnd0, St.v, h2, h3]
    · simp [kvF, List.foldl_append]
  case fin1 =>
    rw [show St.ready.out = Exit.normal from rfl]
    simp [FndM1, sp_bw]
    have leaf : ∀ (ex : List (List V)) (tips : List Tip), CutM (FndM2 l fnd0 [.val (.int .i64 0)] [.val (.int .i64 0)] [.val (.int .i64 0)] .ready)
        ⟨fnd0 :: [.val (.int .i64 0)] :: [.val (.int .i64 0)] :: [.val (.int .i64 0)] :: mpV (kvF [] (bwTo l l.length)) :: [.ref .map 4] :: [.lit 5 (l.map cs)] :: [St.ready.v] :: [St.ready.v] :: [.lit 5 (l.map cs)] :: [St.ready.v] :: [St.ready.v] :: ex, tips⟩
        (FndM2 l fnd0 [.val (.int .i64 0)] [.val (.int .i64 0)] [.val (.int .i64 0)] .ready) := by
      intro ex tips
      refine .inr ⟨?_, ?_⟩
      · have h2 := (kvF_clean (bwTo l l.length) (kvs := []) (fun p hp => by cases hp)).under 12 0
        have h3 := under_map 12 0 l
        simp [FndM2, underX, underL, V.under, fnd0, St.v, h2, h3]
      · simp [FndM2]
    have leaf2 : ∀ (q : Sta) (a b : Int) (ex : List (List V)) (tips : List Tip), CutM (FndM2 l fnd0 [.val (.int .i64 0)] [.val (.int .i64 0)] [.val (.int .i64 0)] .ready)
        ⟨cs q :: [.val (.int .i64 a)] :: [.val (.int .i64 b)] :: [.val (.int .i64 0)] :: mpV (kvF [] (bwTo l l.length)) :: [.ref .map 4] :: [.lit 5 (l.map cs)] :: [St.ready.v] :: [St.ready.v] :: [.lit 5 (l.map cs)] :: [St.ready.v] :: [St.ret.v] :: ex, tips⟩
        (FndM3 l (q, a, b)) := by
      intro q a b ex tips
      refine .inr ⟨?_, ?_⟩
      · have h2 := (kvF_clean (bwTo l l.length) (kvs := []) (fun p hp => by cases hp)).under 12 0
        have h3 := under_map 12 0 l
        have h4 := under_map 12 0 q.map
        have h5 := under_map 12 0 q.pts
        have h6 := under_map 12 0 q.staged
        simp [FndM2, underX, underL, V.under, St.v, h2, h3, h4, h5, h6]
      · simp [FndM2, FndM3]
    refine ⟨_, _, .tuple [], _, (fndS l).elim St.ready fun _ => St.ret, by simp, c_backward1 _ _ 9 l hl2 _ _ rfl
      (YRun.find (K := BwK 9 l) bwArg (fun p => fndOne l p.2) (FndM2 l fnd0 [.val (.int .i64 0)] [.val (.int .i64 0)] [.val (.int .i64 0)] .ready) (FndM3 l) rfl (bwTo l l.length) ?hs), ?_, ?_, ?_⟩
    case hs =>
      intro x hx
      refine Or.inr ⟨rfl, ?_⟩
      obtain ⟨i, f⟩ := x
      have hf : f ∈ l := by
        have h1 : f ∈ (bwTo l l.length).map (·.2) := List.mem_map.2 ⟨(i, f), hx, rfl⟩
        rw [bwTo_snd l _ (Nat.le_refl _)] at h1
        simpa using h1
      obtain ⟨hb, hsq⟩ := hl.2 f hf
      have hb2 : f.rcd.body.length ≤ 1099511627776 := by omega
      have hn : takeV f.rcd.body 2 < 65536 := by
        unfold takeV
        split
        · exact leN_lt' f.rcd.body 2
        · decide
      have w1 := IntWalk.i64_in ((takeV f.rcd.body 2 : Nat) : Int) (by omega)
      by_cases hc : f.rcd.kind = 3 ∧ takeE f.rcd.body 2 = 0 ∧ takeR f.rcd.body 2 = [] ∧ (takeV f.rcd.body 2 : Int) ≤ f.rcd.seq
      · have hc' := hc
        obtain ⟨hk, hE, hR, hle⟩ := hc
        have w2 := IntWalk.i64_in (f.rcd.seq - ((takeV f.rcd.body 2 : Nat) : Int)) (by omega)
        have hle2 : ¬ f.rcd.seq < (takeV f.rcd.body 2 : Int) := by omega
        simp [roundW, putAll, St.of, FndM2, loopAt, bwArg, hb2, w1, w2, hk, hE, hR, hle, hle2]
        obtain ⟨G, hG⟩ : ∃ G, gather (lookF l) (f.rcd.seq - takeV f.rcd.body 2) (takeV f.rcd.body 2) = G := ⟨_, rfl⟩
        have hfo : fndOne l f = G.bind fun b => if rdE b = 0 then some (rdQ b, f.rcd.seq - takeV f.rcd.body 2, f.rcd.seq) else none := by rw [fndOne, if_pos hc', hG]
        rw [hfo]
        refine wp_loop (FndI l f G) (takeV f.rcd.body 2) (IW.of ⟨[], [], 0, by simp, by simp, by simp, by simp, by simp, by simp, by simp, by simp, Nat.le_refl _, by simp, by rw [hG]; cases G <;> rfl, by simp, by simp [hk]⟩) fun k s m ⟨acc, junk, n0, s6, s11, s2, s3, s4, s5, s16, s17, hkn, s15, hGG, hal, hm⟩ => ?_
        subst hm
        have jl : junk.length + 14 = 14 + junk.length := by omega
        cases k with
        | zero =>
          have hGa : G = some acc := by rw [hGG]; simp [gather]
          have hal2 : acc.length ≤ 1099511627776 := by omega
          by_cases hrd : rdE acc = 0
          · simp [F_snap_Found_L0, s6, s11, s2, s3, s4, s5, s16, s17, s15, hal2, hrd, hGa, St.of, St.cont, loopAt, fnd0]
            exact leaf2 _ _ _ _ _
          · simp [F_snap_Found_L0, s6, s11, s2, s3, s4, s5, s16, s17, s15, hal2, hrd, hGa, St.of, St.cont, loopAt]
            exact leaf _ _
        | succ k =>
          have hcast : ((k + 1 : Nat) : Int) = (k : Int) + 1 := by omega
          rw [hcast] at s17 hGG
          have w4 := IntWalk.i64_in (f.rcd.seq - ((k : Int) + 1) + 1) (by omega)
          have hq : f.rcd.seq - ((k : Int) + 1) < f.rcd.seq := by omega
          have hlook := kvF_look l (f.rcd.seq - ((k : Int) + 1))
          have hsub : f.rcd.seq - ((k : Int) + 1) + 1 = f.rcd.seq - k := by omega
          rw [gather, hsub] at hGG
          cases hlk : lookF l (f.rcd.seq - ((k : Int) + 1)) with
          | none =>
            rw [hlk] at hGG hlook
            simp only [Option.bind_none, Option.map_none] at hGG
            simp only [Option.map_none] at hlook
            simp [F_snap_Found_L0, s6, s11, s2, s3, s4, s5, s16, s17, s15, hlook, hq, hGG, St.of, St.cont, loopAt]
            exact leaf _ _
          | some p =>
            rw [hlk] at hGG hlook
            simp only [Option.map_some, enc_rec] at hlook
            simp only [Option.bind_some] at hGG
            by_cases hp : p.kind = 2
            · rw [if_pos hp] at hGG
              have hpb : p.body.length ≤ 2 ^ 20 := by
                unfold lookF at hlk
                rw [Option.map_eq_some_iff] at hlk
                obtain ⟨g, hg, rfl⟩ := hlk
                exact (hl.2 g (List.mem_of_find?_eq_some hg)).1
              have hal3 : acc.length + p.body.length ≤ 140737488355328 := by omega
              simp [F_snap_Found_L0, s6, s11, s2, s3, s4, s5, s16, s17, s15, hlook, hq, hp, w4, hal3]
              exact ⟨k, by omega, IW.of ⟨acc ++ p.body, _, n0, by simp [s6], by simp [s11], by simp [s2], by simp [s3], by simp [s4], by simp [s5], by simp [s16], by simp [hsub], by omega, by simp,
                by rw [hGG]; cases gather (lookF l) (f.rcd.seq - k) k <;> simp, by rw [List.length_append]; omega, by simp; rfl⟩⟩
            · rw [if_neg hp] at hGG
              simp only [Option.map_none] at hGG
              simp [F_snap_Found_L0, s6, s11, s2, s3, s4, s5, s16, s17, s15, hlook, hq, hp, hGG, St.of, St.cont, loopAt]
              exact leaf _ _
      · have hno : fndOne l f = none := by rw [fndOne, if_neg hc]
        simp [roundW, putAll, St.of, St.cont, FndM2, loopAt, bwArg, hno, hb2, w1]
        repeat' first | apply And.intro | intro _
        all_goals first
          | exact leaf _ _
          | exact absurd ⟨by assumption, by assumption, by assumption, by assumption⟩ hc
    · show (((fndS l).elim _ _ : Mem).boxes[_]?) = _
      cases fndS l <;> simp [loopAt, FndM2, FndM3]
    · cases fndS l <;> simp
    · show blockQ _ _ _ _ ((fndS l).elim _ _)
      cases hS : fndS l with
      | none =>
        simp [FndM2, St.out, fndV]
        exact ⟨⟨rfl, by decide⟩, rfl, rfl, rfl, rfl, rfl, rfl⟩
      | some y =>
        obtain ⟨q, a, b⟩ := y
        simp [FndM2, FndM3, St.out, fndV]
end Go.Av

namespace Go.Av
open Enc (enc dec)
open Cel (cs dc)
open Go.Proofs Pl

/-- Few extents, of few bytes. -/
def few7 (l : List Xt) : Bool := decide (l.length ≤ 70) && l.all fun x => decide (x.data.length ≤ 3000)
def few11 (q : Sta) : Bool := decide (q.pts.length ≤ 10) && decide (q.staged.length ≤ 6000) && few7 q.map && q.pts.all fun p => few7 p.map
def Few7I (l : List Xt) (k : Nat) (s : Nat → V) (m : Mem) : Prop :=
  ∃ i : Nat, i + k = l.length ∧ s 0 = .lit 5 (l.map cs) ∧ s 3 = .val (.int .i64 i) ∧ (l.take i).all (fun x => decide (x.data.length ≤ 3000)) = true
theorem c_few7 (l : List Xt) (hl : l.length ≤ 9223372036854775807) : Pure Try.prog n_w07_Few [enc l] (enc (few7 l)) [] := by
  refine Pure.ofC OOk.nil hm F_w07_Few_ok (by simp [F_w07_Few]) rfl ?_
  have w1 := IntWalk.i64_in (l.length : Int) (by omega)
  by_cases h : l.length ≤ 70
  · have h2 : ¬ (70 : Int) < l.length := by omega
    simp [F_w07_Few, w1, h2, few7, h]
    refine wp_loop (Few7I l) l.length (IW.of ⟨0, by omega, by simp, by simp, by simp⟩) fun k s m ⟨i, hik, s0, s3, ht⟩ => ?_
    by_cases hi : i < l.length
    · have w3 := IntWalk.i64_in ((i : Int) + 1) (by omega)
      have hsn : l.take (i + 1) = l.take i ++ [l[i]] := by rw [List.take_add_one, List.getElem?_eq_getElem hi]; rfl
      by_cases hd : l[i].data.length ≤ 3000
      · have hd2 : ¬ (3000 : Int) < l[i].data.length := by omega
        simp [F_w07_Few_L0, s0, s3, w1, hi, hd, hd2, w3]
        refine ⟨k - 1, by omega, IW.of ⟨i + 1, by omega, by simp [s0], by simp, ?_⟩⟩
        rw [hsn, List.all_append, ht]
        simp [hd]
      · have hd2 : (3000 : Int) < l[i].data.length := by omega
        simp [F_w07_Few_L0, s0, s3, w1, hi, hd, hd2]
        exact ⟨l[i], List.getElem_mem hi, by omega⟩
    · simp [F_w07_Few_L0, s0, s3, w1, hi]
      rw [List.take_of_length_le (by omega)] at ht
      simpa using ht
  · have h2 : (70 : Int) < l.length := by omega
    simp [F_w07_Few, w1, h2, few7, h]
@[simp] def sp_few7 (l : List Xt) : Option (V × List Tip) := if l.length ≤ 9223372036854775807 then some (enc (few7 l), []) else none
theorem sp_few7_ok : EOk Try.prog n_w07_Few (sp1 sp_few7) := sp1_ok fun l r h => by
  simp only [sp_few7] at h
  split at h <;> cases h
  exact c_few7 l (by assumption)
def D40 : Orc := Orc.nil.add n_w07_Few (sp1 sp_few7)
theorem D40_ok : OOk Try.prog D40 := OOk.nil.add sp_few7_ok
/-- What is always so of a state that was handed in. -/
def staBig (q : Sta) : Prop := q.map.length ≤ 9223372036854775807 ∧ q.pts.length ≤ 9223372036854775807 ∧ (∀ p ∈ q.pts, p.map.length ≤ 9223372036854775807) ∧ q.staged.length ≤ 9223372036854775807
def Few11I (q : Sta) (k : Nat) (s : Nat → V) (m : Mem) : Prop :=
  ∃ i : Nat, i + k = q.pts.length ∧ s 1 = .ptr 0 0 ∧ s 3 = .val (.int .i64 i) ∧ (q.pts.take i).all (fun p => few7 p.map) = true ∧ m = ⟨[cs q], []⟩
theorem c_few11 (q : Sta) (hq : staBig q) : Pure Try.prog n_w11_Few [enc q] (enc (few11 q)) [] := by
  refine Pure.ofC D40_ok hm F_w11_Few_ok (by simp [F_w11_Few]) rfl ?_
  obtain ⟨g1, g2, g3, g4⟩ := hq
  have g1' : q.map.length ≤ 9223372036854775807 := g1
  have w1 := IntWalk.i64_in (q.pts.length : Int) (by omega)
  have w2 := IntWalk.i64_in (q.staged.length : Int) (by omega)
  by_cases h1 : q.pts.length ≤ 10
  · have h1' : ¬ (10 : Int) < q.pts.length := by omega
    by_cases h2 : q.staged.length ≤ 6000
    · have h2' : ¬ (6000 : Int) < q.staged.length := by omega
      cases h3 : few7 q.map with
      | false => simp [F_w11_Few, D40, w1, w2, h1, h1', h2, h2', h3, g1', few11]
      | true =>
        simp [F_w11_Few, D40, w1, w2, h1, h1', h2, h2', h3, g1', few11]
        refine wp_loop (Few11I q) q.pts.length (IW.of ⟨0, by omega, by simp, by simp, by simp, by simp⟩) fun k s m ⟨i, hik, s1, s3, ht, hm⟩ => ?_
        subst hm
        by_cases hi : i < q.pts.length
        · have w3 := IntWalk.i64_in ((i : Int) + 1) (by omega)
          have hsn : q.pts.take (i + 1) = q.pts.take i ++ [q.pts[i]] := by rw [List.take_add_one, List.getElem?_eq_getElem hi]; rfl
          have g5 : q.pts[i].map.length ≤ 9223372036854775807 := g3 _ (List.getElem_mem hi)
          cases hd : few7 q.pts[i].map with
          | true =>
            simp [F_w11_Few_L0, D40, s1, s3, w1, hi, hd, w3, g5]
            refine ⟨k - 1, by omega, IW.of ⟨i + 1, by omega, by simp [s1], by simp, ?_, rfl⟩⟩
            rw [hsn, List.all_append, ht]
            simp [hd]
          | false =>
            simp [F_w11_Few_L0, D40, s1, s3, w1, hi, hd, g5]
            exact ⟨q.pts[i], List.getElem_mem hi, hd⟩
        · simp [F_w11_Few_L0, s1, s3, w1, hi]
          rw [List.take_of_length_le (by omega)] at ht
          simpa using ht
    · have h2' : (6000 : Int) < q.staged.length := by omega
      simp [F_w11_Few, D40, w1, w2, h1, h1', h2, h2', few11]
  · have h1' : (10 : Int) < q.pts.length := by omega
    simp [F_w11_Few, D40, w1, h1, h1', few11]
/-- Records, as they are found. -/
def foundL (l : List Rec) : List Fnd := l.map fun r => ⟨r, 0, 0⟩
def FoundI (l : List Rec) (k : Nat) (s : Nat → V) (m : Mem) : Prop :=
  ∃ (i t : Nat) (a : List Tip), i + k = l.length ∧ s 0 = .lit 3 (l.map cs) ∧ s 4 = .val (.int .i64 i) ∧ s 3 = .row t 5 ((foundL (l.take i)).map cs) ∧ m = ⟨[], a⟩ ∧ a[t]? = some (57, 5, i)
theorem c_found (l : List Rec) (hl : l.length ≤ 2 ^ 40) : Pure Try.prog n_w12_found [enc l] (.row 0 5 ((foundL l).map cs)) [(57, 5, (foundL l).length)] := by
  refine Pure.ofR OOk.nil hm F_w12_found_ok (by simp [F_w12_found]) (by simp [V.res, V.res1]) ?_
  have w1 := IntWalk.i64_in (l.length : Int) (by omega)
  simp [F_w12_found]
  refine wp_loop (FoundI l) l.length (IW.of ⟨0, 1, _, by omega, by simp, by simp, by simp [foundL], rfl, rfl⟩) fun k s m ⟨i, t, a, hik, s0, s4, s3, hm, ht⟩ => ?_
  subst hm
  by_cases hi : i < l.length
  · have w3 := IntWalk.i64_in ((i : Int) + 1) (by omega)
    have hsn : foundL (l.take (i + 1)) = foundL (l.take i) ++ [⟨l[i], 0, 0⟩] := by unfold foundL; rw [List.take_add_one, List.getElem?_eq_getElem hi, Option.toList_some, List.map_append]; rfl
    have hfl : (foundL (l.take i)).length = i := by simp [foundL]; omega
    simp [F_w12_found_L0, s0, s4, s3, w1, w3, hi, hfl, ht]
    exact ⟨by omega, k - 1, by omega, IW.of ⟨i + 1, t, _, by omega, by simp [s0], by simp, by rw [hsn]; simp, rfl, by simp [(List.getElem?_eq_some_iff.1 ht).1]⟩⟩
  · have hle : l.take i = l := List.take_of_length_le (by omega)
    rw [hle] at s3
    have e : i = (foundL l).length := by simp [foundL]; omega
    simp [F_w12_found_L0, s0, s4, s3, w1, hi]
    rw [← e]; exact ht
end Go.Av

namespace Go.Av
open Enc (enc dec)
open Cel (cs dc)
open Go.Proofs Pl

theorem unpackE_ww {b : List UInt8} (h : b.length = 8) : unpackE [119, 119] b = 0 := by
  match b, h with
  | a1 :: a2 :: a3 :: a4 :: a5 :: a6 :: a7 :: a8 :: [], _ => simp [unpackE, unpackS, sizeL, okT, mayB]
theorem unpackE_bwwbh {b : List UInt8} (h : b.length = 12) : unpackE [98, 119, 119, 98, 104] b = 0 := by
  match b, h with
  | a1 :: a2 :: a3 :: a4 :: a5 :: a6 :: a7 :: a8 :: a9 :: a10 :: a11 :: a12 :: [], _ => simp [unpackE, unpackS, sizeL, okT, mayB]
theorem unpack_h {b : List UInt8} (h : b.length = 2) : unpackN [104] b = [leN b] ∧ unpackE [104] b = 0 := by
  match b, h with
  | a1 :: a2 :: [], _ => simp [unpackN, unpackE, unpackS, sizeL, okT, mayB]
theorem numW_false {w : Bool} {l f : List UInt8} {n : Int} (h : numW w l f n = false) :
    w = false ∧ ¬ (l.length : Int) < n ∧ unpackE f (l.take n.toNat) = 0 ∧ numL w l f n = unpackN f (l.take n.toNat) ∧ numR w l n = l.drop n.toNat := by
  have h0 := h
  simp only [numW, Bool.or_eq_false_iff, decide_eq_false_iff_not, Decidable.not_not, ne_eq] at h
  obtain ⟨h1, h2⟩ := h
  have h3 := cut_ok h1
  have e : cutL w l n = l.take n.toNat := by rw [cutL, if_neg h3]
  rw [e] at h2
  have hr : numR w l n = l.drop n.toNat := by rw [numR, if_neg h3]
  simp only [not_or, Bool.not_eq_true] at h3
  exact ⟨h3.1, h3.2, h2, by rw [numL, if_neg (by simp [h0]), e], hr⟩
theorem num_fwd {x f : List UInt8} {n : Int} (r : List UInt8) (hx : (x.length : Int) = n) (hu : unpackE f x = 0) :
    numW false (x ++ r) f n = false ∧ numL false (x ++ r) f n = unpackN f x ∧ numR false (x ++ r) n = r := by
  subst hx
  have e : cutL false (x ++ r) x.length = x := by
    rw [cutL, if_neg (by simp; omega)]
    simp
  have hw : numW false (x ++ r) f x.length = false := by simp [numW, cutW, e, hu]; omega
  refine ⟨hw, by rw [numL, if_neg (by simp [hw]), e], ?_⟩
  rw [numR, if_neg (by simp; omega)]
  simp
theorem leN_leB_lt {v w : Nat} (h : v < 256 ^ w) : leN (leB v w) = v := by rw [leN_leB, Nat.mod_eq_of_lt h]
theorem mp_fwd {n : Int} {M : List Xt} (h : mapOk n M = true) (r : List UInt8) : mpW false (mapB M ++ r) = false ∧ mpL false (mapB M ++ r) = M ∧ mpR false (mapB M ++ r) = r := by
  obtain ⟨h1, h2, h3, h4⟩ := mapOk_wr h
  rw [h3] at h2
  have e : mapB M ++ r = leB (wrB M).length 2 ++ (wrB M ++ r) := by simp [mapB]
  rw [e]
  obtain ⟨u1, u2⟩ := unpack_h (leB_length (wrB M).length 2)
  obtain ⟨a1, a2, a3⟩ := num_fwd (n := 2) (wrB M ++ r) (by rw [leB_length]; rfl) u2
  have hN : mpN false (leB (wrB M).length 2 ++ (wrB M ++ r)) = (wrB M).length := by
    rw [mpN, a2, u1, List.headD_cons, leN_leB_lt (by omega)]
  have hT : mpT false (leB (wrB M).length 2 ++ (wrB M ++ r)) = wrB M := by
    rw [mpT, a1, a3, hN, cutL, if_neg (by simp; omega)]
    simp
  have hX := readX_some.2 ⟨h1, rfl⟩
  refine ⟨?_, by simp [mpL, hT, readL, hX], ?_⟩
  · simp [mpW, a1, a3, hN, hT, readE, hX, cutW]; omega
  · rw [mpR, a1, a3, hN, numR, if_neg (by simp; omega)]
    simp
theorem mp_bwd {w : Bool} {l : List UInt8} (h : mpW w l = false) : w = false ∧ l = mapB (mpL w l) ++ mpR w l := by
  simp only [mpW, Bool.or_eq_false_iff, decide_eq_false_iff_not, ne_eq, Decidable.not_not] at h
  obtain ⟨h1, h2⟩ := h
  have hw : numW w l [104] 2 = false := by
    cases hh : numW w l [104] 2 with
    | false => rfl
    | true => simp [cutW, hh] at h1
  have h3 := cut_ok h1
  obtain ⟨rfl, b2, b3, b4, b5⟩ := numW_false hw
  have l2 : (l.take (2 : Int).toNat).length = 2 := by
    have e : (2 : Int).toNat = 2 := rfl
    rw [e]; simp; omega
  have hN : mpN false l = leN (l.take (2 : Int).toNat) := by rw [mpN, b4, (unpack_h l2).1]; rfl
  have h4 := h3
  simp only [not_or, b5, Int.not_lt] at h4
  have hT : mpT false l = (l.drop (2 : Int).toNat).take (mpN false l) := by rw [mpT, cutL, if_neg h3, b5]; rfl
  have lT : (mpT false l).length = mpN false l := by rw [hT]; simp at h4 ⊢; omega
  have hX : ∃ M, readX (mpT false l) = some M := by
    cases hh : readX (mpT false l) with
    | some M => exact ⟨M, rfl⟩
    | none => simp [readE, hh] at h2
  obtain ⟨M, hM⟩ := hX
  have hM2 := (readX_some.1 hM).2
  have hL : mpL false l = M := by simp [mpL, readL, hM]
  have hR : mpR false l = (l.drop (2 : Int).toNat).drop (mpN false l) := by rw [mpR, numR, if_neg h3, b5]; rfl
  refine ⟨rfl, ?_⟩
  rw [hL, hR, mapB, hM2, lT, hN]
  have e2 := leB_leN (l.take (2 : Int).toNat)
  rw [l2] at e2
  rw [e2, ← hN, hT, List.append_assoc, List.take_append_drop, List.take_append_drop]
theorem rdPts_fwd {q : Sta} (hq : q.last ≤ 2147483647 ∧ q.gen ≤ 2147483647) : ∀ (P : List Pt) (r : List UInt8), (∀ p ∈ P, ptFine q p) → rdPts P.length false (P.flatMap ptB ++ r) = (P, false, r)
  | [], r, _ => rfl
  | p :: P, r, h => by
    obtain ⟨f1, f2, f3, f4, f5⟩ := h p (List.mem_cons_self ..)
    have e : (p :: P).flatMap ptB ++ r = (leB p.id.toNat 4 ++ leB p.gen.toNat 4) ++ (mapB p.map ++ (P.flatMap ptB ++ r)) := by simp [ptB]
    have l8 : (leB p.id.toNat 4 ++ leB p.gen.toNat 4).length = 8 := by simp [leB_length]
    obtain ⟨a1, a2, a3⟩ := num_fwd (n := 8) (mapB p.map ++ (P.flatMap ptB ++ r)) (by rw [l8]; rfl) (unpackE_ww l8)
    obtain ⟨m1, m2, m3⟩ := mp_fwd f1 (P.flatMap ptB ++ r)
    have ih := rdPts_fwd hq P r fun p hp => h p (List.mem_cons_of_mem _ hp)
    rw [e, List.length_cons, rdPts, if_neg (by simp)]
    simp only [a1, a2, a3, m1, m2, m3, ih, unpack_ww l8]
    have t1 : (leB p.id.toNat 4 ++ leB p.gen.toNat 4).take 4 = leB p.id.toNat 4 := List.take_left' (leB_length _ _)
    have t2 : (leB p.id.toNat 4 ++ leB p.gen.toNat 4).drop 4 = leB p.gen.toNat 4 := List.drop_left' (leB_length _ _)
    have t3 : (leB p.gen.toNat 4).take 4 = leB p.gen.toNat 4 := List.take_of_length_le (by simp [leB_length])
    rw [t1, t2, t3, leN_leB_lt (by omega), leN_leB_lt (by omega)]
    simp only [List.headD_cons, List.drop_one, List.tail_cons, List.drop_succ_cons, List.drop_zero]
    have i1 : ((p.id.toNat : Nat) : Int) = p.id := by omega
    have i2 : ((p.gen.toNat : Nat) : Int) = p.gen := by omega
    rw [i1, i2]
theorem rdPts_bwd : ∀ (k : Nat) (w : Bool) (l : List UInt8) (P : List Pt) (r : List UInt8), rdPts k w l = (P, false, r) → w = false ∧ P.length = k ∧ l = P.flatMap ptB ++ r
  | 0, w, l, P, r, h => by
    simp only [rdPts, Prod.mk.injEq] at h
    obtain ⟨rfl, rfl, rfl⟩ := h
    simp
  | k + 1, w, l, P, r, h => by
    rw [rdPts] at h
    split at h
    · rename_i hw
      simp only [Prod.mk.injEq] at h
      rw [hw] at h
      exact absurd h.2.1 (by decide)
    · rename_i hw
      simp only [Prod.mk.injEq] at h
      obtain ⟨h1, h2⟩ := h
      obtain ⟨i1, i2, i3⟩ := rdPts_bwd k _ _ _ _ (Prod.ext (rfl : (rdPts k (mpW (numW w l [119, 119] 8) (numR w l 8)) (mpR (numW w l [119, 119] 8) (numR w l 8))).1 = _) h2)
      obtain ⟨m1, m2⟩ := mp_bwd i1
      obtain ⟨rfl, b2, b3, b4, b5⟩ := numW_false m1
      have e8 : (8 : Int).toNat = 8 := rfl
      rw [e8] at b3 b4 b5
      have l8 : (l.take 8).length = 8 := by simp; omega
      subst h1
      refine ⟨rfl, by simp [i2], ?_⟩
      rw [List.flatMap_cons, List.append_assoc, ← i3, ptB, b4, unpack_ww l8]
      simp only [List.headD_cons, List.drop_succ_cons, List.drop_zero, Int.toNat_natCast]
      have t1 := leB_leN ((l.take 8).take 4)
      have t2 := leB_leN (((l.take 8).drop 4).take 4)
      have k1 : ((l.take 8).take 4).length = 4 := by simp; omega
      have k2 : (((l.take 8).drop 4).take 4).length = 4 := by simp; omega
      rw [k1] at t1
      rw [k2] at t2
      rw [t1, t2]
      have t3 : ((l.take 8).drop 4).take 4 = (l.take 8).drop 4 := List.take_of_length_le (by simp; omega)
      rw [t3, List.take_append_drop, List.append_assoc, ← m2, b5, List.take_append_drop]
theorem five {x1 x2 x3 x4 x5 : List UInt8} (h1 : x1.length = 1) (h2 : x2.length = 4) (h3 : x3.length = 4) (h4 : x4.length = 1) (h5 : x5.length = 2) :
    (x1 ++ (x2 ++ (x3 ++ (x4 ++ x5)))).take 1 = x1 ∧ ((x1 ++ (x2 ++ (x3 ++ (x4 ++ x5)))).drop 1).take 4 = x2 ∧ ((x1 ++ (x2 ++ (x3 ++ (x4 ++ x5)))).drop 5).take 4 = x3 ∧
      ((x1 ++ (x2 ++ (x3 ++ (x4 ++ x5)))).drop 9).take 1 = x4 ∧ ((x1 ++ (x2 ++ (x3 ++ (x4 ++ x5)))).drop 10).take 2 = x5 := by
  match x1, h1, x2, h2, x3, h3, x4, h4, x5, h5 with
  | [_], _, [_, _, _, _], _, [_, _, _, _], _, [_], _, [_, _], _ => exact ⟨rfl, rfl, rfl, rfl, rfl⟩
theorem five_bwd {b : List UInt8} (h : b.length = 12) : leB (leN (b.take 1)) 1 ++ (leB (leN ((b.drop 1).take 4)) 4 ++ (leB (leN ((b.drop 5).take 4)) 4 ++ (leB (leN ((b.drop 9).take 1)) 1 ++ leB (leN ((b.drop 10).take 2)) 2))) = b := by
  match b, h with
  | a1 :: a2 :: a3 :: a4 :: a5 :: a6 :: a7 :: a8 :: a9 :: a10 :: a11 :: a12 :: [], _ =>
    have e1 := leB_leN [a1]
    have e2 := leB_leN [a2, a3, a4, a5]
    have e3 := leB_leN [a6, a7, a8, a9]
    have e4 := leB_leN [a10]
    have e5 := leB_leN [a11, a12]
    show leB (leN [a1]) 1 ++ (leB (leN [a2, a3, a4, a5]) 4 ++ (leB (leN [a6, a7, a8, a9]) 4 ++ (leB (leN [a10]) 1 ++ leB (leN [a11, a12]) 2))) = _
    have e1 : leB (leN [a1]) 1 = [a1] := e1
    have e2 : leB (leN [a2, a3, a4, a5]) 4 = [a2, a3, a4, a5] := e2
    have e3 : leB (leN [a6, a7, a8, a9]) 4 = [a6, a7, a8, a9] := e3
    have e4 : leB (leN [a10]) 1 = [a10] := e4
    have e5 : leB (leN [a11, a12]) 2 = [a11, a12] := e5
    rw [e1, e2, e3, e4, e5]
    rfl
theorem rdS_fwd {q : Sta} (h : staOk q = true) (r : List UInt8) : rdS false (bodyS q ++ r) = (q, false, r) := by
  obtain ⟨f1, f2, f3, f4, f5, f6, f7, f8⟩ := staOk_fine h
  have hb := mapOk_le f1
  have l12 : (headB q).length = 12 := by simp [headB, leB_length]
  have e : bodyS q ++ r = headB q ++ (q.staged ++ (mapB q.map ++ (q.pts.flatMap ptB ++ r))) := by simp [bodyS]
  obtain ⟨a1, a2, a3⟩ := num_fwd (n := 12) (q.staged ++ (mapB q.map ++ (q.pts.flatMap ptB ++ r))) (by rw [l12]; rfl) (unpackE_bwwbh l12)
  obtain ⟨m1, m2, m3⟩ := mp_fwd f1 (q.pts.flatMap ptB ++ r)
  have ih := rdPts_fwd ⟨f6, f3⟩ q.pts r f8
  obtain ⟨v1, v2, v3, v4, v5⟩ := five (leB_length q.blocks.toNat 1) (leB_length q.gen.toNat 4) (leB_length q.last.toNat 4) (leB_length q.pts.length 1) (leB_length q.staged.length 2)
  have hN : unpackN [98, 119, 119, 98, 104] (headB q) = [q.blocks.toNat, q.gen.toNat, q.last.toNat, q.pts.length, q.staged.length] := by
    rw [unpack_bwwbh l12, headB, v1, v2, v3, v4, v5, leN_leB_lt (by omega), leN_leB_lt (by omega), leN_leB_lt (by omega), leN_leB_lt (by omega), leN_leB_lt (by omega)]
  have hc : cutL false (q.staged ++ (mapB q.map ++ (q.pts.flatMap ptB ++ r))) q.staged.length = q.staged := by
    rw [cutL, if_neg (by simp; omega)]
    simp
  have hc2 : numR false (q.staged ++ (mapB q.map ++ (q.pts.flatMap ptB ++ r))) q.staged.length = mapB q.map ++ (q.pts.flatMap ptB ++ r) := by
    rw [numR, if_neg (by simp; omega)]
    simp
  have hc3 : cutW false (q.staged ++ (mapB q.map ++ (q.pts.flatMap ptB ++ r))) q.staged.length = false := by simp [cutW]; omega
  rw [e, rdS]
  simp only [a1, a2, a3, hN, List.getD_cons_zero, List.getD_cons_succ, hc, hc2, hc3, m1, m2, m3, ih]
  have i1 : ((q.blocks.toNat : Nat) : Int) = q.blocks := by omega
  have i2 : ((q.gen.toNat : Nat) : Int) = q.gen := by omega
  have i3 : ((q.last.toNat : Nat) : Int) = q.last := by omega
  rw [i1, i2, i3]
theorem rdS_bwd {w : Bool} {l : List UInt8} {q : Sta} {r : List UInt8} (h : rdS w l = (q, false, r)) : w = false ∧ l = bodyS q ++ r := by
  simp only [rdS, Prod.mk.injEq] at h
  obtain ⟨h1, h2⟩ := h
  obtain ⟨i1, i2, i3⟩ := rdPts_bwd _ _ _ _ _ (Prod.ext (rfl : (rdPts _ _ _).1 = _) h2)
  obtain ⟨m1, m2⟩ := mp_bwd i1
  have c1 := cut_ok m1
  have hw : numW w l [98, 119, 119, 98, 104] 12 = false := by simpa using fun hh => c1 (.inl hh)
  obtain ⟨rfl, b2, b3, b4, b5⟩ := numW_false hw
  have e12 : (12 : Int).toNat = 12 := rfl
  rw [e12] at b3 b4 b5
  have l12 : (l.take 12).length = 12 := by simp; omega
  subst h1
  refine ⟨rfl, ?_⟩
  simp only [not_or, Int.not_lt] at c1
  rw [b5] at c1
  have hn4 := c1.2
  simp only [Int.ofNat_le] at hn4
  have hcl : cutL (numW false l [98, 119, 119, 98, 104] 12) (numR false l 12) ((numL false l [98, 119, 119, 98, 104] 12).getD 4 0) = (l.drop 12).take ((numL false l [98, 119, 119, 98, 104] 12).getD 4 0) := by
    rw [cutL, if_neg (by simp only [not_or, Int.not_lt]; rw [b5]; exact c1), b5]; rfl
  have hcr : numR (numW false l [98, 119, 119, 98, 104] 12) (numR false l 12) ((numL false l [98, 119, 119, 98, 104] 12).getD 4 0) = (l.drop 12).drop ((numL false l [98, 119, 119, 98, 104] 12).getD 4 0) := by
    rw [numR, if_neg (by simp only [not_or, Int.not_lt]; rw [b5]; exact c1), b5]; rfl
  have hlen : ((l.drop 12).take ((numL false l [98, 119, 119, 98, 104] 12).getD 4 0)).length = (numL false l [98, 119, 119, 98, 104] 12).getD 4 0 := by
    rw [List.length_take]; omega
  have h5 := five_bwd l12
  rw [hcr] at m2
  simp only [bodyS, headB, Int.toNat_natCast, i2, hcl, hlen, List.append_assoc]
  rw [← i3]
  simp only [hcr, ← m2]
  rw [List.take_append_drop]
  have hN : numL false l [98, 119, 119, 98, 104] 12 = _ := b4.trans (unpack_bwwbh l12)
  rw [hN]
  simp only [List.getD_cons_zero, List.getD_cons_succ]
  have h6 : l = l.take 12 ++ l.drop 12 := (List.take_append_drop 12 l).symm
  conv => lhs; rw [h6, ← h5]
  simp only [List.append_assoc]
/-- What is read was written; what was written is read. -/
theorem readS_some {b : List UInt8} {q : Sta} : readS b = some q ↔ staOk q = true ∧ snapB q = b := by
  constructor
  · intro h
    simp only [readS] at h
    split at h
    · cases h
    · rename_i hn
      simp only [not_or, Bool.not_eq_true, ne_eq, Decidable.not_not, Bool.not_eq_false] at hn
      obtain ⟨n1, n2, n3⟩ := hn
      cases h
      obtain ⟨w0, hl⟩ := rdS_bwd (Prod.ext (rfl : (rdS (decide (openE b ≠ 0)) (openT b)).1 = _) (Prod.ext n1 n2))
      refine ⟨n3, ?_⟩
      have ho : openOk b = true := by
        simp only [openE, decide_eq_false_iff_not, ne_eq, Decidable.not_not] at w0
        split at w0
        · assumption
        · exact absurd w0 (by decide)
      rw [snapB, if_pos n3]
      simp only [List.append_nil] at hl
      rw [← hl, openT, if_pos ho]
      simp only [openOk, Bool.and_eq_true, beq_iff_eq] at ho
      exact ho.2
  · rintro ⟨h, rfl⟩
    rw [snapB, if_pos h]
    have hs : (sealS (bodyS q)).length = (bodyS q).length + 4 := by simp [sealS, leB_length]
    have ht : (sealS (bodyS q)).take ((sealS (bodyS q)).length - 4) = bodyS q := by
      rw [hs, Nat.add_sub_cancel, sealS, List.take_left' rfl]
    have ho : openOk (sealS (bodyS q)) = true := by
      simp only [openOk, ht, beq_self_eq_true, Bool.and_true, decide_eq_true_eq]
      omega
    have hT : openT (sealS (bodyS q)) = bodyS q := by rw [openT, if_pos ho, ht]
    have hE : decide (openE (sealS (bodyS q)) ≠ 0) = false := by simp [openE, ho]
    have hr := rdS_fwd h []
    rw [List.append_nil] at hr
    simp only [readS, hE, hT, hr]
    simp [h]
/-- No beginning of a state's bytes is one. -/
theorem readS_take {q : Sta} (h : staOk q = true) {k : Nat} (hk : k < (snapB q).length) : readS ((snapB q).take k) = none := by
  cases hr : readS ((snapB q).take k) with
  | none => rfl
  | some x =>
    exfalso
    obtain ⟨hx, hb⟩ := readS_some.1 hr
    have e1 : snapB q = sealS (bodyS q) := by rw [snapB, if_pos h]
    have e2 : snapB x = sealS (bodyS x) := by rw [snapB, if_pos hx]
    rw [e1] at hk hb
    rw [e2] at hb
    have hs : (sealS (bodyS q)).length = (bodyS q).length + 4 := by simp [sealS, leB_length]
    have hsx : (sealS (bodyS x)).length = (bodyS x).length + 4 := by simp [sealS, leB_length]
    have hlen := congrArg List.length hb
    rw [hsx, List.length_take, hs] at hlen
    have hp : bodyS x = (bodyS q).take (bodyS x).length := by
      have h1 := congrArg (List.take (bodyS x).length) hb
      rw [sealS, List.take_left' rfl, List.take_take, sealS, List.take_append_of_le_length (by omega)] at h1
      rw [Nat.min_eq_left (by omega)] at h1
      exact h1
    have h1 := rdS_fwd h []
    have h2 := rdS_fwd hx ((bodyS q).drop (bodyS x).length)
    rw [List.append_nil] at h1
    have h3 : bodyS x ++ (bodyS q).drop (bodyS x).length = bodyS q := by
      conv => lhs; lhs; rw [hp]
      exact List.take_append_drop _ _
    rw [h3, h1] at h2
    simp only [Prod.mk.injEq] at h2
    have h4 := congrArg List.length h2.2.2
    rw [List.length_nil, List.length_drop] at h4
    omega
end Go.Av

namespace Go.Av
open Enc (enc dec)
open Cel (cs dc)
open Go.Proofs Pl

@[simp] def sp_stNew (n : Int) : Option (V × List Tip) := some (.tuple [enc (newS n), enc (newE n)], [])
theorem sp_stNew_ok : EOk Try.prog n_state_New (sp1 sp_stNew) := sp1_ok fun n r h => by cases h; exact c_st_New n
@[simp] def sp_snapRecs (q : Sta) (seq : Int) : Option (V × List Tip) := if q.map.length ≤ 2 ^ 30 ∧ q.pts.length ≤ 2 ^ 30 ∧ (∀ p ∈ q.pts, p.map.length ≤ 2 ^ 30) ∧ q.staged.length ≤ 2 ^ 30 then
  some (.tuple [.row 0 3 ((recsL q seq).map cs), enc (recsE q seq)], [(36, 3, (recsL q seq).length)]) else none
theorem sp_snapRecs_ok : EOk Try.prog n_snap_Records (sp2 sp_snapRecs) := sp2_ok fun q n r h => by
  simp only [sp_snapRecs] at h
  split at h <;> cases h
  exact c_snap_Records q n (by assumption)
@[simp] def sp_found (l : List Rec) : Option (V × List Tip) := if l.length ≤ 2 ^ 40 then some (.row 0 5 ((foundL l).map cs), [(57, 5, (foundL l).length)]) else none
theorem sp_found_ok : EOk Try.prog n_w12_found (sp1 sp_found) := sp1_ok fun l r h => by
  simp only [sp_found] at h
  split at h <;> cases h
  exact c_found l (by assumption)
@[simp] def sp_snapFound (l : List Fnd) : Option (V × List Tip) := if l.length ≤ 2 ^ 30 ∧ ∀ f ∈ l, f.rcd.body.length ≤ 2 ^ 20 ∧ f.rcd.seq < 2 ^ 63 then some (fndV (fndS l), []) else none
theorem sp_snapFound_ok : EOk Try.prog n_snap_Found (sp1 sp_snapFound) := sp1_ok fun l r h => by
  simp only [sp_snapFound] at h
  split at h <;> cases h
  exact c_snap_Found l (by assumption)
@[simp] def sp_stSame (a b : Sta) : Option (V × List Tip) := if a.map.length ≤ 2 ^ 30 ∧ a.pts.length ≤ 2 ^ 30 ∧ (∀ p ∈ a.pts, p.map.length ≤ 2 ^ 30) ∧ a.staged.length ≤ 2 ^ 30 then some (enc (decide (a = b)), []) else none
theorem sp_stSame_ok : EOk Try.prog n_r11_Same (sp2 sp_stSame) := sp2_ok fun a b r h => by
  simp only [sp_stSame] at h
  split at h <;> cases h
  exact c_r11_Same a b (by assumption)
def D41 : Orc := ((((((Orc.nil.add n_state_New (sp1 sp_stNew)).add n_snap_Write (sp1 sp_snapWrite)).add n_snap_Read (sp1 sp_snapRead)).add n_snap_Records (sp2 sp_snapRecs)).add n_w12_found (sp1 sp_found)).add n_snap_Found (sp1 sp_snapFound)).add n_r11_Same (sp2 sp_stSame)
theorem D41_ok : OOk Try.prog D41 := ((((((OOk.nil.add sp_stNew_ok).add sp_snapWrite_ok).add sp_snapRead_ok).add sp_snapRecs_ok).add sp_found_ok).add sp_snapFound_ok).add sp_stSame_ok

theorem readS_back {q : Sta} (h : staOk q = true) : rdQ (snapB q) = q ∧ rdE (snapB q) = 0 := by
  have := readS_some.2 ⟨h, rfl⟩
  simp [rdQ, rdE, this]
def s8 : Sta := ⟨8, 1, [⟨0, 8, 0, 0, []⟩], [], 0, []⟩
theorem newS_8 : newS 8 = s8 := by decide
theorem s8_ok : staOk s8 = true := by decide
theorem s8_len : (snapB s8).length = 26 := by
  rw [snapB, if_pos s8_ok]
  simp [sealS, bodyS, headB, mapB, wrB, wr1, hdX, leB_length, s8]
theorem chunks_nil (n : Nat) : chunks n [] = [] := rfl
theorem s8_parts : snapParts s8 = [snapB s8] := by
  have h := s8_len
  rw [snapParts, chunks_cons (by decide) (by intro e; rw [e] at h; cases h), List.take_of_length_le (by omega), List.drop_of_length_le (by omega), chunks_nil]
def s8r : List Rec := [⟨2, 5, snapB s8⟩, ⟨3, 6, [1, 0]⟩]
theorem s8_recs : recsL s8 5 = s8r ∧ recsE s8 5 = 0 := by
  have h : seqOk 5 = true := by decide
  rw [recsL, recsE, s8_parts, s8_ok, h]
  exact ⟨rfl, rfl⟩
theorem s8_found : fndS (foundL s8r) = some (s8, 5, 6) := by
  have e1 : fndOne (foundL s8r) ⟨⟨3, 6, [1, 0]⟩, 0, 0⟩ = some (s8, 5, 6) := by
    obtain ⟨h1, h2⟩ := readS_back s8_ok
    have ht : takeV [1, 0] 2 = 1 := by decide
    rw [fndOne, if_pos ⟨rfl, by decide, by decide, by decide⟩, ht]
    simp [gather, lookF, foundL, s8r, h1, h2]
  show (bwTo (foundL s8r) 2).findSome? _ = _
  show List.findSome? _ ((1, (⟨⟨3, 6, [1, 0]⟩, 0, 0⟩ : Fnd)) :: _) = _
  rw [List.findSome?_cons, e1]
@[simp] theorem fndV_some (q : Sta) (a b : Int) : fndV (some (q, a, b)) = .tuple [enc q, enc a, enc b, enc (0 : Int)] := rfl
@[simp] theorem fndV_none : fndV none = .tuple [enc Sta.zero, enc (0 : Int), enc (0 : Int), enc (120 : Int)] := rfl
theorem s8_lens : s8.map.length ≤ 1073741824 ∧ s8.pts.length ≤ 1073741824 ∧ (∀ p : Pt, p ∈ s8.pts → p.map.length ≤ 1073741824) ∧ s8.staged.length ≤ 1073741824 := ⟨by decide, by decide, by decide, by decide⟩
theorem s8_flens : (foundL s8r).length ≤ 1073741824 ∧ ∀ f : Fnd, f ∈ foundL s8r → f.rcd.body.length ≤ 1048576 ∧ f.rcd.seq < 9223372036854775808 := by
  have h := s8_len
  refine ⟨by decide, fun f hf => ?_⟩
  simp [foundL, s8r] at hf
  rcases hf with rfl | rfl
  · exact ⟨by simp; omega, by decide⟩
  · exact ⟨by decide, by decide⟩
set_option maxRecDepth 4000 in
theorem c_awake : Pure Try.prog n_w12_awake [] (.val (.bool true)) [] := by
  refine Pure.ofC D41_ok hm F_w12_awake_ok (by simp [F_w12_awake]) rfl ?_
  obtain ⟨h1, h2⟩ := readS_back s8_ok
  obtain ⟨h3, h4⟩ := s8_recs
  have h5 := s8_found
  have h6 := s8_len
  have h7 : staE s8 = 0 := by decide
  have h8 : staE Sta.zero = 110 := by decide
  have h8' : staE ⟨0, 0, [], [], 0, []⟩ = 110 := by decide
  have h9 : rdE [] = 120 := by
    have : readS [] = none := by
      cases hr : readS [] with
      | none => rfl
      | some q =>
        obtain ⟨k1, k2⟩ := readS_some.1 hr
        have := congrArg List.length k2
        rw [snapB, if_pos k1] at this
        simp [sealS, leB_length] at this
    simp [rdE, this]
  have h10 : fndS [] = none := rfl
  have k1 : s8r.length = 2 := rfl
  have k2 : s8r[0]? = some ⟨2, 5, snapB s8⟩ := rfl
  have k3 : s8r[1]? = some ⟨3, 6, [1, 0]⟩ := rfl
  simp [F_w12_awake, D41, newS_8, h1, h2, h3, h4, h5, h6, h7, h8, h8', h9, h10, s8_lens.1, s8_lens.2.1, eq_true s8_lens.2.2.1, s8_lens.2.2.2, s8_flens.1, eq_true s8_flens.2, k1, k2, k3]
  exact ⟨fun _ => ⟨fun _ => rfl, rfl⟩, rfl⟩
end Go.Av

namespace Go.Av
open Enc (enc dec)
open Cel (cs dc)
open Go.RowKit Go.ChangeShapes Go.WideShapes Go.Deep

/-- The old memory. -/
def oldI (w : World) (b _o : Nat) : Prop := b < w.heap.size
def oldM (w : World) : Mp := ⟨[], [], oldI w, fun _ => none⟩
/-- Cells of a type are those of a plain value that has a property. -/
def Opn (P : Program) (t : TypeId) {α : Type} (c : α → List V) (Wf : α → Prop) : Prop :=
  (∀ a, (c a).length = P.cellsOf t) ∧ ∀ {H : Type} (en : TypeId × Value → H) (w : World) (base : Nat) (spare : Nat → Bool) (held : Bool) (fuel : Nat) (cs : List Value) (x : DataW H × List MemPlace),
    DataW.trod en P w base spare held fuel t cs = some x → ∃ a : α, Wf a ∧ RepL (oldM w) w (c a) cs ∧ ∀ v ∈ cs, v.oneCell' = true
theorem block_lt {w : World} {a : Addr} {v : Value} (h : w.cell? a = some v) : a.block < w.heap.size ∧ a.spot = none := by
  unfold World.cell? at h
  split at h
  · rename_i c e f hh
    refine ⟨(Array.getElem?_eq_some_iff.1 hh).1, ?_⟩
    cases hs : a.spot with
    | none => rfl
    | some s => simp [hs] at h
  · cases h
theorem Opn.int {P : Program} {t : TypeId} (ht : P.underlying t = some (.int .i64)) (hc : P.cellsOf t = 1) : Opn P t (fun n : Int => [enc n]) fun n => (Lit.int .i64 n).wf = true := by
  refine ⟨fun _ => hc.symm, fun en w base spare held fuel cs x h => ?_⟩
  obtain ⟨n, rfl, _, hw⟩ := DataW.trod_int ht h
  exact ⟨n, hw, ⟨_, _, rfl, ⟨rfl, rfl⟩, rfl⟩, by simp [Value.oneCell']⟩
theorem Opn.u8 {P : Program} {t : TypeId} (ht : P.underlying t = some (.int .u8)) (hc : P.cellsOf t = 1) : Opn P t (fun b : UInt8 => Cel.cs b) fun _ => True := by
  refine ⟨fun _ => hc.symm, fun en w base spare held fuel cs x h => ?_⟩
  obtain ⟨n, rfl, _, hw⟩ := DataW.trod_int ht h
  have hw := bounds_u8 hw
  have e : ((UInt8.ofNat n.toNat).toNat : Int) = n := by
    rw [UInt8.toNat_ofNat']
    omega
  refine ⟨UInt8.ofNat n.toNat, trivial, ⟨_, _, rfl, ⟨?_, rfl⟩, rfl⟩, by simp [Value.oneCell']⟩
  rw [e]
theorem cellsRep {w : World} {base n : Nat} {a : Addr} {cs : List Value} {l : List V} (h : w.cells? base a n = some cs) (hr : RepL (oldM w) w l cs) (ho : ∀ v ∈ cs, v.oneCell' = true) : RepC (oldM w) w l a.block a.off ∧ (l = [] ∨ a.spot = none) := by
  obtain ⟨_, hlen, hget⟩ := World.cells?_some h
  have hll := hr.length
  refine ⟨RepC.of_get fun i v hi => ?_, ?_⟩
  · obtain ⟨x, hx, hrep⟩ := hr.get hi
    have hin : i < n := by
      have := (List.getElem?_eq_some_iff.1 hx).1
      omega
    have hc := hget i hin
    rw [hx] at hc
    have hb := block_lt hc
    have e : a.add i = ⟨a.block, a.off + i, none⟩ := by
      unfold Addr.add at hb ⊢
      split
      · rename_i h0
        rw [if_pos h0] at hb
        subst h0
        cases a
        simp at hb ⊢
        exact hb.2
      · rfl
    rw [e] at hc hb
    exact ⟨x, hb.1, hc, ho x (List.mem_of_getElem? hx), hrep⟩
  · cases l with
    | nil => exact .inl rfl
    | cons v l =>
      right
      obtain ⟨x, hx, _⟩ := hr.get (i := 0) (v := v) rfl
      have hin : 0 < n := by
        have := (List.getElem?_eq_some_iff.1 hx).1
        omega
      have hc := hget 0 hin
      rw [hx] at hc
      exact (block_lt (a := a) (by simpa [Addr.add] using hc)).2
theorem Opn.slice {P : Program} {t e : TypeId} {α : Type} [Cel α] {Wf : α → Prop} (ht : P.underlying t = some (.slice e)) (hc : P.cellsOf t = 1) (hz : 0 < Cel.sz α) (he : Opn P e (Cel.cs (α := α)) Wf) : Opn P t (fun l : List α => [enc l]) fun l => l.length ≤ maxLen ∧ ∀ a ∈ l, Wf a := by
  refine ⟨fun _ => hc.symm, fun en w base spare held fuel cs x h => ?_⟩
  rcases open_slice ht h with ⟨rfl, rfl⟩ | ⟨a, len, cap, m, n, D, Pl, rfl, hb, hl, hm, hmm, rfl, hx⟩
  · exact ⟨[], ⟨Nat.zero_le _, by simp⟩, ⟨_, _, rfl, .inl ⟨rfl, rfl⟩, rfl⟩, by simp [Value.oneCell']⟩
  · have hlm : len ≤ m := by rw [hmm]; split <;> omega
    have key : ∀ j, j ≤ len → ∃ l : List α, l.length = j ∧ (∀ b ∈ l, Wf b) ∧ RepX (oldM w) w (l.map Cel.cs) a.block (a.off + (len - j) * Cel.sz α) ∧ (l = [] ∨ len - j ≠ 0 ∨ a.spot = none) := by
      intro j
      induction j with
      | zero => intro _; exact ⟨[], rfl, by simp, trivial, .inl rfl⟩
      | succ j ih =>
        intro hj
        obtain ⟨l, h1, h2, h3, _⟩ := ih (by omega)
        obtain ⟨cs', h4, h5⟩ := hx (len - (j + 1)) (by omega)
        obtain ⟨b, h6, h7, h8⟩ := he.2 en w base spare held n cs' _ h5
        obtain ⟨h9, h10⟩ := cellsRep h4 h7 h8
        have eo : (a.add ((len - (j + 1)) * P.cellsOf e)).block = a.block ∧ (a.add ((len - (j + 1)) * P.cellsOf e)).off = a.off + (len - (j + 1)) * Cel.sz α := by
          rw [← he.1 b, Cel.len]
          unfold Addr.add
          split
          · rename_i h0; exact ⟨rfl, by rw [h0]; rfl⟩
          · exact ⟨rfl, rfl⟩
        rw [eo.1, eo.2] at h9
        refine ⟨b :: l, by simp [h1], ?_, ⟨h9, ?_⟩, ?_⟩
        · intro c hc
          rcases List.mem_cons.1 hc with rfl | hc
          · exact h6
          · exact h2 c hc
        · have e2 : a.off + (len - (j + 1)) * Cel.sz α + (Cel.cs b).length = a.off + (len - j) * Cel.sz α := by
            rw [Cel.len]
            have : len - j = (len - (j + 1)) + 1 := by omega
            rw [this, Nat.add_mul]
            omega
          rw [e2]
          exact h3
        · by_cases h0 : len - (j + 1) = 0
          · right; right
            rw [h0, Nat.zero_mul] at h10
            rcases h10 with h10 | h10
            · have := congrArg List.length h10
              rw [Cel.len] at this
              simp at this
              omega
            · simpa [Addr.add] using h10
          · exact .inr (.inl h0)
    obtain ⟨l, h1, h2, h3, h4⟩ := key len (Nat.le_refl _)
    refine ⟨l, ⟨by omega, h2⟩, ⟨_, _, rfl, .inr ⟨a, cap, by simp [h1], by simp; omega, ?_, ?_, ?_⟩, rfl⟩, by simp [Value.oneCell']⟩
    · rcases h4 with h4 | h4 | h4
      · left; simp [h4]
      · omega
      · exact .inr h4
    · intro c hc
      obtain ⟨b, _, rfl⟩ := List.mem_map.1 hc
      exact Cel.len b
    · simpa using h3
/-- A struct's fields, of a cell each. -/
theorem open_flat {P : Program} {t : TypeId} {fs : Array Field} {H : Type} {en : TypeId × Value → H} {w : World} {base : Nat} {spare : Nat → Bool} {held : Bool} {fuel : Nat} {cs : List Value} {x : DataW H × List MemPlace}
    (ht : P.underlying t = some (.struct fs)) (hof : ∀ (i : Nat) (f : Field), fs[i]? = some f → f.offset = i ∧ P.cellsOf f.type = 1) (hc : P.cellsOf t = fs.size) (h : DataW.trod en P w base spare held fuel t cs = some x) :
    cs.length = fs.size ∧ ∃ n, ∀ (i : Nat) (f : Field), fs[i]? = some f → ∃ v y, cs[i]? = some v ∧ DataW.trod en P w base spare held n f.type [v] = some y := by
  obtain ⟨xs, n, _, _, hl, hlen, hf⟩ := DataW.trod_struct ht h
  refine ⟨by rw [hl, hc], n, fun i f hi => ?_⟩
  have h1 := hf i f hi
  obtain ⟨h2, h3⟩ := hof i f hi
  have hi2 := (Array.getElem?_eq_some_iff.1 hi).1
  rw [h2, h3, List.getElem?_eq_getElem (by omega)] at h1
  have h4 : i < cs.length := by omega
  refine ⟨cs[i], xs[i], List.getElem?_eq_getElem h4, ?_⟩
  rw [← h1, List.drop_eq_getElem_cons h4]
  rfl
/-- A value of more cells than one. -/
theorem Opn.agg {P : Program} {t : TypeId} {α : Type} {c : α → List V} {Wf : α → Prop} (h : Opn P t c Wf) {H : Type} {en : TypeId × Value → H} {w : World} {base : Nat} {spare : Nat → Bool} {held : Bool} {v : Value} {d : DataW H} {ps : List MemPlace} {xs : Array Value} (hv : v = .agg xs) (hd : DataW.Trod en P w base spare held t v d ps) :
    ∃ a : α, Wf a ∧ Rep (oldM w) w (.agg (c a)) v := by
  obtain ⟨fuel, hd⟩ := hd
  subst hv
  obtain ⟨a, h1, h2, _⟩ := h.2 en w base spare held fuel _ _ hd
  exact ⟨a, h1, xs, rfl, h2⟩
/-- A value of one cell. -/
theorem Opn.one {P : Program} {t : TypeId} {α : Type} {e : α → V} {Wf : α → Prop} (h : Opn P t (fun a => [e a]) Wf) {H : Type} {en : TypeId × Value → H} {w : World} {base : Nat} {spare : Nat → Bool} {held : Bool} {v : Value} {d : DataW H} {ps : List MemPlace} (hv : v.oneCell' = true) (hd : DataW.Trod en P w base spare held t v d ps) :
    ∃ a : α, Wf a ∧ Rep (oldM w) w (e a) v := by
  obtain ⟨fuel, hd⟩ := hd
  have hc : v.cells.toList = [v] := by cases v <;> first | rfl | simp [Value.oneCell'] at hv
  rw [hc] at hd
  obtain ⟨a, h1, ⟨x, r, h2, h3, h4⟩, _⟩ := h.2 en w base spare held fuel _ _ hd
  cases h2
  exact ⟨a, h1, h3⟩
/-- Behind the call: the answer is plain, what was there reads as it did. -/
theorem post_of_below {H : Type} {en : TypeId × Value → H} {P : Program} {f : Func} {s : ChangeSpec} {apart fresh handsOn again : Bool} {W W' : World} {args : Array Value} {v : Value} {ds gs : List (DataW H)} {before pa pv : List MemPlace}
    (hW : DataW.Whole en P f.params.toList s.vars apart W args.toList ds gs before) (hb : Below W.heap.size W W')
    (hres : ∀ (b : Nat) (sp : Nat → Bool) (hd : Bool), DataW.TrodAll en P W' b sp hd f.resultTypes.toList (v.resultList f.resultTypes.size) (s.fn H (ds ++ gs)).results [])
    (hargs : ∀ sp : Nat → Bool, (∀ p ∈ before, sp p.block = true) → DataW.TrodAll en P W' 0 sp true f.params.toList args.toList (s.fn H (ds ++ gs)).args pa)
    (hvars : ∀ sp : Nat → Bool, (∀ p ∈ before, sp p.block = true) → DataW.TrodVars en P W' sp s.vars (s.fn H (ds ++ gs)).vars pv)
    (hps : before = pa ++ pv)
    (hok : ∀ (j : Nat) (t : TypeId) (r : Value), f.resultTypes[j]? = some t → (v.resultList f.resultTypes.size)[j]? = some r → Value.okWide P W' .any 0 t r) :
    s.post en P f apart fresh handsOn again W args v W' := by
  have hold : ∀ p ∈ before, (fun b => decide (b < W.heap.size)) p.block = true := fun p hp => by simpa using hW.lt p hp
  refine ⟨ds, gs, before, [], pa, pv, hW, hres _ _ _, hargs _ hold, hvars _ hold, World.keptBut_mono (fun p hp => ⟨hp, ?_⟩) (hb.frame (· ∈ before)), fun _ => ?_⟩
  · rw [hps, List.mem_append] at hp
    exact Or.inr hp
  · have hlt := hW.lt
    obtain ⟨_, _, _, _, _, hz, hn⟩ := hW
    refine ⟨hok, _, _, ([] ++ pa) ++ pv, ⟨[] ++ pa, pv, trodAll_append (hargs _ (fun _ _ => rfl)) (hres _ _ _), hvars _ (fun _ _ => rfl), rfl, ?_, ?_⟩, ?_⟩
    · intro b off hp
      have hp' : MemPlace.cell b off ∈ before := by rw [hps]; simpa using hp
      rw [hb.frozen (p := ⟨b, off, none⟩) (hlt _ hp')]
      exact hz b off hp'
    · intro ha
      have := hn ha
      rw [hps] at this
      simpa using this
    · intro p hp _
      rw [hps]
      simpa using hp
/-- What was handed in reads as it did. -/
theorem TrodAll_stays {H : Type} {en : TypeId × Value → H} {P : Program} {W W' : World} (hl : laidOutB P = true) {sp : Nat → Bool} (hb : Below W.heap.size W W') : ∀ {ts : List TypeId} {vs : List Value} {ds : List (DataW H)} {ps : List MemPlace},
    (∀ t ∈ ts, P.readableRec t = true ∧ t < P.types.size) → DataW.TrodAll en P W 0 (fun _ => true) true ts vs ds ps → (∀ x ∈ ps, x.block < W.heap.size) → (∀ x ∈ ps, sp x.block = true) → DataW.TrodAll en P W' 0 sp true ts vs ds ps
  | [], _, _, _, _, h, _, _ => by
    obtain ⟨rfl, rfl, rfl⟩ := trodAll_nil h
    exact trodAll_mk0
  | t :: ts, _, _, _, ht, h, hlt, hsp => by
    obtain ⟨v, vs1, d, ds1, a, b, rfl, rfl, rfl, h1, h2⟩ := trodAll_cons h
    obtain ⟨k1, k2⟩ := ht t (List.mem_cons_self ..)
    exact ⟨a, b, WideElems.Trod_stays hl k1 k2 h1 (fun x hx => hb.same (hlt x (List.mem_append_left _ hx))) (fun x hx => hsp x (List.mem_append_left _ hx)),
      TrodAll_stays hl hb (fun t ht' => ht t (List.mem_cons_of_mem _ ht')) h2 (fun x hx => hlt x (List.mem_append_right _ hx)) (fun x hx => hsp x (List.mem_append_right _ hx)), rfl⟩
end Go.Av

namespace Go.Av
open Enc (enc dec)
open Cel (cs dc)
open Go.Proofs Pl Go.ChangeShapes Go.WideShapes Go.RowKit

theorem Opn.weak {P : Program} {t : TypeId} {α : Type} {c : α → List V} {W W' : α → Prop} (h : Opn P t c W) (hw : ∀ a, W a → W' a) : Opn P t c W' :=
  ⟨h.1, fun en w base spare held fuel cs x hd => by
    obtain ⟨a, h1, h2⟩ := h.2 en w base spare held fuel cs x hd
    exact ⟨a, hw a h1, h2⟩⟩
theorem opn_int : Opn Try.prog 3 (fun n : Int => [enc n]) (fun n => (Lit.int .i64 n).wf = true) := Opn.int Try.underlying3 (by kernel_rfl)
theorem opn_u8 : Opn Try.prog 5 (fun b : UInt8 => cs b) (fun _ => True) := Opn.u8 Try.underlying5 (by kernel_rfl)
theorem opn_bytes : Opn Try.prog 34 (fun l : List UInt8 => [enc l]) (fun l => l.length ≤ maxLen ∧ ∀ b ∈ l, True) := Opn.slice Try.underlying34 (by kernel_rfl) (by decide) opn_u8
theorem opn_xt : Opn Try.prog 174 (fun x : Xt => cs x) (fun _ => True) := by
  refine ⟨fun _ => Eq.symm (by kernel_rfl), fun en w base spare held fuel c x h => ?_⟩
  obtain ⟨hl, n, hf⟩ := open_flat Try.underlying174 (by rintro (_ | _ | _ | _ | _ | i) f hi <;> simp at hi <;> subst hi <;> exact ⟨rfl, by kernel_rfl⟩) (by kernel_rfl) h
  obtain ⟨v0, y0, g0, t0⟩ := hf 0 _ rfl
  obtain ⟨v1, y1, g1, t1⟩ := hf 1 _ rfl
  obtain ⟨v2, y2, g2, t2⟩ := hf 2 _ rfl
  obtain ⟨v3, y3, g3, t3⟩ := hf 3 _ rfl
  obtain ⟨v4, y4, g4, t4⟩ := hf 4 _ rfl
  obtain rfl : c = [v0, v1, v2, v3, v4] := by
    match c, hl with
    | [a0, a1, a2, a3, a4], _ => simp at g0 g1 g2 g3 g4; simp [g0, g1, g2, g3, g4]
  obtain ⟨a0, _, r0, o0⟩ := opn_int.2 en w base spare held n _ _ t0
  obtain ⟨a1, _, r1, o1⟩ := opn_int.2 en w base spare held n _ _ t1
  obtain ⟨a2, _, r2, o2⟩ := opn_int.2 en w base spare held n _ _ t2
  obtain ⟨a3, _, r3, o3⟩ := opn_int.2 en w base spare held n _ _ t3
  obtain ⟨a4, _, r4, o4⟩ := opn_bytes.2 en w base spare held n _ _ t4
  refine ⟨⟨a0, a1, a2, a3, a4⟩, trivial, r0.append (r1.append (r2.append (r3.append r4))), ?_⟩
  intro v hv
  simp only [List.mem_cons, List.not_mem_nil, or_false] at hv
  rcases hv with rfl | rfl | rfl | rfl | rfl
  · exact o0 _ (by simp)
  · exact o1 _ (by simp)
  · exact o2 _ (by simp)
  · exact o3 _ (by simp)
  · exact o4 _ (by simp)
theorem opn_xts : Opn Try.prog 40 (fun l : List Xt => [enc l]) (fun l => l.length ≤ maxLen ∧ ∀ b ∈ l, True) := Opn.slice Try.underlying40 (by kernel_rfl) (by decide) opn_xt
theorem opn_pt : Opn Try.prog 110 (fun x : Pt => cs x) (fun p => p.map.length ≤ maxLen) := by
  refine ⟨fun _ => Eq.symm (by kernel_rfl), fun en w base spare held fuel c x h => ?_⟩
  obtain ⟨hl, n, hf⟩ := open_flat Try.underlying110 (by rintro (_ | _ | _ | i) f hi <;> simp at hi <;> subst hi <;> exact ⟨rfl, by kernel_rfl⟩) (by kernel_rfl) h
  obtain ⟨v0, y0, g0, t0⟩ := hf 0 _ rfl
  obtain ⟨v1, y1, g1, t1⟩ := hf 1 _ rfl
  obtain ⟨v2, y2, g2, t2⟩ := hf 2 _ rfl
  obtain rfl : c = [v0, v1, v2] := by
    match c, hl with
    | [a0, a1, a2], _ => simp at g0 g1 g2; simp [g0, g1, g2]
  obtain ⟨a0, _, r0, o0⟩ := opn_int.2 en w base spare held n _ _ t0
  obtain ⟨a1, _, r1, o1⟩ := opn_int.2 en w base spare held n _ _ t1
  obtain ⟨a2, m2, r2, o2⟩ := opn_xts.2 en w base spare held n _ _ t2
  refine ⟨⟨a0, a1, a2⟩, m2.1, r0.append (r1.append r2), ?_⟩
  intro v hv
  simp only [List.mem_cons, List.not_mem_nil, or_false] at hv
  rcases hv with rfl | rfl | rfl
  · exact o0 _ (by simp)
  · exact o1 _ (by simp)
  · exact o2 _ (by simp)
theorem opn_pts : Opn Try.prog 41 (fun l : List Pt => [enc l]) (fun l => l.length ≤ maxLen ∧ ∀ p ∈ l, p.map.length ≤ maxLen) := Opn.slice Try.underlying41 (by kernel_rfl) (by decide) opn_pt
theorem opn_sta : Opn Try.prog 43 (fun x : Sta => cs x) staBig := by
  refine ⟨fun _ => Eq.symm (by kernel_rfl), fun en w base spare held fuel c x h => ?_⟩
  obtain ⟨hl, n, hf⟩ := open_flat Try.underlying43 (by rintro (_ | _ | _ | _ | _ | _ | i) f hi <;> simp at hi <;> subst hi <;> exact ⟨rfl, by kernel_rfl⟩) (by kernel_rfl) h
  obtain ⟨v0, y0, g0, t0⟩ := hf 0 _ rfl
  obtain ⟨v1, y1, g1, t1⟩ := hf 1 _ rfl
  obtain ⟨v2, y2, g2, t2⟩ := hf 2 _ rfl
  obtain ⟨v3, y3, g3, t3⟩ := hf 3 _ rfl
  obtain ⟨v4, y4, g4, t4⟩ := hf 4 _ rfl
  obtain ⟨v5, y5, g5, t5⟩ := hf 5 _ rfl
  obtain rfl : c = [v0, v1, v2, v3, v4, v5] := by
    match c, hl with
    | [a0, a1, a2, a3, a4, a5], _ => simp at g0 g1 g2 g3 g4 g5; simp [g0, g1, g2, g3, g4, g5]
  obtain ⟨a0, _, r0, o0⟩ := opn_int.2 en w base spare held n _ _ t0
  obtain ⟨a1, _, r1, o1⟩ := opn_int.2 en w base spare held n _ _ t1
  obtain ⟨a2, m2, r2, o2⟩ := opn_xts.2 en w base spare held n _ _ t2
  obtain ⟨a3, m3, r3, o3⟩ := opn_pts.2 en w base spare held n _ _ t3
  obtain ⟨a4, _, r4, o4⟩ := opn_int.2 en w base spare held n _ _ t4
  obtain ⟨a5, m5, r5, o5⟩ := opn_bytes.2 en w base spare held n _ _ t5
  refine ⟨⟨a0, a1, a2, a3, a4, a5⟩, ⟨m2.1, m3.1, m3.2, m5.1⟩, r0.append (r1.append (r2.append (r3.append (r4.append r5)))), ?_⟩
  intro v hv
  simp only [List.mem_cons, List.not_mem_nil, or_false] at hv
  rcases hv with rfl | rfl | rfl | rfl | rfl | rfl
  · exact o0 _ (by simp)
  · exact o1 _ (by simp)
  · exact o2 _ (by simp)
  · exact o3 _ (by simp)
  · exact o4 _ (by simp)
  · exact o5 _ (by simp)
theorem opn_stas : Opn Try.prog 63 (fun l : List Sta => [enc l]) (fun l => l.length ≤ maxLen ∧ ∀ q ∈ l, staBig q) := Opn.slice Try.underlying63 (by kernel_rfl) (by decide) opn_sta
/-- A function of a plain answer, run. -/
theorem Pure.run {P : Program} {f : FuncId} {args : List V} {r : Value} {w : World} {vals : Array Value} (h : Pure P f args (.val r) []) (hr : RepL (oldM w) w args vals.toList) :
    Calls P f vals w fun e w' => e = .returned r ∧ Below w.heap.size w w' := by
  refine (h.2.2 (oldI w) w vals (fun b o hb => hb) hr).mono fun e w' ⟨x, M', he, hg, hx⟩ => ?_
  obtain ⟨rfl, _⟩ := hx
  exact ⟨he, hg.below⟩
end Go.Av

namespace Go.Av
open Go.Proofs

@[simp] abbrev n_w13_SpaceHolds : FuncId := 3
def F_w13_SpaceHolds_L0 : C := (.seq (.seq (.ops [⟨(some 30), none, (.mov (.t 10))⟩, ⟨(some 31), none, (.mov (.t 0))⟩, ⟨(some 32), none, (.len (.t 31))⟩, ⟨(some 33), none, (.bin .lss (.t 30) (.t 32))⟩]) (.cond (.t 33) .skip (.exit 0))) (.seq (.block 1 (.seq (.ops [⟨(some 36), none, (.mov (.t 0))⟩, ⟨(some 37), none, (.mov (.t 10))⟩, ⟨(some 38), none, (.ixs (.t 36) (.t 37) 1)⟩, ⟨(some 39), none, (.lde (.t 38) none)⟩, ⟨(some 40), none, (.conv .i64 (.t 39))⟩, ⟨(some 41), none, (.bin .rem (.t 40) (.c (.int .i64 4097)))⟩, ⟨(some 11), none, (.mov (.t 41))⟩]) (.seq (.dops false [] [⟨(some 43), none, (.ld (.t 7) (some 5))⟩, ⟨(some 44), none, (.mov (.t 10))⟩, ⟨(some 45), none, (.mov (.t 11))⟩, ⟨(some 46), none, (.mks (.t 45) (.t 45) 5 1 1 [(.val (.int .u8 0))] false)⟩, ⟨(some 47), none, (.bld [(.val (.int .i64 0)), (.val (.int .i64 0)), (.lit 1 [])] [(0, (1, (.c (.int .i64 1)))), (1, (1, (.t 44))), (2, (1, (.t 46)))])⟩, ⟨(some 48), none, (.mkl 36 3 [(.t 47)] false)⟩, ⟨(some 49), none, (.callq 19 [(.t 43), (.t 48)])⟩, ⟨(some 42), none, (.mov (.t 49))⟩, ⟨(some 50), none, (.ext (.t 42) 0)⟩, ⟨(some 51), none, (.ext (.t 42) 1)⟩, ⟨(some 52), none, (.ext (.t 42) 2)⟩, ⟨(some 12), none, (.alc [(.val (.int .i64 0)), (.lit 4 []), (.val (.int .i64 0)), (.val (.bool false)), (.val (.int .i64 0))])⟩, ⟨none, none, (.st (.t 12) 5 (.t 50))⟩, ⟨(some 13), none, (.mov (.t 51))⟩, ⟨(some 14), none, (.mov (.t 52))⟩]) (.seq (.seq (.ops [⟨(some 53), none, (.mov (.t 14))⟩, ⟨(some 54), none, (.bin .neq (.t 53) (.c (.int .i64 0)))⟩]) (.cond (.t 54) (.seq (.ops [⟨(some 4), none, (.mov (.c (.bool false)))⟩]) .ret) .skip)) (.seq (.ops [⟨(some 55), none, (.mov (.t 9))⟩, ⟨(some 56), none, (.mov (.t 11))⟩, ⟨(some 57), none, (.bin .add (.t 55) (.t 56))⟩, ⟨(some 58), none, (.bin .add (.t 57) (.c (.int .i64 20)))⟩, ⟨(some 9), none, (.mov (.t 58))⟩]) (.ops [⟨(some 59), none, (.ld (.t 12) (some 5))⟩, ⟨none, none, (.st (.t 7) 5 (.t 59))⟩])))))) (.ops [⟨(some 34), none, (.mov (.t 10))⟩, ⟨(some 35), none, (.bin .add (.t 34) (.c (.int .i64 1)))⟩, ⟨(some 10), none, (.mov (.t 35))⟩])))
def F_w13_SpaceHolds : F := ⟨(.seq (.ops [⟨(some 4), none, (.mov (.c (.bool false)))⟩]) (.seq (.ops [⟨(some 16), none, (.call 17 [])⟩, ⟨(some 5), none, (.mov (.t 16))⟩]) (.seq (.seq (.ops [⟨(some 17), none, (.mov (.t 0))⟩, ⟨(some 18), none, (.len (.t 17))⟩, ⟨(some 19), none, (.bin .gtr (.t 18) (.c (.int .i64 60)))⟩]) (.cond (.t 19) (.seq (.ops [⟨(some 20), none, (.mov (.t 5))⟩, ⟨(some 4), none, (.mov (.t 20))⟩]) .ret) .skip)) (.seq (.ops [⟨(some 21), none, (.mov (.t 1))⟩, ⟨(some 22), none, (.conv .i64 (.t 21))⟩, ⟨(some 23), none, (.bin .rem (.t 22) (.c (.int .i64 8000)))⟩, ⟨(some 24), none, (.bin .add (.c (.int .i64 8192)) (.t 23))⟩, ⟨(some 6), none, (.mov (.t 24))⟩]) (.seq (.ops [⟨(some 26), none, (.mov (.t 6))⟩, ⟨(some 27), none, (.call 18 [(.c (.int .i64 60)), (.t 26)])⟩, ⟨(some 25), none, (.mov (.t 27))⟩, ⟨(some 28), none, (.ext (.t 25) 0)⟩, ⟨(some 29), none, (.ext (.t 25) 1)⟩, ⟨(some 7), none, (.alc [(.val (.int .i64 0)), (.lit 4 []), (.val (.int .i64 0)), (.val (.bool false)), (.val (.int .i64 0))])⟩, ⟨none, none, (.st (.t 7) 5 (.t 28))⟩, ⟨(some 8), none, (.mov (.t 29))⟩]) (.seq (.ops [⟨(some 9), none, (.mov (.c (.int .i64 0)))⟩]) (.seq (.seq (.ops [⟨(some 10), none, (.mov (.c (.int .i64 0)))⟩]) (.block 0 (.loop F_w13_SpaceHolds_L0))) (.seq (.ops [⟨(some 60), none, (.ld (.t 7) (some 5))⟩, ⟨(some 61), none, (.call 20 [(.t 60)])⟩, ⟨(some 62), none, (.bin .sub (.c (.int .i64 60)) (.t 61))⟩, ⟨(some 15), none, (.mov (.t 62))⟩]) (.seq (.ops [⟨(some 63), none, (.mov (.t 5))⟩, ⟨(some 64), none, (.mov (.t 63))⟩, ⟨(some 65), (some (64, true)), (.mov (.t 8))⟩, ⟨(some 66), (some (64, true)), (.bin .eql (.t 65) (.c (.int .i64 0)))⟩, ⟨(some 67), none, (.pick (.t 64) (.t 66) (.c (.bool false)))⟩, ⟨(some 68), none, (.mov (.t 67))⟩, ⟨(some 69), (some (68, true)), (.mov (.t 0))⟩, ⟨(some 70), (some (68, true)), (.len (.t 69))⟩, ⟨(some 71), (some (68, true)), (.bin .eql (.t 70) (.c (.int .i64 0)))⟩, ⟨(some 72), (some (68, true)), (.mov (.t 71))⟩, ⟨(some 73), (some (72, true)), (.mov (.t 15))⟩, ⟨(some 74), (some (72, true)), (.bin .eql (.t 73) (.c (.int .i64 0)))⟩, ⟨(some 75), (some (68, true)), (.pick (.t 72) (.t 74) (.c (.bool false)))⟩, ⟨(some 76), (some (68, true)), (.mov (.t 75))⟩, ⟨(some 77), (some (76, false)), (.mov (.t 15))⟩, ⟨(some 78), (some (76, false)), (.mov (.t 9))⟩, ⟨(some 79), (some (76, false)), (.mov (.t 6))⟩, ⟨(some 80), (some (76, false)), (.call 21 [(.t 78), (.t 79)])⟩, ⟨(some 81), (some (76, false)), (.bin .leq (.t 77) (.t 80))⟩, ⟨(some 82), (some (68, true)), (.pick (.t 76) (.c (.bool true)) (.t 81))⟩, ⟨(some 83), none, (.pick (.t 68) (.t 82) (.c (.bool false)))⟩, ⟨(some 4), none, (.mov (.t 83))⟩]) .ret))))))))), 84, [(.tmp 4)]⟩
theorem F_w13_SpaceHolds_ok : compF Try.prog (fun d => [].contains d || decide (1048576 ≤ d)) 3 = some F_w13_SpaceHolds := by kernel_rfl
@[simp] abbrev n_w13_awake : FuncId := 17
def F_w13_awake : F := ⟨(.seq (.ops [⟨(some 0), none, (.mov (.c (.bool false)))⟩]) (.seq (.ops [⟨(some 4), none, (.call 38 [(.c (.int .i64 64))])⟩, ⟨(some 3), none, (.mov (.t 4))⟩, ⟨(some 5), none, (.ext (.t 3) 0)⟩, ⟨(some 6), none, (.ext (.t 3) 1)⟩, ⟨(some 1), none, (.mov (.t 5))⟩, ⟨(some 2), none, (.mov (.t 6))⟩]) (.seq (.ops [⟨(some 7), none, (.call 21 [(.c (.int .i64 10000)), (.c (.int .i64 8192))])⟩, ⟨(some 8), none, (.bin .eql (.t 7) (.c (.int .i64 3)))⟩, ⟨(some 9), none, (.mov (.t 8))⟩, ⟨(some 10), (some (9, true)), (.call 21 [(.c (.int .i64 5)), (.c (.int .i64 8191))])⟩, ⟨(some 11), (some (9, true)), (.bin .eql (.t 10) (.c (.int .i64 0)))⟩, ⟨(some 12), none, (.pick (.t 9) (.t 11) (.c (.bool false)))⟩, ⟨(some 13), none, (.mov (.t 12))⟩, ⟨(some 14), (some (13, true)), (.call 41 [(.c (.int .i64 64))])⟩, ⟨(some 15), (some (13, true)), (.bin .eql (.t 14) (.c (.int .i64 2526)))⟩, ⟨(some 16), none, (.pick (.t 13) (.t 15) (.c (.bool false)))⟩, ⟨(some 17), none, (.mov (.t 16))⟩, ⟨(some 18), (some (17, true)), (.call 41 [(.c (.int .i64 0))])⟩, ⟨(some 19), (some (17, true)), (.bin .eql (.t 18) (.c (.int .i64 0)))⟩, ⟨(some 20), none, (.pick (.t 17) (.t 19) (.c (.bool false)))⟩, ⟨(some 21), none, (.mov (.t 20))⟩, ⟨(some 22), (some (21, true)), (.mov (.t 1))⟩, ⟨(some 23), (some (21, true)), (.bin .eql (.t 22) (.c (.int .i64 16665)))⟩, ⟨(some 24), none, (.pick (.t 21) (.t 23) (.c (.bool false)))⟩, ⟨(some 25), none, (.mov (.t 24))⟩, ⟨(some 26), (some (25, true)), (.mov (.t 2))⟩, ⟨(some 27), (some (25, true)), (.bin .eql (.t 26) (.c (.int .i64 6)))⟩, ⟨(some 28), none, (.pick (.t 25) (.t 27) (.c (.bool false)))⟩, ⟨(some 29), none, (.mov (.t 28))⟩, ⟨(some 30), (some (29, true)), (.call 57 [(.c (.int .i64 64)), (.c (.int .i64 8192))])⟩, ⟨(some 31), (some (29, true)), (.bin .eql (.t 30) (.c (.int .i64 15)))⟩, ⟨(some 32), none, (.pick (.t 29) (.t 31) (.c (.bool false)))⟩, ⟨(some 33), none, (.mov (.t 32))⟩, ⟨(some 34), (some (33, true)), (.call 58 [(.c (.int .i64 64)), (.c (.int .i64 8192))])⟩, ⟨(some 35), (some (33, true)), (.bin .eql (.t 34) (.c (.int .i64 6)))⟩, ⟨(some 36), none, (.pick (.t 33) (.t 35) (.c (.bool false)))⟩, ⟨(some 37), none, (.mov (.t 36))⟩, ⟨(some 38), (some (37, true)), (.call 59 [(.c (.int .i64 15)), (.c (.int .i64 8192)), (.c (.int .i64 64))])⟩, ⟨(some 39), (some (37, true)), (.bin .eql (.t 38) (.c (.int .i64 0)))⟩, ⟨(some 40), none, (.pick (.t 37) (.t 39) (.c (.bool false)))⟩, ⟨(some 41), none, (.mov (.t 40))⟩, ⟨(some 42), (some (41, true)), (.call 59 [(.c (.int .i64 14)), (.c (.int .i64 8192)), (.c (.int .i64 64))])⟩, ⟨(some 43), (some (41, true)), (.bin .eql (.t 42) (.c (.int .i64 130)))⟩, ⟨(some 44), none, (.pick (.t 41) (.t 43) (.c (.bool false)))⟩, ⟨(some 45), none, (.mov (.t 44))⟩, ⟨(some 46), (some (45, true)), (.call 60 [(.c (.int .i64 15)), (.c (.int .i64 64))])⟩, ⟨(some 47), (some (45, true)), (.bin .eql (.t 46) (.c (.int .i64 49)))⟩, ⟨(some 48), none, (.pick (.t 45) (.t 47) (.c (.bool false)))⟩, ⟨(some 49), none, (.mov (.t 48))⟩, ⟨(some 50), none, (.pick (.t 49) (.c (.bool true)) (.c (.bool false)))⟩, ⟨(some 51), none, (.mov (.t 50))⟩, ⟨(some 52), none, (.pick (.t 51) (.c (.bool true)) (.c (.bool false)))⟩, ⟨(some 0), none, (.mov (.t 52))⟩]) .ret))), 53, [(.tmp 0)]⟩
theorem F_w13_awake_ok : compF Try.prog (fun _ => true) 17 = some F_w13_awake := by kernel_rfl
@[simp] abbrev n_dev_New : FuncId := 18
def F_dev_New : F := ⟨(.seq (.ops [⟨(some 4), none, (.alc [(.val (.int .i64 0)), (.lit 4 []), (.val (.int .i64 0)), (.val (.bool false)), (.val (.int .i64 0))])⟩, ⟨(some 5), none, (.mov (.c (.int .i64 0)))⟩]) (.seq (.seq (.ops [⟨(some 6), none, (.mov (.t 0))⟩, ⟨(some 7), none, (.bin .lss (.t 6) (.c (.int .i64 1)))⟩, ⟨(some 8), none, (.mov (.t 7))⟩, ⟨(some 9), (some (8, false)), (.mov (.t 0))⟩, ⟨(some 10), (some (8, false)), (.bin .gtr (.t 9) (.c (.int .i64 64)))⟩, ⟨(some 11), none, (.pick (.t 8) (.c (.bool true)) (.t 10))⟩, ⟨(some 12), none, (.mov (.t 11))⟩, ⟨(some 13), (some (12, false)), (.mov (.t 1))⟩, ⟨(some 14), (some (12, false)), (.bin .lss (.t 13) (.c (.int .i64 1)))⟩, ⟨(some 15), none, (.pick (.t 12) (.c (.bool true)) (.t 14))⟩, ⟨(some 16), none, (.mov (.t 15))⟩, ⟨(some 17), (some (16, false)), (.mov (.t 1))⟩, ⟨(some 18), (some (16, false)), (.bin .gtr (.t 17) (.c (.int .i64 1048576)))⟩, ⟨(some 19), none, (.pick (.t 16) (.c (.bool true)) (.t 18))⟩]) (.cond (.t 19) (.seq (.ops [⟨(some 20), none, (.bld [(.val (.int .i64 0)), (.lit 4 []), (.val (.int .i64 0)), (.val (.bool false)), (.val (.int .i64 0))] [])⟩, ⟨none, none, (.st (.t 4) 5 (.t 20))⟩, ⟨(some 5), none, (.mov (.c (.int .i64 1)))⟩]) .ret) .skip)) (.seq (.ops [⟨(some 21), none, (.mov (.t 1))⟩, ⟨(some 22), none, (.mov (.t 0))⟩, ⟨(some 23), none, (.mks (.t 22) (.t 22) 85 4 48 [(.val (.int .i64 0)), (.val (.int .i64 0)), (.lit 1 []), (.val (.int .i64 0))] true)⟩, ⟨(some 24), none, (.bld [(.val (.int .i64 0)), (.lit 4 []), (.val (.int .i64 0)), (.val (.bool false)), (.val (.int .i64 0))] [(0, (1, (.t 21))), (1, (1, (.t 23))), (2, (1, (.c (.int .i64 (-1)))))])⟩, ⟨none, none, (.st (.t 4) 5 (.t 24))⟩, ⟨(some 5), none, (.mov (.c (.int .i64 0)))⟩]) .ret))), 25, [(.cell 4 (some 5)), (.tmp 5)]⟩
theorem F_dev_New_ok : compF Try.prog (fun _ => true) 18 = some F_dev_New := by kernel_rfl
@[simp] abbrev n_log_Append : FuncId := 19
def F_log_Append_L0 : C := (.seq (.ops [⟨(some 17), none, (.bin .lss (.t 16) (.t 15))⟩]) (.seq (.cond (.t 17) .skip (.exit 0)) (.seq (.block 1 (.seq (.ops [⟨(some 18), none, (.ixs (.t 14) (.t 16) 3)⟩, ⟨(some 19), none, (.lde (.t 18) (some 3))⟩, ⟨(some 8), none, (.alc [(.val (.int .i64 0)), (.val (.int .i64 0)), (.lit 1 [])])⟩, ⟨none, none, (.st (.t 8) 3 (.t 19))⟩]) (.seq (.ops [⟨(some 9), none, (.mov (.c (.complex .f64 0 0)))⟩]) (.seq (.seq (.ops [⟨(some 21), none, (.ld (.t 4) (some 5))⟩, ⟨(some 22), none, (.ld (.t 8) (some 3))⟩, ⟨(some 23), none, (.call 62 [(.t 21), (.t 22)])⟩, ⟨(some 20), none, (.mov (.t 23))⟩, ⟨(some 24), none, (.ext (.t 20) 0)⟩, ⟨(some 25), none, (.ext (.t 20) 1)⟩, ⟨(some 26), none, (.ext (.t 20) 2)⟩, ⟨none, none, (.st (.t 4) 5 (.t 24))⟩, ⟨(some 9), none, (.mov (.t 25))⟩, ⟨(some 6), none, (.mov (.t 26))⟩]) (.seq (.ops [⟨(some 27), none, (.mov (.t 6))⟩, ⟨(some 28), none, (.bin .neq (.t 27) (.c (.int .i64 0)))⟩]) (.cond (.t 28) (.seq (.ops [⟨(some 29), none, (.ld (.t 4) (some 5))⟩, ⟨(some 30), none, (.mov (.t 5))⟩, ⟨(some 31), none, (.mov (.t 6))⟩, ⟨none, none, (.st (.t 4) 5 (.t 29))⟩, ⟨(some 5), none, (.mov (.t 30))⟩, ⟨(some 6), none, (.mov (.t 31))⟩]) .ret) .skip))) (.ops [⟨(some 32), none, (.mov (.t 5))⟩, ⟨(some 33), none, (.mov (.t 9))⟩, ⟨(some 34), none, (.mkl 91 1 [(.t 33)] false)⟩, ⟨(some 35), none, (.app (.t 32) (.t 34) 91 1 16 true)⟩, ⟨(some 5), none, (.mov (.t 35))⟩]))))) (.ops [⟨(some 36), none, (.bin .add (.t 16) (.c (.int .i64 1)))⟩, ⟨(some 16), none, (.mov (.t 36))⟩]))))
def F_log_Append : F := ⟨(.seq (.ops [⟨(some 2), none, (.box (.t 0))⟩, ⟨(some 4), none, (.alc [(.val (.int .i64 0)), (.lit 4 []), (.val (.int .i64 0)), (.val (.bool false)), (.val (.int .i64 0))])⟩, ⟨(some 5), none, (.nil 91 1 true)⟩, ⟨(some 6), none, (.mov (.c (.int .i64 0)))⟩]) (.seq (.ops [⟨(some 10), none, (.ld (.t 2) (some 5))⟩, ⟨(some 11), none, (.fad (.t 2) 2)⟩, ⟨(some 12), none, (.ld (.t 11) none)⟩, ⟨(some 13), none, (.call 61 [(.t 10), (.t 12)])⟩, ⟨none, none, (.st (.t 4) 5 (.t 13))⟩]) (.seq (.seq (.ops [⟨(some 14), none, (.mov (.t 1))⟩, ⟨(some 15), none, (.len (.t 14))⟩, ⟨(some 16), none, (.mov (.c (.int .i64 0)))⟩]) (.block 0 (.loop F_log_Append_L0))) (.seq (.ops [⟨(some 37), none, (.ld (.t 4) (some 5))⟩, ⟨(some 38), none, (.mov (.t 5))⟩, ⟨none, none, (.st (.t 4) 5 (.t 37))⟩, ⟨(some 5), none, (.mov (.t 38))⟩, ⟨(some 6), none, (.mov (.c (.int .i64 0)))⟩]) .ret)))), 39, [(.cell 4 (some 5)), (.tmp 5), (.tmp 6)]⟩
theorem F_log_Append_ok : compF Try.prog (fun d => !([34].contains d)) 19 = some F_log_Append := by kernel_rfl
@[simp] abbrev n_log_Empty : FuncId := 20
def F_log_Empty_L0 : C := (.seq (.ops [⟨(some 9), none, (.bin .lss (.t 8) (.t 7))⟩]) (.seq (.cond (.t 9) .skip (.exit 0)) (.seq (.block 1 (.seq (.ops [⟨(some 10), none, (.ixs (.t 6) (.t 8) 4)⟩, ⟨(some 11), none, (.lde (.t 10) (some 4))⟩, ⟨(some 4), none, (.alc [(.val (.int .i64 0)), (.val (.int .i64 0)), (.lit 1 []), (.val (.int .i64 0))])⟩, ⟨none, none, (.st (.t 4) 4 (.t 11))⟩]) (.seq (.ops [⟨(some 12), none, (.fad (.t 4) 0)⟩, ⟨(some 13), none, (.ld (.t 12) none)⟩, ⟨(some 14), none, (.bin .eql (.t 13) (.c (.int .i64 0)))⟩]) (.cond (.t 14) (.ops [⟨(some 15), none, (.mov (.t 2))⟩, ⟨(some 16), none, (.bin .add (.t 15) (.c (.int .i64 1)))⟩, ⟨(some 2), none, (.mov (.t 16))⟩]) .skip)))) (.ops [⟨(some 17), none, (.bin .add (.t 8) (.c (.int .i64 1)))⟩, ⟨(some 8), none, (.mov (.t 17))⟩]))))
def F_log_Empty : F := ⟨(.seq (.ops [⟨(some 1), none, (.box (.t 0))⟩, ⟨(some 2), none, (.mov (.c (.int .i64 0)))⟩]) (.seq (.seq (.ops [⟨(some 5), none, (.fad (.t 1) 1)⟩, ⟨(some 6), none, (.ld (.t 5) none)⟩, ⟨(some 7), none, (.len (.t 6))⟩, ⟨(some 8), none, (.mov (.c (.int .i64 0)))⟩]) (.block 0 (.loop F_log_Empty_L0))) (.seq (.ops [⟨(some 18), none, (.mov (.t 2))⟩, ⟨(some 2), none, (.mov (.t 18))⟩]) .ret))), 19, [(.tmp 2)]⟩
theorem F_log_Empty_ok : compF Try.prog (fun _ => true) 20 = some F_log_Empty := by kernel_rfl
@[simp] abbrev n_space_Takes : FuncId := 21
def F_space_Takes : F := ⟨(.seq (.ops [⟨(some 4), none, (.mov (.c (.int .i64 0)))⟩]) (.seq (.seq (.ops [⟨(some 5), none, (.mov (.t 1))⟩, ⟨(some 6), none, (.call 63 [(.t 5)])⟩, ⟨(some 7), none, (.un .not (.t 6))⟩]) (.cond (.t 7) (.seq (.ops [⟨(some 4), none, (.mov (.c (.int .i64 0)))⟩]) .ret) .skip)) (.seq (.ops [⟨(some 8), none, (.mov (.t 0))⟩, ⟨(some 9), none, (.mm true (.t 8) (.c (.int .i64 0)))⟩, ⟨(some 10), none, (.mov (.t 1))⟩, ⟨(some 11), none, (.call 37 [(.c (.int .i64 4096))])⟩, ⟨(some 12), none, (.bin .sub (.t 10) (.t 11))⟩, ⟨(some 13), none, (.bin .quo (.t 9) (.t 12))⟩, ⟨(some 14), none, (.bin .add (.t 13) (.c (.int .i64 1)))⟩, ⟨(some 4), none, (.mov (.t 14))⟩]) .ret))), 15, [(.tmp 4)]⟩
theorem F_space_Takes_ok : compF Try.prog (fun _ => true) 21 = some F_space_Takes := by kernel_rfl
@[simp] abbrev n_record_Size : FuncId := 37
def F_record_Size : F := ⟨(.seq (.ops [⟨(some 2), none, (.mov (.c (.int .i64 0)))⟩]) (.seq (.seq (.ops [⟨(some 3), none, (.mov (.t 0))⟩, ⟨(some 4), none, (.bin .lss (.t 3) (.c (.int .i64 0)))⟩, ⟨(some 5), none, (.mov (.t 4))⟩, ⟨(some 6), (some (5, false)), (.mov (.t 0))⟩, ⟨(some 7), (some (5, false)), (.bin .gtr (.t 6) (.c (.int .i64 4096)))⟩, ⟨(some 8), none, (.pick (.t 5) (.c (.bool true)) (.t 7))⟩]) (.cond (.t 8) (.seq (.ops [⟨(some 2), none, (.mov (.c (.int .i64 0)))⟩]) .ret) .skip)) (.seq (.ops [⟨(some 9), none, (.mov (.t 0))⟩, ⟨(some 10), none, (.bin .add (.c (.int .i64 16)) (.t 9))⟩, ⟨(some 11), none, (.bin .add (.t 10) (.c (.int .i64 4)))⟩, ⟨(some 2), none, (.mov (.t 11))⟩]) .ret))), 12, [(.tmp 2)]⟩
theorem F_record_Size_ok : compF Try.prog (fun _ => true) 37 = some F_record_Size := by kernel_rfl
@[simp] abbrev n_space_Snap : FuncId := 38
def F_space_Snap : F := ⟨(.seq (.ops [⟨(some 2), none, (.mov (.c (.int .i64 0)))⟩, ⟨(some 3), none, (.mov (.c (.int .i64 0)))⟩]) (.seq (.seq (.ops [⟨(some 6), none, (.mov (.t 0))⟩, ⟨(some 7), none, (.call 95 [(.t 6)])⟩, ⟨(some 8), none, (.un .not (.t 7))⟩]) (.cond (.t 8) (.seq (.ops [⟨(some 2), none, (.mov (.c (.int .i64 0)))⟩, ⟨(some 3), none, (.mov (.c (.int .i64 0)))⟩]) .ret) .skip)) (.seq (.ops [⟨(some 9), none, (.mov (.t 0))⟩, ⟨(some 10), none, (.call 96 [(.t 9)])⟩, ⟨(some 11), none, (.bin .add (.c (.int .i64 4016)) (.t 10))⟩, ⟨(some 12), none, (.mov (.t 0))⟩, ⟨(some 13), none, (.call 96 [(.t 12)])⟩, ⟨(some 14), none, (.bin .add (.c (.int .i64 8)) (.t 13))⟩, ⟨(some 15), none, (.bin .mul (.c (.int .i64 4)) (.t 14))⟩, ⟨(some 16), none, (.bin .add (.t 11) (.t 15))⟩, ⟨(some 4), none, (.mov (.t 16))⟩]) (.seq (.ops [⟨(some 17), none, (.mov (.t 4))⟩, ⟨(some 18), none, (.bin .add (.t 17) (.c (.int .i64 4096)))⟩, ⟨(some 19), none, (.bin .sub (.t 18) (.c (.int .i64 1)))⟩, ⟨(some 20), none, (.bin .quo (.t 19) (.c (.int .i64 4096)))⟩, ⟨(some 5), none, (.mov (.t 20))⟩]) (.seq (.ops [⟨(some 21), none, (.mov (.t 4))⟩, ⟨(some 22), none, (.mov (.t 5))⟩, ⟨(some 23), none, (.call 37 [(.c (.int .i64 0))])⟩, ⟨(some 24), none, (.bin .mul (.t 22) (.t 23))⟩, ⟨(some 25), none, (.bin .add (.t 21) (.t 24))⟩, ⟨(some 26), none, (.call 37 [(.c (.int .i64 2))])⟩, ⟨(some 27), none, (.bin .add (.t 25) (.t 26))⟩, ⟨(some 28), none, (.mov (.t 5))⟩, ⟨(some 29), none, (.bin .add (.t 28) (.c (.int .i64 1)))⟩, ⟨(some 2), none, (.mov (.t 27))⟩, ⟨(some 3), none, (.mov (.t 29))⟩]) .ret))))), 30, [(.tmp 2), (.tmp 3)]⟩
theorem F_space_Snap_ok : compF Try.prog (fun _ => true) 38 = some F_space_Snap := by kernel_rfl
@[simp] abbrev n_space_Change : FuncId := 41
def F_space_Change : F := ⟨(.seq (.ops [⟨(some 2), none, (.mov (.c (.int .i64 0)))⟩]) (.seq (.seq (.ops [⟨(some 3), none, (.mov (.t 0))⟩, ⟨(some 4), none, (.call 95 [(.t 3)])⟩, ⟨(some 5), none, (.un .not (.t 4))⟩]) (.cond (.t 5) (.seq (.ops [⟨(some 2), none, (.mov (.c (.int .i64 0)))⟩]) .ret) .skip)) (.seq (.ops [⟨(some 6), none, (.mov (.t 0))⟩, ⟨(some 7), none, (.bin .mul (.t 6) (.c (.int .i64 39)))⟩, ⟨(some 8), none, (.bin .add (.c (.int .i64 10)) (.t 7))⟩, ⟨(some 9), none, (.mm true (.t 8) (.c (.int .i64 1009)))⟩, ⟨(some 10), none, (.call 37 [(.t 9)])⟩, ⟨(some 2), none, (.mov (.t 10))⟩]) .ret))), 11, [(.tmp 2)]⟩
theorem F_space_Change_ok : compF Try.prog (fun _ => true) 41 = some F_space_Change := by kernel_rfl
@[simp] abbrev n_space_Zones : FuncId := 57
def F_space_Zones : F := ⟨(.seq (.ops [⟨(some 4), none, (.mov (.c (.int .i64 0)))⟩]) (.seq (.ops [⟨(some 8), none, (.mov (.t 0))⟩, ⟨(some 9), none, (.mov (.t 1))⟩, ⟨(some 10), none, (.call 58 [(.t 8), (.t 9)])⟩, ⟨(some 5), none, (.mov (.t 10))⟩]) (.seq (.seq (.ops [⟨(some 11), none, (.mov (.t 5))⟩, ⟨(some 12), none, (.bin .eql (.t 11) (.c (.int .i64 0)))⟩]) (.cond (.t 12) (.seq (.ops [⟨(some 4), none, (.mov (.c (.int .i64 0)))⟩]) .ret) .skip)) (.seq (.ops [⟨(some 14), none, (.mov (.t 0))⟩, ⟨(some 15), none, (.call 38 [(.t 14)])⟩, ⟨(some 13), none, (.mov (.t 15))⟩, ⟨(some 16), none, (.ext (.t 13) 0)⟩, ⟨(some 17), none, (.ext (.t 13) 1)⟩, ⟨(some 6), none, (.mov (.t 16))⟩, ⟨(some 7), none, (.mov (.t 17))⟩]) (.seq (.ops [⟨(some 18), none, (.mov (.t 5))⟩, ⟨(some 19), none, (.bin .add (.c (.int .i64 3)) (.t 18))⟩, ⟨(some 20), none, (.mov (.t 6))⟩, ⟨(some 21), none, (.mov (.t 1))⟩, ⟨(some 22), none, (.call 21 [(.t 20), (.t 21)])⟩, ⟨(some 23), none, (.bin .add (.t 19) (.t 22))⟩, ⟨(some 24), none, (.bin .add (.t 23) (.c (.int .i64 1)))⟩, ⟨(some 4), none, (.mov (.t 24))⟩]) .ret))))), 25, [(.tmp 4)]⟩
theorem F_space_Zones_ok : compF Try.prog (fun _ => true) 57 = some F_space_Zones := by kernel_rfl
@[simp] abbrev n_space_Need : FuncId := 58
def F_space_Need : F := ⟨(.seq (.ops [⟨(some 3), none, (.box (.t 1))⟩, ⟨(some 4), none, (.mov (.c (.int .i64 0)))⟩]) (.seq (.seq (.ops [⟨(some 8), none, (.mov (.t 0))⟩, ⟨(some 9), none, (.call 95 [(.t 8)])⟩, ⟨(some 10), none, (.un .not (.t 9))⟩, ⟨(some 11), none, (.mov (.t 10))⟩, ⟨(some 12), (some (11, false)), (.ld (.t 3) none)⟩, ⟨(some 13), (some (11, false)), (.call 63 [(.t 12)])⟩, ⟨(some 14), (some (11, false)), (.un .not (.t 13))⟩, ⟨(some 15), none, (.pick (.t 11) (.c (.bool true)) (.t 14))⟩]) (.cond (.t 15) (.seq (.ops [⟨(some 4), none, (.mov (.c (.int .i64 0)))⟩]) .ret) .skip)) (.seq (.ops [⟨(some 16), none, (.mkf 115 [(.t 3)])⟩, ⟨(some 5), none, (.mov (.t 16))⟩]) (.seq (.ops [⟨(some 18), none, (.mov (.t 0))⟩, ⟨(some 19), none, (.call 38 [(.t 18)])⟩, ⟨(some 17), none, (.mov (.t 19))⟩, ⟨(some 20), none, (.ext (.t 17) 0)⟩, ⟨(some 21), none, (.ext (.t 17) 1)⟩, ⟨(some 6), none, (.mov (.t 20))⟩, ⟨(some 7), none, (.mov (.t 21))⟩]) (.seq (.ops [⟨(some 22), none, (.mov (.t 5))⟩, ⟨(some 23), none, (.mov (.t 0))⟩, ⟨(some 24), none, (.call 41 [(.t 23)])⟩, ⟨(some 25), none, (.callv (.t 22) [(.t 24)])⟩, ⟨(some 26), none, (.mov (.t 5))⟩, ⟨(some 27), none, (.mov (.t 6))⟩, ⟨(some 28), none, (.callv (.t 26) [(.t 27)])⟩, ⟨(some 29), none, (.bin .add (.t 25) (.t 28))⟩, ⟨(some 4), none, (.mov (.t 29))⟩]) .ret))))), 30, [(.tmp 4)]⟩
theorem F_space_Need_ok : compF Try.prog (fun _ => true) 58 = some F_space_Need := by kernel_rfl
@[simp] abbrev n_space_Check : FuncId := 59
def F_space_Check : F := ⟨(.seq (.ops [⟨(some 6), none, (.mov (.c (.int .i64 0)))⟩]) (.seq (.seq (.ops [⟨(some 8), none, (.mov (.t 2))⟩, ⟨(some 9), none, (.mov (.t 1))⟩, ⟨(some 10), none, (.call 57 [(.t 8), (.t 9)])⟩, ⟨(some 7), none, (.mov (.t 10))⟩]) (.seq (.ops [⟨(some 11), none, (.mov (.t 7))⟩, ⟨(some 12), none, (.bin .eql (.t 11) (.c (.int .i64 0)))⟩, ⟨(some 13), none, (.mov (.t 12))⟩, ⟨(some 14), (some (13, false)), (.mov (.t 0))⟩, ⟨(some 15), (some (13, false)), (.mov (.t 7))⟩, ⟨(some 16), (some (13, false)), (.bin .lss (.t 14) (.t 15))⟩, ⟨(some 17), none, (.pick (.t 13) (.c (.bool true)) (.t 16))⟩, ⟨(some 18), none, (.mov (.t 17))⟩, ⟨(some 19), (some (18, false)), (.mov (.t 0))⟩, ⟨(some 20), (some (18, false)), (.bin .gtr (.t 19) (.c (.int .i64 64)))⟩, ⟨(some 21), none, (.pick (.t 18) (.c (.bool true)) (.t 20))⟩]) (.cond (.t 21) (.seq (.ops [⟨(some 6), none, (.mov (.c (.int .i64 130)))⟩]) .ret) .skip))) (.seq (.ops [⟨(some 6), none, (.mov (.c (.int .i64 0)))⟩]) .ret))), 22, [(.tmp 6)]⟩
theorem F_space_Check_ok : compF Try.prog (fun _ => true) 59 = some F_space_Check := by kernel_rfl
@[simp] abbrev n_space_Bound : FuncId := 60
def F_space_Bound : F := ⟨(.seq (.ops [⟨(some 4), none, (.mov (.c (.int .i64 0)))⟩]) (.seq (.ops [⟨(some 8), none, (.mov (.t 1))⟩, ⟨(some 9), none, (.call 38 [(.t 8)])⟩, ⟨(some 7), none, (.mov (.t 9))⟩, ⟨(some 10), none, (.ext (.t 7) 0)⟩, ⟨(some 11), none, (.ext (.t 7) 1)⟩, ⟨(some 5), none, (.mov (.t 10))⟩, ⟨(some 6), none, (.mov (.t 11))⟩]) (.seq (.seq (.ops [⟨(some 12), none, (.mov (.t 6))⟩, ⟨(some 13), none, (.bin .eql (.t 12) (.c (.int .i64 0)))⟩]) (.cond (.t 13) (.seq (.ops [⟨(some 4), none, (.mov (.c (.int .i64 0)))⟩]) .ret) .skip)) (.seq (.ops [⟨(some 14), none, (.mov (.t 6))⟩, ⟨(some 15), none, (.bin .add (.t 14) (.c (.int .i64 1)))⟩, ⟨(some 16), none, (.mov (.t 0))⟩, ⟨(some 17), none, (.call 116 [(.t 16), (.c (.int .i64 0)), (.c (.int .i64 1073741824))])⟩, ⟨(some 18), none, (.bin .add (.t 15) (.t 17))⟩, ⟨(some 19), none, (.bin .mul (.c (.int .i64 2)) (.t 18))⟩, ⟨(some 20), none, (.bin .add (.t 19) (.c (.int .i64 5)))⟩, ⟨(some 4), none, (.mov (.t 20))⟩]) .ret)))), 21, [(.tmp 4)]⟩
theorem F_space_Bound_ok : compF Try.prog (fun _ => true) 60 = some F_space_Bound := by kernel_rfl
@[simp] abbrev n_space_may : FuncId := 63
def F_space_may : F := ⟨(.seq (.ops [⟨(some 2), none, (.mov (.c (.bool false)))⟩]) (.seq (.ops [⟨(some 3), none, (.mov (.t 0))⟩, ⟨(some 4), none, (.call 116 [(.t 3), (.c (.int .i64 8192)), (.c (.int .i64 1048576))])⟩, ⟨(some 5), none, (.mov (.t 0))⟩, ⟨(some 6), none, (.bin .eql (.t 4) (.t 5))⟩, ⟨(some 2), none, (.mov (.t 6))⟩]) .ret)), 7, [(.tmp 2)]⟩
theorem F_space_may_ok : compF Try.prog (fun _ => true) 63 = some F_space_may := by kernel_rfl
@[simp] abbrev n_space_some : FuncId := 95
def F_space_some : F := ⟨(.seq (.ops [⟨(some 2), none, (.mov (.c (.bool false)))⟩]) (.seq (.ops [⟨(some 3), none, (.mov (.t 0))⟩, ⟨(some 4), none, (.call 116 [(.t 3), (.c (.int .i64 1)), (.c (.int .i64 64))])⟩, ⟨(some 5), none, (.mov (.t 0))⟩, ⟨(some 6), none, (.bin .eql (.t 4) (.t 5))⟩, ⟨(some 2), none, (.mov (.t 6))⟩]) .ret)), 7, [(.tmp 2)]⟩
theorem F_space_some_ok : compF Try.prog (fun _ => true) 95 = some F_space_some := by kernel_rfl
@[simp] abbrev n_space_mapped : FuncId := 96
def F_space_mapped : F := ⟨(.seq (.ops [⟨(some 2), none, (.mov (.c (.int .i64 0)))⟩]) (.seq (.ops [⟨(some 3), none, (.mov (.t 0))⟩, ⟨(some 4), none, (.bin .mul (.t 3) (.c (.int .i64 39)))⟩, ⟨(some 5), none, (.bin .add (.c (.int .i64 3)) (.t 4))⟩, ⟨(some 2), none, (.mov (.t 5))⟩]) .ret)), 6, [(.tmp 2)]⟩
theorem F_space_mapped_ok : compF Try.prog (fun _ => true) 96 = some F_space_mapped := by kernel_rfl
@[simp] abbrev n_space_Need_1 : FuncId := 115
def F_space_Need_1 : F := ⟨(.seq (.ops [⟨(some 3), none, (.mov (.c (.int .i64 0)))⟩]) (.seq (.ops [⟨(some 4), none, (.mov (.t 0))⟩, ⟨(some 5), none, (.ld (.t 1) none)⟩, ⟨(some 6), none, (.call 21 [(.t 4), (.t 5)])⟩, ⟨(some 3), none, (.mov (.t 6))⟩]) .ret)), 7, [(.tmp 3)]⟩
theorem F_space_Need_1_ok : compF Try.prog (fun _ => true) 115 = some F_space_Need_1 := by kernel_rfl
@[simp] abbrev n_space_held_int : FuncId := 116
def F_space_held_int : F := ⟨(.seq (.ops [⟨(some 6), none, (.mov (.c (.int .i64 0)))⟩]) (.seq (.ops [⟨(some 7), none, (.mov (.t 0))⟩, ⟨(some 8), none, (.mov (.t 1))⟩, ⟨(some 9), none, (.mm true (.t 7) (.t 8))⟩, ⟨(some 10), none, (.mov (.t 2))⟩, ⟨(some 11), none, (.mm false (.t 9) (.t 10))⟩, ⟨(some 6), none, (.mov (.t 11))⟩]) .ret)), 12, [(.tmp 6)]⟩
theorem F_space_held_int_ok : compF Try.prog (fun _ => true) 116 = some F_space_held_int := by kernel_rfl
@[simp] abbrev n_record_Check : FuncId := 52
def F_record_Check : F := ⟨(.seq (.ops [⟨(some 1), none, (.box (.t 0))⟩, ⟨(some 2), none, (.mov (.c (.int .i64 0)))⟩]) (.seq (.seq (.ops [⟨(some 3), none, (.fad (.t 1) 0)⟩, ⟨(some 4), none, (.ld (.t 3) none)⟩, ⟨(some 5), none, (.bin .lss (.t 4) (.c (.int .i64 1)))⟩, ⟨(some 6), none, (.mov (.t 5))⟩, ⟨(some 7), (some (6, false)), (.fad (.t 1) 0)⟩, ⟨(some 8), (some (6, false)), (.ld (.t 7) none)⟩, ⟨(some 9), (some (6, false)), (.bin .gtr (.t 8) (.c (.int .i64 5)))⟩, ⟨(some 10), none, (.pick (.t 6) (.c (.bool true)) (.t 9))⟩, ⟨(some 11), none, (.mov (.t 10))⟩, ⟨(some 12), (some (11, false)), (.fad (.t 1) 1)⟩, ⟨(some 13), (some (11, false)), (.ld (.t 12) none)⟩, ⟨(some 14), (some (11, false)), (.bin .lss (.t 13) (.c (.int .i64 0)))⟩, ⟨(some 15), none, (.pick (.t 11) (.c (.bool true)) (.t 14))⟩, ⟨(some 16), none, (.mov (.t 15))⟩, ⟨(some 17), (some (16, false)), (.fad (.t 1) 1)⟩, ⟨(some 18), (some (16, false)), (.ld (.t 17) none)⟩, ⟨(some 19), (some (16, false)), (.bin .gtr (.t 18) (.c (.int .i64 4611686018427387903)))⟩, ⟨(some 20), none, (.pick (.t 16) (.c (.bool true)) (.t 19))⟩, ⟨(some 21), none, (.mov (.t 20))⟩, ⟨(some 22), (some (21, false)), (.fad (.t 1) 2)⟩, ⟨(some 23), (some (21, false)), (.ld (.t 22) none)⟩, ⟨(some 24), (some (21, false)), (.len (.t 23))⟩, ⟨(some 25), (some (21, false)), (.bin .gtr (.t 24) (.c (.int .i64 4096)))⟩, ⟨(some 26), none, (.pick (.t 21) (.c (.bool true)) (.t 25))⟩]) (.cond (.t 26) (.seq (.ops [⟨(some 2), none, (.mov (.c (.int .i64 50)))⟩]) .ret) .skip)) (.seq (.ops [⟨(some 2), none, (.mov (.c (.int .i64 0)))⟩]) .ret))), 27, [(.tmp 2)]⟩
theorem F_record_Check_ok : compF Try.prog (fun _ => true) 52 = some F_record_Check := by kernel_rfl
@[simp] abbrev n_record_Write : FuncId := 53
def F_record_Write : F := ⟨(.seq (.ops [⟨(some 1), none, (.box (.t 0))⟩, ⟨(some 2), none, (.nil 5 1 true)⟩, ⟨(some 3), none, (.mov (.c (.int .i64 0)))⟩]) (.seq (.seq (.ops [⟨(some 7), none, (.ld (.t 1) (some 3))⟩, ⟨(some 8), none, (.call 52 [(.t 7)])⟩, ⟨(some 4), none, (.mov (.t 8))⟩]) (.seq (.ops [⟨(some 9), none, (.mov (.t 4))⟩, ⟨(some 10), none, (.bin .neq (.t 9) (.c (.int .i64 0)))⟩]) (.cond (.t 10) (.seq (.ops [⟨(some 11), none, (.mov (.t 4))⟩, ⟨(some 2), none, (.nil 5 1 true)⟩, ⟨(some 3), none, (.mov (.t 11))⟩]) .ret) .skip))) (.seq (.ops [⟨(some 13), none, (.fad (.t 1) 0)⟩, ⟨(some 14), none, (.ld (.t 13) none)⟩, ⟨(some 15), none, (.conv .u64 (.t 14))⟩, ⟨(some 16), none, (.fad (.t 1) 2)⟩, ⟨(some 17), none, (.ld (.t 16) none)⟩, ⟨(some 18), none, (.len (.t 17))⟩, ⟨(some 19), none, (.conv .u64 (.t 18))⟩, ⟨(some 20), none, (.fad (.t 1) 1)⟩, ⟨(some 21), none, (.ld (.t 20) none)⟩, ⟨(some 22), none, (.conv .u64 (.t 21))⟩, ⟨(some 23), none, (.mkl 114 1 [(.c (.int .u64 1196184151)), (.t 15), (.t 19), (.t 22)] true)⟩, ⟨(some 24), none, (.call 70 [(.c (.string ⟨#[119, 104, 104, 113]⟩)), (.t 23)])⟩, ⟨(some 12), none, (.mov (.t 24))⟩, ⟨(some 25), none, (.ext (.t 12) 0)⟩, ⟨(some 26), none, (.ext (.t 12) 1)⟩, ⟨(some 5), none, (.mov (.t 25))⟩, ⟨(some 6), none, (.mov (.t 26))⟩]) (.seq (.seq (.ops [⟨(some 27), none, (.mov (.t 6))⟩, ⟨(some 28), none, (.bin .neq (.t 27) (.c (.int .i64 0)))⟩]) (.cond (.t 28) (.seq (.ops [⟨(some 2), none, (.nil 5 1 true)⟩, ⟨(some 3), none, (.mov (.c (.int .i64 50)))⟩]) .ret) .skip)) (.seq (.ops [⟨(some 29), none, (.mov (.t 5))⟩, ⟨(some 30), none, (.fad (.t 1) 2)⟩, ⟨(some 31), none, (.ld (.t 30) none)⟩, ⟨(some 32), none, (.app (.t 29) (.t 31) 5 1 1 true)⟩, ⟨(some 33), none, (.call 71 [(.t 32)])⟩, ⟨(some 2), none, (.mov (.t 33))⟩, ⟨(some 3), none, (.mov (.c (.int .i64 0)))⟩]) .ret))))), 34, [(.tmp 2), (.tmp 3)]⟩
theorem F_record_Write_ok : compF Try.prog (fun _ => true) 53 = some F_record_Write := by kernel_rfl
@[simp] abbrev n_dev_Check : FuncId := 46
def F_dev_Check : F := ⟨(.seq (.ops [⟨(some 1), none, (.box (.t 0))⟩, ⟨(some 2), none, (.mov (.c (.bool false)))⟩]) (.seq (.ops [⟨(some 4), none, (.fad (.t 1) 1)⟩, ⟨(some 5), none, (.ld (.t 4) none)⟩, ⟨(some 6), none, (.mkf 102 [(.t 1)])⟩, ⟨(some 7), none, (.call 101 [(.t 5), (.t 6)])⟩, ⟨(some 3), none, (.mov (.t 7))⟩]) (.seq (.ops [⟨(some 8), none, (.mov (.t 3))⟩, ⟨(some 9), none, (.un .not (.t 8))⟩, ⟨(some 10), none, (.mov (.t 9))⟩, ⟨(some 11), (some (10, true)), (.fad (.t 1) 1)⟩, ⟨(some 12), (some (10, true)), (.ld (.t 11) none)⟩, ⟨(some 13), (some (10, true)), (.len (.t 12))⟩, ⟨(some 14), (some (10, true)), (.bin .gtr (.t 13) (.c (.int .i64 0)))⟩, ⟨(some 15), none, (.pick (.t 10) (.t 14) (.c (.bool false)))⟩, ⟨(some 16), none, (.mov (.t 15))⟩, ⟨(some 17), (some (16, true)), (.fad (.t 1) 1)⟩, ⟨(some 18), (some (16, true)), (.ld (.t 17) none)⟩, ⟨(some 19), (some (16, true)), (.len (.t 18))⟩, ⟨(some 20), (some (16, true)), (.bin .leq (.t 19) (.c (.int .i64 64)))⟩, ⟨(some 21), none, (.pick (.t 16) (.t 20) (.c (.bool false)))⟩, ⟨(some 22), none, (.mov (.t 21))⟩, ⟨(some 23), (some (22, true)), (.fad (.t 1) 0)⟩, ⟨(some 24), (some (22, true)), (.ld (.t 23) none)⟩, ⟨(some 25), (some (22, true)), (.bin .gtr (.t 24) (.c (.int .i64 0)))⟩, ⟨(some 26), none, (.pick (.t 22) (.t 25) (.c (.bool false)))⟩, ⟨(some 27), none, (.mov (.t 26))⟩, ⟨(some 28), (some (27, true)), (.fad (.t 1) 0)⟩, ⟨(some 29), (some (27, true)), (.ld (.t 28) none)⟩, ⟨(some 30), (some (27, true)), (.bin .leq (.t 29) (.c (.int .i64 1048576)))⟩, ⟨(some 31), none, (.pick (.t 27) (.t 30) (.c (.bool false)))⟩, ⟨(some 2), none, (.mov (.t 31))⟩]) .ret))), 32, [(.tmp 2)]⟩
theorem F_dev_Check_ok : compF Try.prog (fun _ => true) 46 = some F_dev_Check := by kernel_rfl
@[simp] abbrev n_dev_Check_1 : FuncId := 102
def F_dev_Check_1 : F := ⟨(.seq (.ops [⟨(some 2), none, (.box (.t 0))⟩, ⟨(some 3), none, (.mov (.c (.bool false)))⟩]) (.seq (.ops [⟨(some 4), none, (.ld (.t 2) (some 4))⟩, ⟨(some 5), none, (.fad (.t 1) 0)⟩, ⟨(some 6), none, (.ld (.t 5) none)⟩, ⟨(some 7), none, (.call 103 [(.t 4), (.t 6)])⟩, ⟨(some 8), none, (.un .not (.t 7))⟩, ⟨(some 3), none, (.mov (.t 8))⟩]) .ret)), 9, [(.tmp 3)]⟩
theorem F_dev_Check_1_ok : compF Try.prog (fun _ => true) 102 = some F_dev_Check_1 := by kernel_rfl
@[simp] abbrev n_dev_Do : FuncId := 50
def F_dev_Do : F := ⟨(.seq (.ops [⟨(some 2), none, (.box (.t 0))⟩, ⟨(some 3), none, (.box (.t 1))⟩, ⟨(some 4), none, (.alc [(.val (.int .i64 0)), (.lit 4 []), (.val (.int .i64 0)), (.val (.bool false)), (.val (.int .i64 0))])⟩, ⟨(some 5), none, (.alc [(.val (.int .i64 0))])⟩]) (.seq (.dops false [(5, 4)] [⟨(some 6), none, (.ld (.t 2) (some 5))⟩, ⟨(some 7), none, (.mkf 107 [(.t 5), (.t 3)])⟩, ⟨(some 9), none, (.ld (.t 5) none)⟩, ⟨(some 8), none, (.callf (.f 106) [(.t 6), (.t 7)] [5])⟩, ⟨none, none, (.st (.t 4) 5 (.t 8))⟩, ⟨none, none, (.st (.t 5) 1 (.t 9))⟩]) .ret)), 10, [(.cell 4 (some 5)), (.cell 5 none)]⟩
theorem F_dev_Do_ok : compF Try.prog (fun d => !([4194305].contains d)) 50 = some F_dev_Do := by kernel_rfl
@[simp] abbrev n_dev_Do_1 : FuncId := 107
def F_dev_Do_1 : F := ⟨(.seq (.block 0 (.seq (.ops [⟨(some 5), none, (.mov (.t 0))⟩, ⟨(some 6), none, (.mem .nck [(.t 5)])⟩, ⟨(some 7), none, (.ld (.t 6) (some 5))⟩, ⟨(some 8), none, (.call 46 [(.t 7)])⟩, ⟨(some 9), none, (.un .not (.t 8))⟩, ⟨(some 4), none, (.mov (.t 9))⟩]) (.cond (.t 4) (.seq (.ops [⟨none, none, (.st (.t 1) 1 (.c (.int .i64 1)))⟩]) .ret) (.seq (.ops [⟨(some 11), none, (.mov (.t 0))⟩, ⟨(some 12), none, (.mem .nck [(.t 11)])⟩, ⟨(some 13), none, (.fad (.t 12) 3)⟩, ⟨(some 14), none, (.ld (.t 13) none)⟩, ⟨(some 15), none, (.mov (.t 14))⟩, ⟨(some 16), (some (15, false)), (.mov (.t 0))⟩, ⟨(some 17), (some (15, false)), (.mem .nck [(.t 16)])⟩, ⟨(some 18), (some (15, false)), (.fad (.t 17) 2)⟩, ⟨(some 19), (some (15, false)), (.ld (.t 18) none)⟩, ⟨(some 20), (some (15, false)), (.bin .eql (.t 19) (.c (.int .i64 0)))⟩, ⟨(some 21), none, (.pick (.t 15) (.c (.bool true)) (.t 20))⟩, ⟨(some 10), none, (.mov (.t 21))⟩]) (.cond (.t 10) (.seq (.ops [⟨(some 22), none, (.mov (.t 0))⟩, ⟨(some 23), none, (.mem .nck [(.t 22)])⟩, ⟨(some 24), none, (.fad (.t 23) 3)⟩, ⟨none, none, (.st (.t 24) 1 (.c (.bool true)))⟩, ⟨none, none, (.st (.t 1) 1 (.c (.int .i64 40)))⟩]) .ret) (.seq (.ops [⟨(some 26), none, (.mov (.t 0))⟩, ⟨(some 27), none, (.mem .nck [(.t 26)])⟩, ⟨(some 28), none, (.fad (.t 27) 2)⟩, ⟨(some 29), none, (.ld (.t 28) none)⟩, ⟨(some 30), none, (.bin .gtr (.t 29) (.c (.int .i64 0)))⟩, ⟨(some 25), none, (.mov (.t 30))⟩]) (.cond (.t 25) (.ops [⟨(some 31), none, (.mov (.t 0))⟩, ⟨(some 32), none, (.mem .nck [(.t 31)])⟩, ⟨(some 33), none, (.fad (.t 32) 2)⟩, ⟨(some 34), none, (.ld (.t 33) none)⟩, ⟨(some 35), none, (.bin .sub (.t 34) (.c (.int .i64 1)))⟩, ⟨(some 36), none, (.mem .nck [(.t 31)])⟩, ⟨(some 37), none, (.fad (.t 36) 2)⟩, ⟨none, none, (.st (.t 37) 1 (.t 35))⟩]) .skip))))))) (.seq (.ops [⟨(some 38), none, (.mov (.t 0))⟩, ⟨(some 39), none, (.mem .nck [(.t 38)])⟩, ⟨(some 40), none, (.fad (.t 39) 4)⟩, ⟨(some 41), none, (.ld (.t 40) none)⟩, ⟨(some 42), none, (.bin .add (.t 41) (.c (.int .i64 1)))⟩, ⟨(some 43), none, (.mem .nck [(.t 38)])⟩, ⟨(some 44), none, (.fad (.t 43) 4)⟩, ⟨none, none, (.st (.t 44) 1 (.t 42))⟩]) (.ops [⟨(some 45), none, (.mov (.t 0))⟩, ⟨(some 46), none, (.ld (.t 2) (some 3))⟩, ⟨(some 47), none, (.call 108 [(.t 45), (.t 46)])⟩, ⟨none, none, (.st (.t 1) 1 (.t 47))⟩]))), 48, []⟩
theorem F_dev_Do_1_ok : compF Try.prog (fun _ => true) 107 = some F_dev_Do_1 := by kernel_rfl
@[simp] abbrev n_dev_Limit : FuncId := 61
def F_dev_Limit : F := ⟨(.seq (.ops [⟨(some 2), none, (.box (.t 0))⟩, ⟨(some 3), none, (.box (.t 1))⟩, ⟨(some 4), none, (.alc [(.val (.int .i64 0)), (.lit 4 []), (.val (.int .i64 0)), (.val (.bool false)), (.val (.int .i64 0))])⟩]) (.seq (.ops [⟨(some 5), none, (.ld (.t 2) (some 5))⟩, ⟨(some 6), none, (.mkf 117 [(.t 3)])⟩, ⟨(some 7), none, (.call 106 [(.t 5), (.t 6)])⟩, ⟨none, none, (.st (.t 4) 5 (.t 7))⟩]) .ret)), 8, [(.cell 4 (some 5))]⟩
theorem F_dev_Limit_ok : compF Try.prog (fun _ => true) 61 = some F_dev_Limit := by kernel_rfl
@[simp] abbrev n_dev_Limit_1 : FuncId := 117
def F_dev_Limit_1 : F := ⟨(.ops [⟨(some 3), none, (.mov (.t 0))⟩, ⟨(some 4), none, (.ld (.t 1) none)⟩, ⟨(some 5), none, (.mem .nck [(.t 3)])⟩, ⟨(some 6), none, (.fad (.t 5) 2)⟩, ⟨none, none, (.st (.t 6) 1 (.t 4))⟩]), 7, []⟩
theorem F_dev_Limit_1_ok : compF Try.prog (fun _ => true) 117 = some F_dev_Limit_1 := by kernel_rfl
@[simp] abbrev n_dev_own : FuncId := 106
def F_dev_own_L0 : C := (.seq (.ops [⟨(some 14), none, (.bin .lss (.t 13) (.t 12))⟩]) (.seq (.cond (.t 14) .skip (.exit 0)) (.seq (.block 1 (.seq (.ops [⟨(some 15), none, (.mov (.t 13))⟩, ⟨(some 5), none, (.mov (.t 15))⟩]) (.dops false [] [⟨(some 16), none, (.fad (.t 2) 1)⟩, ⟨(some 17), none, (.ld (.t 16) none)⟩, ⟨(some 18), none, (.mov (.t 5))⟩, ⟨(some 19), none, (.fad (.t 2) 1)⟩, ⟨(some 20), none, (.ld (.t 19) none)⟩, ⟨(some 21), none, (.mov (.t 5))⟩, ⟨(some 22), none, (.mem (.ixr 4) [(.t 20), (.t 21)])⟩, ⟨(some 23), none, (.fad (.t 22) 2)⟩, ⟨(some 24), none, (.ld (.t 23) none)⟩, ⟨(some 25), none, (.callq 77 [(.t 24)])⟩, ⟨(some 26), none, (.mem (.ixr 4) [(.t 17), (.t 18)])⟩, ⟨(some 27), none, (.fad (.t 26) 2)⟩, ⟨none, none, (.st (.t 27) 1 (.t 25))⟩]))) (.ops [⟨(some 28), none, (.bin .add (.t 13) (.c (.int .i64 1)))⟩, ⟨(some 13), none, (.mov (.t 28))⟩]))))
def F_dev_own : F := ⟨(.seq (.ops [⟨(some 2), none, (.box (.t 0))⟩, ⟨(some 4), none, (.alc [(.val (.int .i64 0)), (.lit 4 []), (.val (.int .i64 0)), (.val (.bool false)), (.val (.int .i64 0))])⟩]) (.seq (.ops [⟨(some 6), none, (.fad (.t 2) 1)⟩, ⟨(some 7), none, (.ld (.t 6) none)⟩, ⟨(some 8), none, (.call 159 [(.t 7)])⟩, ⟨(some 9), none, (.fad (.t 2) 1)⟩, ⟨none, none, (.st (.t 9) 1 (.t 8))⟩]) (.seq (.seq (.ops [⟨(some 10), none, (.fad (.t 2) 1)⟩, ⟨(some 11), none, (.ld (.t 10) none)⟩, ⟨(some 12), none, (.mem .lnr [(.t 11)])⟩, ⟨(some 13), none, (.mov (.c (.int .i64 0)))⟩]) (.block 0 (.loop F_dev_own_L0))) (.seq (.ops [⟨(some 29), none, (.mov (.t 1))⟩, ⟨(some 30), none, (.callv (.t 29) [(.t 2)])⟩]) (.seq (.ops [⟨(some 31), none, (.ld (.t 2) (some 5))⟩, ⟨none, none, (.st (.t 4) 5 (.t 31))⟩]) .ret))))), 32, [(.cell 4 (some 5))]⟩
theorem F_dev_own_ok : compF Try.prog (fun d => !([2097164, 2097174, 2097176, 2097178].contains d)) 106 = some F_dev_own := by kernel_rfl
@[simp] abbrev n_dev_done : FuncId := 108
def F_dev_done_L0 : C := (.seq (.ops [⟨(some 28), none, (.bin .lss (.t 27) (.t 26))⟩]) (.seq (.cond (.t 28) .skip (.exit 1)) (.seq (.block 2 (.seq (.ops [⟨(some 29), none, (.mov (.t 27))⟩, ⟨(some 30), none, (.mem (.ixr 4) [(.t 25), (.t 27)])⟩, ⟨(some 31), none, (.ld (.t 30) (some 4))⟩, ⟨(some 8), none, (.alc [(.val (.int .i64 0)), (.val (.int .i64 0)), (.lit 1 []), (.val (.int .i64 0))])⟩, ⟨(some 7), none, (.mov (.t 29))⟩, ⟨none, none, (.st (.t 8) 4 (.t 31))⟩]) (.dops false [] [⟨(some 32), none, (.mov (.t 0))⟩, ⟨(some 33), none, (.mem .nck [(.t 32)])⟩, ⟨(some 34), none, (.fad (.t 33) 1)⟩, ⟨(some 35), none, (.ld (.t 34) none)⟩, ⟨(some 36), none, (.mov (.t 7))⟩, ⟨(some 37), none, (.ld (.t 8) (some 4))⟩, ⟨(some 38), none, (.callf (.f 161) [(.t 37)] [34])⟩, ⟨(some 39), none, (.mem (.ixr 4) [(.t 35), (.t 36)])⟩, ⟨none, none, (.st (.t 39) 4 (.t 38))⟩]))) (.ops [⟨(some 40), none, (.bin .add (.t 27) (.c (.int .i64 1)))⟩, ⟨(some 27), none, (.mov (.t 40))⟩]))))
def F_dev_done : F := ⟨(.seq (.ops [⟨(some 3), none, (.box (.t 1))⟩, ⟨(some 4), none, (.mov (.c (.int .i64 0)))⟩]) (.seq (.dops false [] [⟨(some 13), none, (.fad (.t 3) 0)⟩, ⟨(some 14), none, (.ld (.t 13) none)⟩, ⟨(some 12), none, (.callf (.f 160) [] [13])⟩, ⟨(some 15), none, (.mlk (.t 12) (.t 14) (.val .nilFunc) true)⟩, ⟨(some 11), none, (.mov (.t 15))⟩, ⟨(some 16), none, (.ext (.t 11) 0)⟩, ⟨(some 17), none, (.ext (.t 11) 1)⟩, ⟨(some 5), none, (.mov (.t 16))⟩, ⟨(some 6), none, (.mov (.t 17))⟩]) (.seq (.block 0 (.seq (.ops [⟨(some 19), none, (.fad (.t 3) 0)⟩, ⟨(some 20), none, (.ld (.t 19) none)⟩, ⟨(some 21), none, (.bin .eql (.t 20) (.c (.int .i64 5)))⟩, ⟨(some 18), none, (.mov (.t 21))⟩]) (.cond (.t 18) (.seq (.seq (.ops [⟨(some 22), none, (.mov (.t 0))⟩, ⟨(some 23), none, (.mem .nck [(.t 22)])⟩, ⟨(some 24), none, (.fad (.t 23) 1)⟩, ⟨(some 25), none, (.ld (.t 24) none)⟩, ⟨(some 26), none, (.mem .lnr [(.t 25)])⟩, ⟨(some 27), none, (.mov (.c (.int .i64 0)))⟩]) (.block 1 (.loop F_dev_done_L0))) (.seq (.ops [⟨(some 4), none, (.mov (.c (.int .i64 0)))⟩]) .ret)) (.seq (.dops false [] [⟨(some 42), none, (.mov (.t 6))⟩, ⟨(some 43), none, (.un .not (.t 42))⟩, ⟨(some 44), none, (.mov (.t 43))⟩, ⟨(some 45), (some (44, false)), (.fad (.t 3) 1)⟩, ⟨(some 46), (some (44, false)), (.ld (.t 45) none)⟩, ⟨(some 47), (some (44, false)), (.bin .lss (.t 46) (.c (.int .i64 0)))⟩, ⟨(some 48), none, (.pick (.t 44) (.c (.bool true)) (.t 47))⟩, ⟨(some 49), none, (.mov (.t 48))⟩, ⟨(some 50), (some (49, false)), (.fad (.t 3) 1)⟩, ⟨(some 51), (some (49, false)), (.ld (.t 50) none)⟩, ⟨(some 52), (some (49, false)), (.mov (.t 0))⟩, ⟨(some 53), (some (49, false)), (.mem .nck [(.t 52)])⟩, ⟨(some 54), (some (49, false)), (.fad (.t 53) 1)⟩, ⟨(some 55), (some (49, false)), (.ld (.t 54) none)⟩, ⟨(some 56), (some (49, false)), (.mem .lnr [(.t 55)])⟩, ⟨(some 57), (some (49, false)), (.bin .geq (.t 51) (.t 56))⟩, ⟨(some 58), none, (.pick (.t 49) (.c (.bool true)) (.t 57))⟩, ⟨(some 41), none, (.mov (.t 58))⟩]) (.cond (.t 41) (.seq (.ops [⟨(some 4), none, (.mov (.c (.int .i64 1)))⟩]) .ret) .skip))))) (.seq (.dops false [] [⟨(some 60), none, (.mov (.t 5))⟩, ⟨(some 61), none, (.ld (.t 3) (some 3))⟩, ⟨(some 62), none, (.mov (.t 0))⟩, ⟨(some 63), none, (.mov (.t 0))⟩, ⟨(some 64), none, (.mem .nck [(.t 63)])⟩, ⟨(some 65), none, (.fad (.t 64) 1)⟩, ⟨(some 66), none, (.ld (.t 65) none)⟩, ⟨(some 67), none, (.fad (.t 3) 1)⟩, ⟨(some 68), none, (.ld (.t 67) none)⟩, ⟨(some 69), none, (.mem (.ixr 4) [(.t 66), (.t 68)])⟩, ⟨(some 70), none, (.ld (.t 69) (some 4))⟩, ⟨(some 71), none, (.callr (.t 60) [(.t 61), (.t 62), (.t 70)])⟩, ⟨(some 59), none, (.mov (.t 71))⟩, ⟨(some 72), none, (.ext (.t 59) 0)⟩, ⟨(some 73), none, (.ext (.t 59) 1)⟩, ⟨(some 9), none, (.alc [(.val (.int .i64 0)), (.val (.int .i64 0)), (.lit 1 []), (.val (.int .i64 0))])⟩, ⟨none, none, (.st (.t 9) 4 (.t 72))⟩, ⟨(some 10), none, (.mov (.t 73))⟩]) (.seq (.seq (.ops [⟨(some 74), none, (.mov (.t 10))⟩, ⟨(some 75), none, (.bin .eql (.t 74) (.c (.int .i64 0)))⟩]) (.cond (.t 75) (.dops false [] [⟨(some 76), none, (.mov (.t 0))⟩, ⟨(some 77), none, (.mem .nck [(.t 76)])⟩, ⟨(some 78), none, (.fad (.t 77) 1)⟩, ⟨(some 79), none, (.ld (.t 78) none)⟩, ⟨(some 80), none, (.fad (.t 3) 1)⟩, ⟨(some 81), none, (.ld (.t 80) none)⟩, ⟨(some 82), none, (.ld (.t 9) (some 4))⟩, ⟨(some 83), none, (.mem (.ixr 4) [(.t 79), (.t 81)])⟩, ⟨none, none, (.st (.t 83) 4 (.t 82))⟩]) .skip)) (.seq (.ops [⟨(some 84), none, (.mov (.t 10))⟩, ⟨(some 4), none, (.mov (.t 84))⟩]) .ret)))))), 85, [(.tmp 4)]⟩
theorem F_dev_done_ok : compF Try.prog (fun d => !([2097178, 2097182, 2097183, 2097191, 2097208, 2097221, 2097222, 2097235, 5242951, 4194305].contains d)) 108 = some F_dev_done := by kernel_rfl
@[simp] abbrev n_dev_Open : FuncId := 156
def F_dev_Open_L0 : C := (.seq (.ops [⟨(some 9), none, (.bin .lss (.t 8) (.t 7))⟩]) (.seq (.cond (.t 9) .skip (.exit 0)) (.seq (.block 1 (.seq (.ops [⟨(some 10), none, (.ixs (.t 6) (.t 8) 4)⟩, ⟨(some 11), none, (.lde (.t 10) (some 4))⟩, ⟨(some 4), none, (.alc [(.val (.int .i64 0)), (.val (.int .i64 0)), (.lit 1 []), (.val (.int .i64 0))])⟩, ⟨none, none, (.st (.t 4) 4 (.t 11))⟩]) (.seq (.ops [⟨(some 12), none, (.fad (.t 4) 0)⟩, ⟨(some 13), none, (.ld (.t 12) none)⟩, ⟨(some 14), none, (.bin .eql (.t 13) (.c (.int .i64 1)))⟩]) (.cond (.t 14) (.ops [⟨(some 15), none, (.mov (.t 2))⟩, ⟨(some 16), none, (.bin .add (.t 15) (.c (.int .i64 1)))⟩, ⟨(some 2), none, (.mov (.t 16))⟩]) .skip)))) (.ops [⟨(some 17), none, (.bin .add (.t 8) (.c (.int .i64 1)))⟩, ⟨(some 8), none, (.mov (.t 17))⟩]))))
def F_dev_Open : F := ⟨(.seq (.ops [⟨(some 1), none, (.box (.t 0))⟩, ⟨(some 2), none, (.mov (.c (.int .i64 0)))⟩]) (.seq (.seq (.ops [⟨(some 5), none, (.fad (.t 1) 1)⟩, ⟨(some 6), none, (.ld (.t 5) none)⟩, ⟨(some 7), none, (.len (.t 6))⟩, ⟨(some 8), none, (.mov (.c (.int .i64 0)))⟩]) (.block 0 (.loop F_dev_Open_L0))) (.seq (.ops [⟨(some 18), none, (.mov (.t 2))⟩, ⟨(some 2), none, (.mov (.t 18))⟩]) .ret))), 19, [(.tmp 2)]⟩
theorem F_dev_Open_ok : compF Try.prog (fun _ => true) 156 = some F_dev_Open := by kernel_rfl
@[simp] abbrev n_dev_does : FuncId := 160
def F_dev_does : F := ⟨(.seq (.ops [⟨(some 0), none, (.mov (.c (.map none)))⟩]) (.seq (.ops [⟨(some 1), none, .mkm⟩, ⟨none, none, (.mup (.t 1) (.c (.int .i64 1)) (.f 188))⟩, ⟨none, none, (.mup (.t 1) (.c (.int .i64 2)) (.f 189))⟩, ⟨none, none, (.mup (.t 1) (.c (.int .i64 3)) (.f 190))⟩, ⟨none, none, (.mup (.t 1) (.c (.int .i64 4)) (.f 191))⟩, ⟨(some 2), none, (.mov (.t 1))⟩, ⟨(some 0), none, (.mov (.t 2))⟩]) .ret)), 3, [(.tmp 0)]⟩
theorem F_dev_does_ok : compF Try.prog (fun _ => true) 160 = some F_dev_does := by kernel_rfl
@[simp] abbrev n_log_one : FuncId := 62
def F_log_one_L0 : C := (.seq (.ops [⟨(some 54), none, (.bin .lss (.t 53) (.t 52))⟩]) (.seq (.cond (.t 54) .skip (.exit 0)) (.seq (.block 1 (.seq (.ops [⟨(some 55), none, (.ixs (.t 51) (.t 53) 3)⟩, ⟨(some 56), none, (.lde (.t 55) (some 3))⟩, ⟨(some 13), none, (.alc [(.val (.int .i64 0)), (.val (.int .i64 0)), (.lit 1 [])])⟩, ⟨none, none, (.st (.t 13) 3 (.t 56))⟩]) (.seq (.ops [⟨(some 58), none, (.ld (.t 2) (some 5))⟩, ⟨(some 59), none, (.ld (.t 13) (some 3))⟩, ⟨(some 60), none, (.call 50 [(.t 58), (.t 59)])⟩, ⟨(some 57), none, (.mov (.t 60))⟩, ⟨(some 61), none, (.ext (.t 57) 0)⟩, ⟨(some 62), none, (.ext (.t 57) 1)⟩, ⟨none, none, (.st (.t 2) 5 (.t 61))⟩, ⟨(some 8), none, (.mov (.t 62))⟩]) (.seq (.ops [⟨(some 63), none, (.mov (.t 8))⟩, ⟨(some 64), none, (.bin .neq (.t 63) (.c (.int .i64 0)))⟩]) (.cond (.t 64) (.exit 0) .skip))))) (.ops [⟨(some 65), none, (.bin .add (.t 53) (.c (.int .i64 1)))⟩, ⟨(some 53), none, (.mov (.t 65))⟩]))))
def F_log_one : F := ⟨(.seq (.ops [⟨(some 2), none, (.box (.t 0))⟩, ⟨(some 3), none, (.box (.t 1))⟩, ⟨(some 4), none, (.alc [(.val (.int .i64 0)), (.lit 4 []), (.val (.int .i64 0)), (.val (.bool false)), (.val (.int .i64 0))])⟩, ⟨(some 5), none, (.mov (.c (.complex .f64 0 0)))⟩, ⟨(some 6), none, (.mov (.c (.int .i64 0)))⟩]) (.scope (.seq (.ops [⟨(some 15), none, (.ld (.t 3) (some 3))⟩, ⟨(some 16), none, (.call 53 [(.t 15)])⟩, ⟨(some 14), none, (.mov (.t 16))⟩, ⟨(some 17), none, (.ext (.t 14) 0)⟩, ⟨(some 18), none, (.ext (.t 14) 1)⟩, ⟨(some 7), none, (.mov (.t 17))⟩, ⟨(some 8), none, (.mov (.t 18))⟩]) (.seq (.seq (.ops [⟨(some 19), none, (.mov (.t 8))⟩, ⟨(some 20), none, (.bin .neq (.t 19) (.c (.int .i64 0)))⟩]) (.cond (.t 20) (.seq (.ops [⟨(some 21), none, (.ld (.t 2) (some 5))⟩, ⟨(some 22), none, (.mov (.t 8))⟩, ⟨none, none, (.st (.t 4) 5 (.t 21))⟩, ⟨(some 5), none, (.mov (.c (.complex .f64 0 0)))⟩, ⟨(some 6), none, (.mov (.t 22))⟩]) .ret) .skip)) (.seq (.ops [⟨(some 24), none, (.ld (.t 2) (some 5))⟩, ⟨(some 25), none, (.mov (.t 7))⟩, ⟨(some 26), none, (.len (.t 25))⟩, ⟨(some 27), none, (.call 100 [(.t 24), (.t 26)])⟩, ⟨(some 23), none, (.mov (.t 27))⟩, ⟨(some 28), none, (.ext (.t 23) 0)⟩, ⟨(some 29), none, (.ext (.t 23) 1)⟩, ⟨(some 30), none, (.ext (.t 23) 2)⟩, ⟨(some 9), none, (.mov (.t 28))⟩, ⟨(some 10), none, (.mov (.t 29))⟩, ⟨(some 8), none, (.mov (.t 30))⟩]) (.seq (.seq (.ops [⟨(some 31), none, (.mov (.t 8))⟩, ⟨(some 32), none, (.bin .neq (.t 31) (.c (.int .i64 0)))⟩]) (.cond (.t 32) (.seq (.ops [⟨(some 33), none, (.ld (.t 2) (some 5))⟩, ⟨(some 34), none, (.mov (.t 8))⟩, ⟨none, none, (.st (.t 4) 5 (.t 33))⟩, ⟨(some 5), none, (.mov (.c (.complex .f64 0 0)))⟩, ⟨(some 6), none, (.mov (.t 34))⟩]) .ret) .skip)) (.seq (.ops [⟨(some 35), none, (.mov (.t 9))⟩, ⟨(some 36), none, (.mem (.cvf .f64) [(.t 35)])⟩, ⟨(some 37), none, (.fad (.t 2) 1)⟩, ⟨(some 38), none, (.ld (.t 37) none)⟩, ⟨(some 39), none, (.mov (.t 9))⟩, ⟨(some 40), none, (.ixs (.t 38) (.t 39) 4)⟩, ⟨(some 41), none, (.fad (.t 40) 2)⟩, ⟨(some 42), none, (.lde (.t 41) none)⟩, ⟨(some 43), none, (.len (.t 42))⟩, ⟨(some 44), none, (.mem (.cvf .f64) [(.t 43)])⟩, ⟨(some 45), none, (.mem .cpx [(.t 36), (.t 44)])⟩, ⟨(some 11), none, (.mov (.t 45))⟩]) (.seq (.label 0) (.seq (.seq (.ops [⟨(some 46), none, (.mov (.t 10))⟩, ⟨(some 47), none, (.mov (.t 9))⟩, ⟨(some 48), none, (.mov (.t 7))⟩, ⟨(some 49), none, (.bld [(.val (.int .i64 0)), (.val (.int .i64 0)), (.lit 1 [])] [(0, (1, (.c (.int .i64 1)))), (1, (1, (.t 47))), (2, (1, (.t 48)))])⟩, ⟨(some 50), none, (.mkl 89 3 [(.t 49)] false)⟩, ⟨(some 51), none, (.app (.t 46) (.t 50) 89 3 40 true)⟩, ⟨(some 52), none, (.len (.t 51))⟩, ⟨(some 53), none, (.mov (.c (.int .i64 0)))⟩]) (.block 0 (.loop F_log_one_L0))) (.seq (.ops [⟨(some 66), none, (.ld (.t 2) (some 5))⟩, ⟨(some 67), none, (.mov (.t 11))⟩, ⟨(some 68), none, (.mov (.t 8))⟩, ⟨none, none, (.st (.t 4) 5 (.t 66))⟩, ⟨(some 5), none, (.mov (.t 67))⟩, ⟨(some 6), none, (.mov (.t 68))⟩]) .ret)))))))))), 69, [(.cell 4 (some 5)), (.tmp 5), (.tmp 6)]⟩
theorem F_log_one_ok : compF Try.prog (fun d => !([50].contains d)) 62 = some F_log_one := by kernel_rfl
@[simp] abbrev n_log_Place : FuncId := 100
def F_log_Place : F := ⟨(.seq (.ops [⟨(some 2), none, (.box (.t 0))⟩, ⟨(some 4), none, (.mov (.c (.int .i64 0)))⟩, ⟨(some 5), none, (.nil 89 3 true)⟩, ⟨(some 6), none, (.mov (.c (.int .i64 0)))⟩]) (.seq (.seq (.ops [⟨(some 9), none, (.ld (.t 2) (some 5))⟩, ⟨(some 10), none, (.call 46 [(.t 9)])⟩, ⟨(some 11), none, (.un .not (.t 10))⟩, ⟨(some 12), none, (.mov (.t 11))⟩, ⟨(some 13), (some (12, false)), (.mov (.t 1))⟩, ⟨(some 14), (some (12, false)), (.bin .lss (.t 13) (.c (.int .i64 1)))⟩, ⟨(some 15), none, (.pick (.t 12) (.c (.bool true)) (.t 14))⟩, ⟨(some 16), none, (.mov (.t 15))⟩, ⟨(some 17), (some (16, false)), (.mov (.t 1))⟩, ⟨(some 18), (some (16, false)), (.fad (.t 2) 0)⟩, ⟨(some 19), (some (16, false)), (.ld (.t 18) none)⟩, ⟨(some 20), (some (16, false)), (.bin .gtr (.t 17) (.t 19))⟩, ⟨(some 21), none, (.pick (.t 16) (.c (.bool true)) (.t 20))⟩]) (.cond (.t 21) (.seq (.ops [⟨(some 4), none, (.mov (.c (.int .i64 0)))⟩, ⟨(some 5), none, (.nil 89 3 true)⟩, ⟨(some 6), none, (.mov (.c (.int .i64 1)))⟩]) .ret) .skip)) (.seq (.seq (.ops [⟨(some 22), none, (.ld (.t 2) (some 5))⟩, ⟨(some 23), none, (.mov (.t 1))⟩, ⟨(some 24), none, (.call 155 [(.t 22), (.c (.int .i64 1)), (.t 23)])⟩, ⟨(some 7), none, (.mov (.t 24))⟩]) (.seq (.ops [⟨(some 25), none, (.mov (.t 7))⟩, ⟨(some 26), none, (.bin .geq (.t 25) (.c (.int .i64 0)))⟩]) (.cond (.t 26) (.seq (.ops [⟨(some 27), none, (.mov (.t 7))⟩, ⟨(some 4), none, (.mov (.t 27))⟩, ⟨(some 5), none, (.nil 89 3 true)⟩, ⟨(some 6), none, (.mov (.c (.int .i64 0)))⟩]) .ret) .skip))) (.seq (.ops [⟨(some 28), none, (.ld (.t 2) (some 5))⟩, ⟨(some 29), none, (.mov (.t 1))⟩, ⟨(some 30), none, (.call 155 [(.t 28), (.c (.int .i64 0)), (.t 29)])⟩, ⟨(some 8), none, (.mov (.t 30))⟩]) (.seq (.block 0 (.seq (.ops [⟨(some 32), none, (.mov (.t 8))⟩, ⟨(some 33), none, (.bin .lss (.t 32) (.c (.int .i64 0)))⟩, ⟨(some 31), none, (.mov (.t 33))⟩]) (.cond (.t 31) (.seq (.ops [⟨(some 4), none, (.mov (.c (.int .i64 0)))⟩, ⟨(some 5), none, (.nil 89 3 true)⟩, ⟨(some 6), none, (.mov (.c (.int .i64 60)))⟩]) .ret) (.seq (.ops [⟨(some 35), none, (.ld (.t 2) (some 5))⟩, ⟨(some 36), none, (.call 156 [(.t 35)])⟩, ⟨(some 37), none, (.bin .geq (.t 36) (.c (.int .i64 3)))⟩, ⟨(some 34), none, (.mov (.t 37))⟩]) (.cond (.t 34) (.seq (.ops [⟨(some 38), none, (.mov (.t 8))⟩, ⟨(some 39), none, (.ld (.t 2) (some 5))⟩, ⟨(some 40), none, (.call 155 [(.t 39), (.c (.int .i64 1)), (.c (.int .i64 0))])⟩, ⟨(some 41), none, (.bld [(.val (.int .i64 0)), (.val (.int .i64 0)), (.lit 1 [])] [(0, (1, (.c (.int .i64 3)))), (1, (1, (.t 40)))])⟩, ⟨(some 42), none, (.mkl 89 3 [(.t 41)] true)⟩, ⟨(some 4), none, (.mov (.t 38))⟩, ⟨(some 5), none, (.mov (.t 42))⟩, ⟨(some 6), none, (.mov (.c (.int .i64 0)))⟩]) .ret) .skip))))) (.seq (.ops [⟨(some 43), none, (.mov (.t 8))⟩, ⟨(some 4), none, (.mov (.t 43))⟩, ⟨(some 5), none, (.nil 89 3 true)⟩, ⟨(some 6), none, (.mov (.c (.int .i64 0)))⟩]) .ret)))))), 44, [(.tmp 4), (.tmp 5), (.tmp 6)]⟩
theorem F_log_Place_ok : compF Try.prog (fun _ => true) 100 = some F_log_Place := by kernel_rfl
@[simp] abbrev n_log_first : FuncId := 155
def F_log_first : F := ⟨(.seq (.ops [⟨(some 3), none, (.box (.t 0))⟩, ⟨(some 4), none, (.box (.t 1))⟩, ⟨(some 5), none, (.box (.t 2))⟩, ⟨(some 6), none, (.mov (.c (.int .i64 0)))⟩]) (.seq (.ops [⟨(some 7), none, (.fad (.t 3) 1)⟩, ⟨(some 8), none, (.ld (.t 7) none)⟩, ⟨(some 9), none, (.mkf 186 [(.t 4), (.t 3), (.t 5)])⟩, ⟨(some 10), none, (.call 157 [(.t 8), (.t 9)])⟩, ⟨(some 6), none, (.mov (.t 10))⟩]) .ret)), 11, [(.tmp 6)]⟩
theorem F_log_first_ok : compF Try.prog (fun _ => true) 155 = some F_log_first := by kernel_rfl
@[simp] abbrev n_log_first_1 : FuncId := 186
def F_log_first_1 : F := ⟨(.seq (.ops [⟨(some 4), none, (.box (.t 0))⟩, ⟨(some 5), none, (.mov (.c (.bool false)))⟩]) (.seq (.dops false [] [⟨(some 6), none, (.fad (.t 4) 0)⟩, ⟨(some 7), none, (.ld (.t 6) none)⟩, ⟨(some 8), none, (.ld (.t 1) none)⟩, ⟨(some 9), none, (.bin .eql (.t 7) (.t 8))⟩, ⟨(some 10), none, (.mov (.t 9))⟩, ⟨(some 11), (some (10, true)), (.ld (.t 4) (some 4))⟩, ⟨(some 12), (some (10, true)), (.fad (.t 2) 0)⟩, ⟨(some 13), (some (10, true)), (.ld (.t 12) none)⟩, ⟨(some 14), (some (10, true)), (.callq 187 [(.t 11), (.t 13)])⟩, ⟨(some 15), (some (10, true)), (.ld (.t 3) none)⟩, ⟨(some 16), (some (10, true)), (.bin .geq (.t 14) (.t 15))⟩, ⟨(some 17), none, (.pick (.t 10) (.t 16) (.c (.bool false)))⟩, ⟨(some 5), none, (.mov (.t 17))⟩]) .ret)), 18, [(.tmp 5)]⟩
theorem F_log_first_1_ok : compF Try.prog (fun _ => true) 186 = some F_log_first_1 := by kernel_rfl
@[simp] abbrev n_slices_ContainsFunc_Zone : FuncId := 101
def F_slices_ContainsFunc_Zone : F := ⟨(.seq (.ops [⟨(some 4), none, (.mov (.c (.bool false)))⟩]) (.seq (.ops [⟨(some 5), none, (.mov (.t 0))⟩, ⟨(some 6), none, (.mov (.t 1))⟩, ⟨(some 7), none, (.call 157 [(.t 5), (.t 6)])⟩, ⟨(some 8), none, (.bin .geq (.t 7) (.c (.int .i64 0)))⟩, ⟨(some 4), none, (.mov (.t 8))⟩]) .ret)), 9, [(.tmp 4)]⟩
theorem F_slices_ContainsFunc_Zone_ok : compF Try.prog (fun _ => true) 101 = some F_slices_ContainsFunc_Zone := by kernel_rfl
@[simp] abbrev n_slices_IndexFunc_Zone : FuncId := 157
def F_slices_IndexFunc_Zone_L0 : C := (.seq (.ops [⟨(some 9), none, (.bin .lss (.t 8) (.t 7))⟩]) (.seq (.cond (.t 9) .skip (.exit 0)) (.seq (.block 1 (.seq (.ops [⟨(some 10), none, (.mov (.t 8))⟩, ⟨(some 5), none, (.mov (.t 10))⟩]) (.seq (.ops [⟨(some 11), none, (.mov (.t 1))⟩, ⟨(some 12), none, (.mov (.t 0))⟩, ⟨(some 13), none, (.mov (.t 5))⟩, ⟨(some 14), none, (.ixs (.t 12) (.t 13) 4)⟩, ⟨(some 15), none, (.lde (.t 14) (some 4))⟩, ⟨(some 16), none, (.callv (.t 11) [(.t 15)])⟩]) (.cond (.t 16) (.seq (.ops [⟨(some 17), none, (.mov (.t 5))⟩, ⟨(some 4), none, (.mov (.t 17))⟩]) .ret) .skip)))) (.ops [⟨(some 18), none, (.bin .add (.t 8) (.c (.int .i64 1)))⟩, ⟨(some 8), none, (.mov (.t 18))⟩]))))
def F_slices_IndexFunc_Zone : F := ⟨(.seq (.ops [⟨(some 4), none, (.mov (.c (.int .i64 0)))⟩]) (.seq (.seq (.ops [⟨(some 6), none, (.mov (.t 0))⟩, ⟨(some 7), none, (.len (.t 6))⟩, ⟨(some 8), none, (.mov (.c (.int .i64 0)))⟩]) (.block 0 (.loop F_slices_IndexFunc_Zone_L0))) (.seq (.ops [⟨(some 4), none, (.mov (.c (.int .i64 (-1))))⟩]) .ret))), 19, [(.tmp 4)]⟩
theorem F_slices_IndexFunc_Zone_ok : compF Try.prog (fun _ => true) 157 = some F_slices_IndexFunc_Zone := by kernel_rfl
@[simp] abbrev n_slices_Clone_Zone : FuncId := 159
def F_slices_Clone_Zone : F := ⟨(.seq (.ops [⟨(some 2), none, (.nil 85 4 false)⟩]) (.seq (.seq (.ops [⟨(some 3), none, (.mov (.t 0))⟩, ⟨(some 4), none, (.snil false (.t 3))⟩]) (.cond (.t 4) (.seq (.ops [⟨(some 2), none, (.nil 85 4 false)⟩]) .ret) .skip)) (.seq (.ops [⟨(some 5), none, (.mem (.eml 4) [])⟩, ⟨(some 6), none, (.mov (.t 0))⟩, ⟨(some 7), none, (.mem (.apb 85 4 48) [(.t 5), (.t 6)])⟩, ⟨(some 2), none, (.mov (.t 7))⟩]) .ret))), 8, [(.tmp 2)]⟩
theorem F_slices_Clone_Zone_ok : compF Try.prog (fun d => !([2, 2097157, 2097159].contains d)) 159 = some F_slices_Clone_Zone := by kernel_rfl
@[simp] abbrev n_zone_Check : FuncId := 103
def F_zone_Check : F := ⟨(.seq (.ops [⟨(some 2), none, (.box (.t 0))⟩, ⟨(some 4), none, (.mov (.c (.bool false)))⟩]) (.seq (.ops [⟨(some 6), none, (.fad (.t 2) 2)⟩, ⟨(some 7), none, (.ld (.t 6) none)⟩, ⟨(some 8), none, (.len (.t 7))⟩, ⟨(some 5), none, (.mov (.t 8))⟩]) (.seq (.seq (.ops [⟨(some 9), none, (.mov (.t 1))⟩, ⟨(some 10), none, (.bin .lss (.t 9) (.c (.int .i64 1)))⟩, ⟨(some 11), none, (.mov (.t 10))⟩, ⟨(some 12), (some (11, false)), (.mov (.t 1))⟩, ⟨(some 13), (some (11, false)), (.bin .gtr (.t 12) (.c (.int .i64 1048576)))⟩, ⟨(some 14), none, (.pick (.t 11) (.c (.bool true)) (.t 13))⟩, ⟨(some 15), none, (.mov (.t 14))⟩, ⟨(some 16), (some (15, false)), (.mov (.t 5))⟩, ⟨(some 17), (some (15, false)), (.mov (.t 1))⟩, ⟨(some 18), (some (15, false)), (.bin .gtr (.t 16) (.t 17))⟩, ⟨(some 19), none, (.pick (.t 15) (.c (.bool true)) (.t 18))⟩, ⟨(some 20), none, (.mov (.t 19))⟩, ⟨(some 21), (some (20, false)), (.fad (.t 2) 3)⟩, ⟨(some 22), (some (20, false)), (.ld (.t 21) none)⟩, ⟨(some 23), (some (20, false)), (.bin .lss (.t 22) (.c (.int .i64 0)))⟩, ⟨(some 24), none, (.pick (.t 20) (.c (.bool true)) (.t 23))⟩, ⟨(some 25), none, (.mov (.t 24))⟩, ⟨(some 26), (some (25, false)), (.fad (.t 2) 3)⟩, ⟨(some 27), (some (25, false)), (.ld (.t 26) none)⟩, ⟨(some 28), (some (25, false)), (.mov (.t 5))⟩, ⟨(some 29), (some (25, false)), (.bin .gtr (.t 27) (.t 28))⟩, ⟨(some 30), none, (.pick (.t 25) (.c (.bool true)) (.t 29))⟩, ⟨(some 31), none, (.mov (.t 30))⟩, ⟨(some 32), (some (31, false)), (.fad (.t 2) 1)⟩, ⟨(some 33), (some (31, false)), (.ld (.t 32) none)⟩, ⟨(some 34), (some (31, false)), (.bin .lss (.t 33) (.c (.int .i64 0)))⟩, ⟨(some 35), none, (.pick (.t 31) (.c (.bool true)) (.t 34))⟩, ⟨(some 36), none, (.mov (.t 35))⟩, ⟨(some 37), (some (36, false)), (.fad (.t 2) 1)⟩, ⟨(some 38), (some (36, false)), (.ld (.t 37) none)⟩, ⟨(some 39), (some (36, false)), (.bin .gtr (.t 38) (.c (.int .i64 1073741824)))⟩, ⟨(some 40), none, (.pick (.t 36) (.c (.bool true)) (.t 39))⟩]) (.cond (.t 40) (.seq (.ops [⟨(some 4), none, (.mov (.c (.bool false)))⟩]) .ret) .skip)) (.seq (.block 0 (.seq (.ops [⟨(some 42), none, (.fad (.t 2) 0)⟩, ⟨(some 43), none, (.ld (.t 42) none)⟩, ⟨(some 44), none, (.bin .eql (.t 43) (.c (.int .i64 0)))⟩, ⟨(some 41), none, (.mov (.t 44))⟩]) (.cond (.t 41) (.seq (.ops [⟨(some 45), none, (.mov (.t 5))⟩, ⟨(some 46), none, (.bin .eql (.t 45) (.c (.int .i64 0)))⟩, ⟨(some 4), none, (.mov (.t 46))⟩]) .ret) (.seq (.ops [⟨(some 48), none, (.ld (.t 2) (some 4))⟩, ⟨(some 49), none, (.call 158 [(.t 48)])⟩, ⟨(some 47), none, (.mov (.t 49))⟩]) (.cond (.t 47) (.seq (.ops [⟨(some 50), none, (.mov (.t 5))⟩, ⟨(some 51), none, (.bin .gtr (.t 50) (.c (.int .i64 0)))⟩, ⟨(some 52), none, (.mov (.t 51))⟩, ⟨(some 53), (some (52, true)), (.mov (.t 5))⟩, ⟨(some 54), (some (52, true)), (.mov (.t 1))⟩, ⟨(some 55), (some (52, true)), (.bin .lss (.t 53) (.t 54))⟩, ⟨(some 56), none, (.pick (.t 52) (.t 55) (.c (.bool false)))⟩, ⟨(some 4), none, (.mov (.t 56))⟩]) .ret) .skip))))) (.seq (.ops [⟨(some 57), none, (.fad (.t 2) 0)⟩, ⟨(some 58), none, (.ld (.t 57) none)⟩, ⟨(some 59), none, (.bin .eql (.t 58) (.c (.int .i64 3)))⟩, ⟨(some 4), none, (.mov (.t 59))⟩]) .ret))))), 60, [(.tmp 4)]⟩
theorem F_zone_Check_ok : compF Try.prog (fun _ => true) 103 = some F_zone_Check := by kernel_rfl
@[simp] abbrev n_zone_takes : FuncId := 158
def F_zone_takes : F := ⟨(.seq (.ops [⟨(some 1), none, (.box (.t 0))⟩, ⟨(some 2), none, (.mov (.c (.bool false)))⟩]) (.seq (.seq (.ops [⟨(some 3), none, (.fad (.t 1) 0)⟩, ⟨(some 4), none, (.ld (.t 3) none)⟩]) (.block 0 (.seq (.block 2 (.block 1 (.seq (.seq (.seq (.ops [⟨(some 6), none, (.bin .eql (.t 4) (.c (.int .i64 0)))⟩, ⟨(some 5), none, (.mov (.t 6))⟩]) (.cond (.t 5) (.exit 1) .skip)) (.seq (.seq (.ops [⟨(some 8), none, (.bin .eql (.t 4) (.c (.int .i64 1)))⟩, ⟨(some 7), none, (.mov (.t 8))⟩]) (.cond (.t 7) .skip (.ops [⟨(some 9), none, (.bin .eql (.t 4) (.c (.int .i64 2)))⟩, ⟨(some 7), none, (.mov (.t 9))⟩]))) (.cond (.t 7) (.exit 2) .skip))) (.exit 0)))) (.seq (.seq (.ops [⟨(some 2), none, (.mov (.c (.bool true)))⟩]) .ret) (.exit 0))))) (.seq (.ops [⟨(some 2), none, (.mov (.c (.bool false)))⟩]) .ret))), 10, [(.tmp 2)]⟩
theorem F_zone_takes_ok : compF Try.prog (fun _ => true) 158 = some F_zone_takes := by kernel_rfl
@[simp] abbrev n_zone_Room : FuncId := 187
def F_zone_Room : F := ⟨(.seq (.ops [⟨(some 2), none, (.box (.t 0))⟩, ⟨(some 4), none, (.mov (.c (.int .i64 0)))⟩]) (.seq (.seq (.ops [⟨(some 5), none, (.ld (.t 2) (some 4))⟩, ⟨(some 6), none, (.mov (.t 1))⟩, ⟨(some 7), none, (.call 103 [(.t 5), (.t 6)])⟩, ⟨(some 8), none, (.un .not (.t 7))⟩, ⟨(some 9), none, (.mov (.t 8))⟩, ⟨(some 10), (some (9, false)), (.ld (.t 2) (some 4))⟩, ⟨(some 11), (some (9, false)), (.call 158 [(.t 10)])⟩, ⟨(some 12), (some (9, false)), (.un .not (.t 11))⟩, ⟨(some 13), none, (.pick (.t 9) (.c (.bool true)) (.t 12))⟩]) (.cond (.t 13) (.seq (.ops [⟨(some 4), none, (.mov (.c (.int .i64 0)))⟩]) .ret) .skip)) (.seq (.ops [⟨(some 14), none, (.mov (.t 1))⟩, ⟨(some 15), none, (.fad (.t 2) 2)⟩, ⟨(some 16), none, (.ld (.t 15) none)⟩, ⟨(some 17), none, (.len (.t 16))⟩, ⟨(some 18), none, (.bin .sub (.t 14) (.t 17))⟩, ⟨(some 4), none, (.mov (.t 18))⟩]) .ret))), 19, [(.tmp 4)]⟩
theorem F_zone_Room_ok : compF Try.prog (fun _ => true) 187 = some F_zone_Room := by kernel_rfl
@[simp] abbrev n_zone_done : FuncId := 166
def F_zone_done : F := ⟨(.seq (.ops [⟨(some 3), none, (.box (.t 0))⟩, ⟨(some 6), none, (.alc [(.val (.int .i64 0)), (.val (.int .i64 0)), (.lit 1 []), (.val (.int .i64 0))])⟩, ⟨(some 7), none, (.mov (.c (.int .i64 0)))⟩]) (.seq (.ops [⟨(some 8), none, (.mkl 5 1 [] true)⟩, ⟨(some 9), none, (.fad (.t 3) 2)⟩, ⟨(some 10), none, (.ld (.t 9) none)⟩, ⟨(some 11), none, (.app (.t 8) (.t 10) 5 1 1 true)⟩, ⟨(some 12), none, (.fad (.t 3) 2)⟩, ⟨none, none, (.st (.t 12) 1 (.t 11))⟩]) (.seq (.seq (.ops [⟨(some 13), none, (.mov (.t 1))⟩, ⟨(some 14), none, (.un .not (.t 13))⟩]) (.cond (.t 14) (.seq (.ops [⟨(some 15), none, (.ld (.t 3) (some 4))⟩, ⟨none, none, (.st (.t 6) 4 (.t 15))⟩, ⟨(some 7), none, (.mov (.c (.int .i64 30)))⟩]) .ret) .skip)) (.seq (.ops [⟨(some 16), none, (.mov (.t 2))⟩, ⟨(some 17), none, (.callv (.t 16) [(.t 3)])⟩]) (.seq (.ops [⟨(some 18), none, (.ld (.t 3) (some 4))⟩, ⟨none, none, (.st (.t 6) 4 (.t 18))⟩, ⟨(some 7), none, (.mov (.c (.int .i64 0)))⟩]) .ret))))), 19, [(.cell 6 (some 4)), (.tmp 7)]⟩
theorem F_zone_done_ok : compF Try.prog (fun _ => true) 166 = some F_zone_done := by kernel_rfl
@[simp] abbrev n_zone_filled : FuncId := 168
def F_zone_filled : F := ⟨(.seq (.ops [⟨(some 3), none, (.box (.t 0))⟩, ⟨(some 6), none, (.mov (.c (.int .i64 0)))⟩]) (.seq (.seq (.ops [⟨(some 7), none, (.fad (.t 3) 2)⟩, ⟨(some 8), none, (.ld (.t 7) none)⟩, ⟨(some 9), none, (.len (.t 8))⟩]) (.block 0 (.seq (.ops [⟨(some 11), none, (.bin .eql (.t 9) (.c (.int .i64 0)))⟩, ⟨(some 10), none, (.mov (.t 11))⟩]) (.cond (.t 10) (.seq (.ops [⟨(some 6), none, (.mov (.c (.int .i64 0)))⟩]) .ret) (.seq (.ops [⟨(some 13), none, (.mov (.t 1))⟩, ⟨(some 14), none, (.bin .eql (.t 9) (.t 13))⟩, ⟨(some 12), none, (.mov (.t 14))⟩]) (.cond (.t 12) (.seq (.ops [⟨(some 6), none, (.mov (.c (.int .i64 3)))⟩]) .ret) .skip)))))) (.seq (.ops [⟨(some 15), none, (.mov (.t 2))⟩, ⟨(some 6), none, (.mov (.t 15))⟩]) .ret))), 16, [(.tmp 6)]⟩
theorem F_zone_filled_ok : compF Try.prog (fun _ => true) 168 = some F_zone_filled := by kernel_rfl
@[simp] abbrev n_zone_Flush : FuncId := 161
def F_zone_Flush : F := ⟨(.seq (.ops [⟨(some 1), none, (.box (.t 0))⟩, ⟨(some 2), none, (.alc [(.val (.int .i64 0)), (.val (.int .i64 0)), (.lit 1 []), (.val (.int .i64 0))])⟩]) (.seq (.ops [⟨(some 4), none, (.ld (.t 1) (some 4))⟩, ⟨(some 5), none, (.call 166 [(.t 4), (.c (.bool true)), (.f 192)])⟩, ⟨(some 3), none, (.mov (.t 5))⟩, ⟨(some 6), none, (.ext (.t 3) 0)⟩, ⟨(some 7), none, (.ext (.t 3) 1)⟩, ⟨none, none, (.st (.t 1) 4 (.t 6))⟩]) (.seq (.ops [⟨(some 8), none, (.ld (.t 1) (some 4))⟩, ⟨none, none, (.st (.t 2) 4 (.t 8))⟩]) .ret))), 9, [(.cell 2 (some 4))]⟩
theorem F_zone_Flush_ok : compF Try.prog (fun _ => true) 161 = some F_zone_Flush := by kernel_rfl
@[simp] abbrev n_zone_Flush_1 : FuncId := 192
def F_zone_Flush_1 : F := ⟨(.ops [⟨(some 2), none, (.mov (.t 0))⟩, ⟨(some 3), none, (.mov (.t 0))⟩, ⟨(some 4), none, (.mem .nck [(.t 3)])⟩, ⟨(some 5), none, (.fad (.t 4) 2)⟩, ⟨(some 6), none, (.ld (.t 5) none)⟩, ⟨(some 7), none, (.len (.t 6))⟩, ⟨(some 8), none, (.mem .nck [(.t 2)])⟩, ⟨(some 9), none, (.fad (.t 8) 3)⟩, ⟨none, none, (.st (.t 9) 1 (.t 7))⟩]), 10, []⟩
theorem F_zone_Flush_1_ok : compF Try.prog (fun _ => true) 192 = some F_zone_Flush_1 := by kernel_rfl
@[simp] abbrev n_zone_Append : FuncId := 203
def F_zone_Append : F := ⟨(.seq (.ops [⟨(some 3), none, (.box (.t 0))⟩, ⟨(some 4), none, (.box (.t 1))⟩, ⟨(some 5), none, (.box (.t 2))⟩, ⟨(some 6), none, (.alc [(.val (.int .i64 0)), (.val (.int .i64 0)), (.lit 1 []), (.val (.int .i64 0))])⟩, ⟨(some 7), none, (.mov (.c (.int .i64 0)))⟩]) (.seq (.seq (.ops [⟨(some 8), none, (.ld (.t 3) (some 4))⟩, ⟨(some 9), none, (.ld (.t 4) none)⟩, ⟨(some 10), none, (.call 103 [(.t 8), (.t 9)])⟩, ⟨(some 11), none, (.un .not (.t 10))⟩, ⟨(some 12), none, (.mov (.t 11))⟩, ⟨(some 13), (some (12, false)), (.ld (.t 5) none)⟩, ⟨(some 14), (some (12, false)), (.len (.t 13))⟩, ⟨(some 15), (some (12, false)), (.bin .eql (.t 14) (.c (.int .i64 0)))⟩, ⟨(some 16), none, (.pick (.t 12) (.c (.bool true)) (.t 15))⟩]) (.cond (.t 16) (.seq (.ops [⟨(some 17), none, (.fad (.t 3) 2)⟩, ⟨(some 18), none, (.ld (.t 17) none)⟩, ⟨(some 19), none, (.call 77 [(.t 18)])⟩, ⟨(some 20), none, (.fad (.t 3) 2)⟩, ⟨none, none, (.st (.t 20) 1 (.t 19))⟩]) (.seq (.ops [⟨(some 21), none, (.ld (.t 3) (some 4))⟩, ⟨none, none, (.st (.t 6) 4 (.t 21))⟩, ⟨(some 7), none, (.mov (.c (.int .i64 1)))⟩]) .ret)) .skip)) (.seq (.dops false [] [⟨(some 22), none, (.ld (.t 3) (some 4))⟩, ⟨(some 23), none, (.ld (.t 5) none)⟩, ⟨(some 24), none, (.len (.t 23))⟩, ⟨(some 25), none, (.ld (.t 3) (some 4))⟩, ⟨(some 26), none, (.ld (.t 4) none)⟩, ⟨(some 29), none, (.mkf 211 [(.t 5), (.t 4)])⟩, ⟨(some 27), none, (.callf (.f 187) [(.t 25), (.t 26)] [3, 5])⟩, ⟨(some 28), none, (.bin .leq (.t 24) (.t 27))⟩, ⟨(some 30), none, (.callf (.f 166) [(.t 22), (.t 28), (.t 29)] [])⟩, ⟨(some 31), none, (.ext (.t 30) 0)⟩, ⟨(some 32), none, (.ext (.t 30) 1)⟩, ⟨none, none, (.st (.t 6) 4 (.t 31))⟩, ⟨(some 7), none, (.mov (.t 32))⟩]) .ret))), 33, [(.cell 6 (some 4)), (.tmp 7)]⟩
theorem F_zone_Append_ok : compF Try.prog (fun d => !([4194305].contains d)) 203 = some F_zone_Append := by kernel_rfl
@[simp] abbrev n_zone_Append_1 : FuncId := 211
def F_zone_Append_1 : F := ⟨(.seq (.dops false [] [⟨(some 4), none, (.mov (.t 0))⟩, ⟨(some 5), none, (.mov (.t 0))⟩, ⟨(some 6), none, (.mem .nck [(.t 5)])⟩, ⟨(some 7), none, (.fad (.t 6) 2)⟩, ⟨(some 8), none, (.ld (.t 7) none)⟩, ⟨(some 9), none, (.ld (.t 1) none)⟩, ⟨(some 10), none, (.app (.t 8) (.t 9) 5 1 1 true)⟩, ⟨(some 11), none, (.mem .nck [(.t 4)])⟩, ⟨(some 12), none, (.fad (.t 11) 2)⟩, ⟨none, none, (.st (.t 12) 1 (.t 10))⟩]) (.dops false [] [⟨(some 13), none, (.mov (.t 0))⟩, ⟨(some 14), none, (.mov (.t 0))⟩, ⟨(some 15), none, (.mem .nck [(.t 14)])⟩, ⟨(some 16), none, (.ld (.t 15) (some 4))⟩, ⟨(some 17), none, (.ld (.t 2) none)⟩, ⟨(some 18), none, (.call 168 [(.t 16), (.t 17), (.c (.int .i64 1))])⟩, ⟨(some 19), none, (.mem .nck [(.t 13)])⟩, ⟨(some 20), none, (.fad (.t 19) 0)⟩, ⟨none, none, (.st (.t 20) 1 (.t 18))⟩])), 21, []⟩
theorem F_zone_Append_1_ok : compF Try.prog (fun _ => true) 211 = some F_zone_Append_1 := by kernel_rfl
@[simp] abbrev n_zone_Reset : FuncId := 204
def F_zone_Reset : F := ⟨(.seq (.ops [⟨(some 1), none, (.box (.t 0))⟩, ⟨(some 2), none, (.alc [(.val (.int .i64 0)), (.val (.int .i64 0)), (.lit 1 []), (.val (.int .i64 0))])⟩, ⟨(some 3), none, (.mov (.c (.int .i64 0)))⟩]) (.seq (.ops [⟨(some 5), none, (.ld (.t 1) (some 4))⟩, ⟨(some 6), none, (.call 158 [(.t 5)])⟩, ⟨(some 7), none, (.mov (.t 6))⟩, ⟨(some 8), (some (7, false)), (.fad (.t 1) 0)⟩, ⟨(some 9), (some (7, false)), (.ld (.t 8) none)⟩, ⟨(some 10), (some (7, false)), (.bin .eql (.t 9) (.c (.int .i64 3)))⟩, ⟨(some 11), none, (.pick (.t 7) (.c (.bool true)) (.t 10))⟩, ⟨(some 12), none, (.mov (.t 11))⟩, ⟨(some 13), (some (12, true)), (.fad (.t 1) 1)⟩, ⟨(some 14), (some (12, true)), (.ld (.t 13) none)⟩, ⟨(some 15), (some (12, true)), (.bin .geq (.t 14) (.c (.int .i64 0)))⟩, ⟨(some 16), none, (.pick (.t 12) (.t 15) (.c (.bool false)))⟩, ⟨(some 17), none, (.mov (.t 16))⟩, ⟨(some 18), (some (17, true)), (.fad (.t 1) 1)⟩, ⟨(some 19), (some (17, true)), (.ld (.t 18) none)⟩, ⟨(some 20), (some (17, true)), (.bin .lss (.t 19) (.c (.int .i64 1073741824)))⟩, ⟨(some 21), none, (.pick (.t 17) (.t 20) (.c (.bool false)))⟩, ⟨(some 4), none, (.mov (.t 21))⟩]) (.seq (.ops [⟨(some 22), none, (.ld (.t 1) (some 4))⟩, ⟨(some 23), none, (.mov (.t 4))⟩, ⟨(some 24), none, (.call 166 [(.t 22), (.t 23), (.f 212)])⟩, ⟨(some 25), none, (.ext (.t 24) 0)⟩, ⟨(some 26), none, (.ext (.t 24) 1)⟩, ⟨none, none, (.st (.t 2) 4 (.t 25))⟩, ⟨(some 3), none, (.mov (.t 26))⟩]) .ret))), 27, [(.cell 2 (some 4)), (.tmp 3)]⟩
theorem F_zone_Reset_ok : compF Try.prog (fun _ => true) 204 = some F_zone_Reset := by kernel_rfl
@[simp] abbrev n_zone_Reset_1 : FuncId := 212
def F_zone_Reset_1 : F := ⟨(.ops [⟨(some 2), none, (.mov (.t 0))⟩, ⟨(some 3), none, (.mov (.t 0))⟩, ⟨(some 4), none, (.mem .nck [(.t 3)])⟩, ⟨(some 5), none, (.fad (.t 4) 1)⟩, ⟨(some 6), none, (.ld (.t 5) none)⟩, ⟨(some 7), none, (.bin .add (.t 6) (.c (.int .i64 1)))⟩, ⟨(some 8), none, (.bld [(.val (.int .i64 0)), (.val (.int .i64 0)), (.lit 1 []), (.val (.int .i64 0))] [(1, (1, (.t 7)))])⟩, ⟨(some 9), none, (.mem .nck [(.t 2)])⟩, ⟨none, none, (.st (.t 9) 4 (.t 8))⟩]), 10, []⟩
theorem F_zone_Reset_1_ok : compF Try.prog (fun _ => true) 212 = some F_zone_Reset_1 := by kernel_rfl
@[simp] abbrev n_zone_Finish : FuncId := 205
def F_zone_Finish : F := ⟨(.seq (.ops [⟨(some 1), none, (.box (.t 0))⟩, ⟨(some 2), none, (.alc [(.val (.int .i64 0)), (.val (.int .i64 0)), (.lit 1 []), (.val (.int .i64 0))])⟩, ⟨(some 3), none, (.mov (.c (.int .i64 0)))⟩]) (.seq (.dops false [] [⟨(some 4), none, (.ld (.t 1) (some 4))⟩, ⟨(some 5), none, (.ld (.t 1) (some 4))⟩, ⟨(some 6), none, (.callf (.f 158) [(.t 5)] [1])⟩, ⟨(some 7), none, (.mov (.t 6))⟩, ⟨(some 8), (some (7, true)), (.fad (.t 1) 0)⟩, ⟨(some 9), (some (7, true)), (.ld (.t 8) none)⟩, ⟨(some 10), (some (7, true)), (.bin .neq (.t 9) (.c (.int .i64 0)))⟩, ⟨(some 11), none, (.pick (.t 7) (.t 10) (.c (.bool false)))⟩, ⟨(some 12), none, (.callf (.f 166) [(.t 4), (.t 11), (.f 213)] [])⟩, ⟨(some 13), none, (.ext (.t 12) 0)⟩, ⟨(some 14), none, (.ext (.t 12) 1)⟩, ⟨none, none, (.st (.t 2) 4 (.t 13))⟩, ⟨(some 3), none, (.mov (.t 14))⟩]) .ret)), 15, [(.cell 2 (some 4)), (.tmp 3)]⟩
theorem F_zone_Finish_ok : compF Try.prog (fun d => !([4194305].contains d)) 205 = some F_zone_Finish := by kernel_rfl
@[simp] abbrev n_zone_Finish_1 : FuncId := 213
def F_zone_Finish_1 : F := ⟨(.ops [⟨(some 2), none, (.mov (.t 0))⟩, ⟨(some 3), none, (.mem .nck [(.t 2)])⟩, ⟨(some 4), none, (.fad (.t 3) 0)⟩, ⟨none, none, (.st (.t 4) 1 (.c (.int .i64 3)))⟩]), 5, []⟩
theorem F_zone_Finish_1_ok : compF Try.prog (fun _ => true) 213 = some F_zone_Finish_1 := by kernel_rfl
@[simp] abbrev n_zone_Close : FuncId := 206
def F_zone_Close : F := ⟨(.seq (.ops [⟨(some 1), none, (.box (.t 0))⟩, ⟨(some 2), none, (.alc [(.val (.int .i64 0)), (.val (.int .i64 0)), (.lit 1 []), (.val (.int .i64 0))])⟩, ⟨(some 3), none, (.mov (.c (.int .i64 0)))⟩]) (.seq (.ops [⟨(some 4), none, (.ld (.t 1) (some 4))⟩, ⟨(some 5), none, (.fad (.t 1) 0)⟩, ⟨(some 6), none, (.ld (.t 5) none)⟩, ⟨(some 7), none, (.bin .eql (.t 6) (.c (.int .i64 1)))⟩, ⟨(some 8), none, (.call 166 [(.t 4), (.t 7), (.f 214)])⟩, ⟨(some 9), none, (.ext (.t 8) 0)⟩, ⟨(some 10), none, (.ext (.t 8) 1)⟩, ⟨none, none, (.st (.t 2) 4 (.t 9))⟩, ⟨(some 3), none, (.mov (.t 10))⟩]) .ret)), 11, [(.cell 2 (some 4)), (.tmp 3)]⟩
theorem F_zone_Close_ok : compF Try.prog (fun _ => true) 206 = some F_zone_Close := by kernel_rfl
@[simp] abbrev n_zone_Close_1 : FuncId := 214
def F_zone_Close_1 : F := ⟨(.ops [⟨(some 2), none, (.mov (.t 0))⟩, ⟨(some 3), none, (.mem .nck [(.t 2)])⟩, ⟨(some 4), none, (.fad (.t 3) 0)⟩, ⟨none, none, (.st (.t 4) 1 (.c (.int .i64 2)))⟩]), 5, []⟩
theorem F_zone_Close_1_ok : compF Try.prog (fun _ => true) 214 = some F_zone_Close_1 := by kernel_rfl
@[simp] abbrev n_dev_command_append : FuncId := 188
def F_dev_command_append : F := ⟨(.seq (.ops [⟨(some 3), none, (.box (.t 0))⟩, ⟨(some 5), none, (.box (.t 2))⟩, ⟨(some 6), none, (.alc [(.val (.int .i64 0)), (.val (.int .i64 0)), (.lit 1 []), (.val (.int .i64 0))])⟩, ⟨(some 7), none, (.mov (.c (.int .i64 0)))⟩]) (.seq (.seq (.ops [⟨(some 8), none, (.fad (.t 5) 0)⟩, ⟨(some 9), none, (.ld (.t 8) none)⟩, ⟨(some 10), none, (.bin .neq (.t 9) (.c (.int .i64 1)))⟩, ⟨(some 11), none, (.mov (.t 10))⟩, ⟨(some 12), (some (11, true)), (.mov (.t 1))⟩, ⟨(some 13), (some (11, true)), (.mem .nck [(.t 12)])⟩, ⟨(some 14), (some (11, true)), (.ld (.t 13) (some 5))⟩, ⟨(some 15), (some (11, true)), (.call 156 [(.t 14)])⟩, ⟨(some 16), (some (11, true)), (.bin .geq (.t 15) (.c (.int .i64 3)))⟩, ⟨(some 17), none, (.pick (.t 11) (.t 16) (.c (.bool false)))⟩]) (.cond (.t 17) (.seq (.ops [⟨(some 18), none, (.ld (.t 5) (some 4))⟩, ⟨none, none, (.st (.t 6) 4 (.t 18))⟩, ⟨(some 7), none, (.mov (.c (.int .i64 30)))⟩]) .ret) .skip)) (.seq (.dops false [] [⟨(some 19), none, (.ld (.t 5) (some 4))⟩, ⟨(some 20), none, (.mov (.t 1))⟩, ⟨(some 21), none, (.mem .nck [(.t 20)])⟩, ⟨(some 22), none, (.fad (.t 21) 0)⟩, ⟨(some 23), none, (.ld (.t 22) none)⟩, ⟨(some 24), none, (.fad (.t 3) 2)⟩, ⟨(some 25), none, (.ld (.t 24) none)⟩, ⟨(some 26), none, (.call 203 [(.t 19), (.t 23), (.t 25)])⟩, ⟨(some 27), none, (.ext (.t 26) 0)⟩, ⟨(some 28), none, (.ext (.t 26) 1)⟩, ⟨none, none, (.st (.t 6) 4 (.t 27))⟩, ⟨(some 7), none, (.mov (.t 28))⟩]) .ret))), 29, [(.cell 6 (some 4)), (.tmp 7)]⟩
theorem F_dev_command_append_ok : compF Try.prog (fun _ => true) 188 = some F_dev_command_append := by kernel_rfl
@[simp] abbrev n_dev_command_reset : FuncId := 189
def F_dev_command_reset : F := ⟨(.seq (.ops [⟨(some 3), none, (.box (.t 0))⟩, ⟨(some 5), none, (.box (.t 2))⟩, ⟨(some 6), none, (.alc [(.val (.int .i64 0)), (.val (.int .i64 0)), (.lit 1 []), (.val (.int .i64 0))])⟩, ⟨(some 7), none, (.mov (.c (.int .i64 0)))⟩]) (.seq (.ops [⟨(some 8), none, (.ld (.t 5) (some 4))⟩, ⟨(some 9), none, (.call 204 [(.t 8)])⟩, ⟨(some 10), none, (.ext (.t 9) 0)⟩, ⟨(some 11), none, (.ext (.t 9) 1)⟩, ⟨none, none, (.st (.t 6) 4 (.t 10))⟩, ⟨(some 7), none, (.mov (.t 11))⟩]) .ret)), 12, [(.cell 6 (some 4)), (.tmp 7)]⟩
theorem F_dev_command_reset_ok : compF Try.prog (fun _ => true) 189 = some F_dev_command_reset := by kernel_rfl
@[simp] abbrev n_dev_command_finish : FuncId := 190
def F_dev_command_finish : F := ⟨(.seq (.ops [⟨(some 3), none, (.box (.t 0))⟩, ⟨(some 5), none, (.box (.t 2))⟩, ⟨(some 6), none, (.alc [(.val (.int .i64 0)), (.val (.int .i64 0)), (.lit 1 []), (.val (.int .i64 0))])⟩, ⟨(some 7), none, (.mov (.c (.int .i64 0)))⟩]) (.seq (.ops [⟨(some 8), none, (.ld (.t 5) (some 4))⟩, ⟨(some 9), none, (.call 205 [(.t 8)])⟩, ⟨(some 10), none, (.ext (.t 9) 0)⟩, ⟨(some 11), none, (.ext (.t 9) 1)⟩, ⟨none, none, (.st (.t 6) 4 (.t 10))⟩, ⟨(some 7), none, (.mov (.t 11))⟩]) .ret)), 12, [(.cell 6 (some 4)), (.tmp 7)]⟩
theorem F_dev_command_finish_ok : compF Try.prog (fun _ => true) 190 = some F_dev_command_finish := by kernel_rfl
@[simp] abbrev n_dev_command_close : FuncId := 191
def F_dev_command_close : F := ⟨(.seq (.ops [⟨(some 3), none, (.box (.t 0))⟩, ⟨(some 5), none, (.box (.t 2))⟩, ⟨(some 6), none, (.alc [(.val (.int .i64 0)), (.val (.int .i64 0)), (.lit 1 []), (.val (.int .i64 0))])⟩, ⟨(some 7), none, (.mov (.c (.int .i64 0)))⟩]) (.seq (.ops [⟨(some 8), none, (.ld (.t 5) (some 4))⟩, ⟨(some 9), none, (.call 206 [(.t 8)])⟩, ⟨(some 10), none, (.ext (.t 9) 0)⟩, ⟨(some 11), none, (.ext (.t 9) 1)⟩, ⟨none, none, (.st (.t 6) 4 (.t 10))⟩, ⟨(some 7), none, (.mov (.t 11))⟩]) .ret)), 12, [(.cell 6 (some 4)), (.tmp 7)]⟩
theorem F_dev_command_close_ok : compF Try.prog (fun _ => true) 191 = some F_dev_command_close := by kernel_rfl
end Go.Av

namespace Go.Av
open Enc (enc dec)
open Cel (cs dc)
open Go.RowKit

theorem Pure.thaw {P : Program} {f : FuncId} {args args' : List V} {sz ty : Nat} {xs : List (List V)} {l : List V} (hW : WkL args args') (hcl : cleanL args' = true)
    (h : Pure P f args' (.tuple (.row 0 sz xs :: l)) [(ty, sz, xs.length)]) (hl : ∀ v ∈ l, ∃ u, v = .val u) (hx : ∀ v ∈ xs.flatten, ∃ u, v = V.val u) (hne : xs ≠ []) (m : Mem) :
    Loc P f args m (.tuple (.ref (.sli 0 sz xs.length) m.boxes.length :: l)) { m with boxes := m.boxes ++ [xs.flatten] } := by
  obtain ⟨hc, hres, h3⟩ := h
  refine ⟨hc, fun B I0 w0 M w vals hg hr => ?_⟩
  have hr' : RepL ⟨[], [], M.I, fun _ => none⟩ w args' vals.toList := RepL.clean (M := M) (M' := ⟨[], [], M.I, fun _ => none⟩) (fun _ _ h => h) _ _ hcl (hW _ _ _ hr)
  refine (h3 M.I w vals hg.ilt hr').mono fun e w' ⟨x, M1, he, h1, hx1⟩ => ?_
  obtain ⟨vs, rfl, hv⟩ := hx1
  obtain ⟨y, r, hvs, hy, hrl⟩ := hv
  obtain ⟨G, hG, hy⟩ := hy
  rcases hy with ⟨h0, _⟩ | ⟨g, c, hyv, hnc, hsz, hX, hin⟩
  · exact absurd h0 hne
  have hn0 : 0 < xs.length := List.length_pos_iff.2 hne
  have hgen := h1.gen 0 G _ hG hin
  simp only at hgen
  have hblk : ∃ cur, w'.heap[g]? = some (.cells cur ty (0, 0)) ∧ cur.size = c * sz := by
    rcases h1.row 0 G ty sz xs.length hG rfl with ⟨h0, _⟩ | ⟨g1, c1, us, a1, a2, a3, a4⟩
    · omega
    · obtain ⟨_, a5⟩ := a2 _ hin
      have := a5 rfl
      cases this
      rcases a3.2 with ⟨_, b1⟩ | ⟨g2, c2, cur, b1, b2, b3, b4, b5, b6, b7⟩
      · omega
      · cases b1
        exact ⟨cur, b3, b6⟩
  obtain ⟨cur, hh, hcs⟩ := hblk
  have hfl : xs.flatten.length = xs.length * sz := flatten_length hsz
  have hle : xs.flatten.length ≤ cur.size := by rw [hfl, hcs]; exact Nat.mul_le_mul_right _ hnc
  have hb := h1.below
  have hgw := hg.grow hb
  have hnβ : g ∉ M.β := fun hm => by have := (hg.βlt hm).1; omega
  have hcell : ∀ i v, xs.flatten[i]? = some v → ∃ x u, cur[i]? = some x ∧ x.oneCell' = true ∧ v = V.val u ∧ x = u ∧ plain u = true := fun i v hi => by
    obtain ⟨x, _, k2, k3, k4⟩ := hX.flat.get hi
    obtain ⟨u, rfl⟩ := hx v (List.mem_of_getElem? hi)
    simp only [World.cell?, Nat.zero_add, hh] at k2
    exact ⟨x, u, by simpa using k2, k3, rfl, k4.1, k4.2⟩
  have htk : (cur.toList.take xs.flatten.length).length = xs.flatten.length := by rw [List.length_take]; exact Nat.min_eq_left (by simpa using hle)
  have hbr : BoxRep M M.β.length w' xs.flatten (.cells cur ty (0, 0)) := by
    refine .inl ⟨hg.κnone, cur, ty, rfl, hle, RepL.of_get htk (fun i v z hv hz => ?_), fun z hz => ?_⟩
    · obtain ⟨x, u, k1, k2, rfl, rfl, k5⟩ := hcell i v hv
      rw [List.getElem?_take, if_pos (lt_of_some hv)] at hz
      have hz' : cur[i]? = some z := by simpa using hz
      rw [k1] at hz'
      cases hz'
      exact ⟨rfl, k5⟩
    · obtain ⟨i, hi⟩ := List.getElem?_of_mem hz
      have hil := lt_of_some hi
      rw [htk] at hil
      obtain ⟨x, u, k1, k2, _⟩ := hcell i _ (List.getElem?_eq_getElem hil)
      rw [List.getElem?_take, if_pos hil] at hi
      have hz' : cur[i]? = some z := by simpa using hi
      rw [k1] at hz'
      cases hz'
      exact k2
  have hE := hg.ext hb
  refine ⟨_, M.addB g, he, hE.trans (Mp.addB_ext M g w'), hgw.addBox hh (Nat.le_trans hg.sizeB hgen.1) hnβ (fun o hI => by have := hg.ilt g o hI; omega) (fun t G x hG hx he => by have := (hg.gen t G x hG hx).2.1; omega) hbr, ⟨vs, rfl, ?_⟩⟩
  rw [hvs]
  refine ⟨y, r, rfl, ⟨g, c, hyv, hnc, ?_⟩, ?_⟩
  · simp [Mp.addB, hg.lβ]
  · refine RepL.of_get hrl.length fun i v z hv hz => ?_
    obtain ⟨u, rfl⟩ := hl v (List.mem_of_getElem? hv)
    obtain ⟨z', hz', k⟩ := hrl.get hv
    rw [hz] at hz'
    cases hz'
    exact k
end Go.Av

namespace Go.Av
open Go.RowKit

/-- What a slice in a box reads as, from a box on. -/
def unref1 (k : Nat) (m : Mem) : V → V
  | .ref (.sli off sz n) b => match m.boxes[b]? with
    | some cs => if k ≤ b ∧ isObj cs = false ∧ off + n * sz ≤ cs.length then .lit sz (chunkV sz n ((cs.map V.top1).drop off)) else .ref (.sli off sz n) b
    | none => .ref (.sli off sz n) b
  | v => v
def unrefA (k : Nat) (m : Mem) : V → V
  | .agg l => .agg (l.map (unref1 k m))
  | v => unref1 k m v
def unref (k : Nat) (m : Mem) : V → V
  | .tuple l => .tuple (l.map (unrefA k m))
  | v => unrefA k m v
/-- The cells of the boxes from one on, besides those that stay. -/
def Mp.newI (M : Mp) (k : Nat) (m : Mem) (b o : Nat) : Prop := ∃ (i : Nat) (cs : List V), k ≤ i ∧ M.β[i]? = some b ∧ m.boxes[i]? = some cs ∧ o < cs.length
def Mp.allI (M : Mp) (k : Nat) (m : Mem) (b o : Nat) : Prop := M.I b o ∨ M.newI k m b o
def Mp.lend (M : Mp) (k : Nat) (m : Mem) : Mp := { M with I := M.allI k m }
theorem Mp.lend_ext (M : Mp) (k : Nat) (m : Mem) (w : World) : Ext M (M.lend k m) w w := ⟨fun _ _ h => h, fun _ G h => ⟨G, h, fun _ h => h⟩, fun _ _ h => ⟨.inl h, rfl⟩, fun _ _ => rfl⟩
section
variable {B : Nat} {I0 : Nat → Nat → Prop} {w0 w : World} {M : Mp} {m : Mem} {k : Nat}
theorem Good.allI_lt (h : Good B I0 w0 M m w) {b o : Nat} (hI : M.allI k m b o) : b < w.heap.size := by
  rcases hI with hI | ⟨i, cs, _, h1, _, _⟩
  · exact h.ilt b o hI
  · exact (h.βlt (List.mem_of_getElem? h1)).1
theorem Good.lendC (h : Good B I0 w0 M m w) {i g : Nat} {cs : List V} (hk : k ≤ i) (hi : M.β[i]? = some g) (hb : m.boxes[i]? = some cs) (hno : isObj cs = false) : RepC (M.lend k m) w (cs.map V.top1) g 0 := by
  obtain ⟨hB, ob, hh, hbr⟩ := h.box i g cs hi hb
  obtain ⟨vs, T, rfl, hle, hl, ho⟩ := hbr.cells hno
  refine RepC.of_get fun j v hj => ?_
  rw [List.getElem?_map, Option.map_eq_some_iff] at hj
  obtain ⟨v0, hj, rfl⟩ := hj
  obtain ⟨x, hx, hr⟩ := hl.get hj
  have hjl := lt_of_some hj
  refine ⟨x, .inr ⟨i, cs, hk, hi, hb, by simpa using hjl⟩, ?_, ho x (List.mem_of_getElem? hx), (Rep.mono (Mp.lend_ext M k m w) _ _ hr).top1⟩
  simp only [World.cell?, hh, Nat.zero_add]
  rw [List.getElem?_take, if_pos hjl] at hx
  simpa using hx
theorem Good.unref1 (h : Good B I0 w0 M m w) {v : V} {x : Value} (hr : Rep M w v x) : Rep (M.lend k m) w (unref1 k m v) x := by
  unfold Av.unref1
  split
  · rename_i off sz n b
    split
    · rename_i cs hb
      split
      · rename_i hc
        obtain ⟨g, c, rfl, hcc, hβ⟩ := hr
        have hC := h.lendC hc.1 hβ hb hc.2.1
        obtain ⟨f1, f2⟩ := chunkV_flat sz n ((cs.map V.top1).drop off) (by simp; omega)
        refine .inr ⟨⟨g, off, none⟩, c, by rw [chunkV_length]; rfl, by rw [chunkV_length]; exact hcc, .inr rfl, f2, RepX.of_flat ?_⟩
        rw [f1]
        have := (hC.drop off).take (n * sz)
        simpa using this
      · exact Rep.mono (Mp.lend_ext M k m w) _ _ hr
    · exact Rep.mono (Mp.lend_ext M k m w) _ _ hr
  · exact Rep.mono (Mp.lend_ext M k m w) _ _ hr
theorem RepL.map_imp {M M' : Mp} {w w' : World} {f : V → V} (hf : ∀ v x, Rep M w v x → Rep M' w' (f v) x) : ∀ {l : List V} {us : List Value}, RepL M w l us → RepL M' w' (l.map f) us
  | [], _, h => h
  | v :: l, _, h => by
    obtain ⟨x, r, rfl, h1, h2⟩ := h
    exact ⟨x, r, rfl, hf v x h1, RepL.map_imp hf h2⟩
theorem Good.unrefA (h : Good B I0 w0 M m w) {v : V} {x : Value} (hr : Rep M w v x) : Rep (M.lend k m) w (Av.unrefA k m v) x := by
  unfold Av.unrefA
  split
  · obtain ⟨vs, rfl, hr⟩ := hr
    exact ⟨vs, rfl, RepL.map_imp (fun v x => h.unref1) hr⟩
  · exact h.unref1 hr
theorem Good.unref (h : Good B I0 w0 M m w) {v : V} {x : Value} (hr : Rep M w v x) : Rep (M.lend k m) w (unref k m v) x := by
  unfold Av.unref
  split
  · obtain ⟨vs, rfl, hr⟩ := hr
    exact ⟨vs, rfl, RepL.map_imp (fun v x => h.unrefA) hr⟩
  · exact h.unrefA hr
/-- More cells that stay: of no box, and no row. -/
theorem Good.addI (h : Good B I0 w0 M m w) (J : Nat → Nat → Prop) (hJ : ∀ b o, J b o → B ≤ b ∧ b < w.heap.size ∧ b ∉ M.β ∧ ∀ (t : Nat) (G : List (Nat × Nat × Nat)) (x : Nat × Nat × Nat), M.γ[t]? = some G → x ∈ G → x.2.1 ≠ b) :
    Good B I0 w0 { M with I := fun b o => M.I b o ∨ J b o } m w ∧ Ext M { M with I := fun b o => M.I b o ∨ J b o } w w := by
  have hE : Ext M { M with I := fun b o => M.I b o ∨ J b o } w w := ⟨fun _ _ h => h, fun _ G h => ⟨G, h, fun _ h => h⟩, fun _ _ h => ⟨.inl h, rfl⟩, fun _ _ => rfl⟩
  refine ⟨?_, hE⟩
  exact {
    below := h.below
    sizeB := h.sizeB
    i0 := fun b o hi => .inl (h.i0 b o hi)
    i1 := fun b o hi => hi.elim (h.i1 b o) fun hj => .inr (hJ b o hj).1
    ilt := fun b o hi => hi.elim (h.ilt b o) fun hj => (hJ b o hj).2.1
    lβ := h.lβ
    nd := h.nd
    iβ := fun b o hi i hb => hi.elim (fun hi => h.iβ b o hi i hb) fun hj => absurd (List.mem_of_getElem? hb) (hJ b o hj).2.2.1
    box := fun i g cs h1 h2 => by
      obtain ⟨k1, ob, k2, k3⟩ := h.box i g cs h1 h2
      exact ⟨k1, ob, k2, k3.mono0 hE rfl⟩
    κlt := h.κlt
    lγ := h.lγ
    row := fun t G e sz n h1 h2 => by
      rcases h.row t G e sz n h1 h2 with k | ⟨g, c, xs, k1, k2, k3, k4⟩
      · exact .inl k
      · exact .inr ⟨g, c, xs, k1, k2, k3, fun o ho => ho.elim (k4 o) fun hj => absurd rfl ((hJ g o hj).2.2.2 t G _ h1 k1)⟩
    gen := h.gen
    sep := h.sep }
end
def scal : V → Bool
  | .val _ => true
  | .tuple l => l.all fun v => match v with
    | .val _ => true
    | _ => false
  | _ => false
theorem scal_rep {M M' : Mp} {w w' : World} {v : V} {x : Value} (h : scal v = true) (hr : Rep M w v x) : Rep M' w' v x := by
  unfold scal at h
  split at h
  · exact hr
  · rename_i l
    obtain ⟨vs, rfl, hr⟩ := hr
    refine ⟨vs, rfl, ?_⟩
    generalize vs.toList = us at hr
    induction l generalizing us with
    | nil => exact hr
    | cons v l ih =>
      obtain ⟨x, r, rfl, h1, h2⟩ := hr
      simp only [List.all_cons, Bool.and_eq_true] at h
      refine ⟨x, r, rfl, ?_, ih h.2 r h2⟩
      have h3 := h.1
      split at h3
      · exact h1
      · cases h3
  · cases h
/-- A function that only reads, and tells numbers. -/
theorem Pure.lend {P : Program} {f : FuncId} {args args' : List V} {r : V} {m : Mem} (h : Pure P f args' r []) (hW : WkL (args.map (unref 0 m)) args') (hcl : cleanL args' = true) (hr : scal r = true) : Loc P f args m r m := by
  obtain ⟨hc, hres, h3⟩ := h
  refine ⟨hc, fun B I0 w0 M w vals hg hrl => ?_⟩
  have h1 : RepL (M.lend 0 m) w args' vals.toList := hW _ _ _ (RepL.map_imp (fun v x => hg.unref) hrl)
  have hr' : RepL ⟨[], [], M.allI 0 m, fun _ => none⟩ w args' vals.toList := RepL.clean (M := M.lend 0 m) (M' := ⟨[], [], M.allI 0 m, fun _ => none⟩) (fun _ _ h => h) _ _ hcl h1
  refine (h3 (M.allI 0 m) w vals (fun b o hI => hg.allI_lt hI) hr').mono fun e w' ⟨x, M1, he, h1, hx1⟩ => ?_
  exact ⟨x, M, he, hg.ext h1.below, hg.grow h1.below, scal_rep hr hx1⟩
/-- Behind the run slices in boxes are as they are, from then on. -/
theorem Pure.ofU {P : Program} {D : Orc} {own : Nat → Bool} {f : FuncId} {F : F} {args : List V} {r : V} (hD : OOk P D) (hm : P.follows .mixedOrders = true) (hF : compF P own f = some F) (hn : args.length ≤ F.n)
    (h : wp P noY D F.c (argS args) ⟨[], []⟩ (Fin F.rs fun v m => keepN [] (unref 0 m v) r)) (hcl : r.isClean = true) : Pure P f args r [] := by
  have hca : callable P f = true := by
    unfold compF at hF
    split at hF
    · assumption
    · cases hF
  have hres : r.res = true := by
    cases r with
    | tuple l => 
      have hl : cleanL l = true := hcl
      clear h hcl
      unfold V.res
      induction l with
      | nil => rfl
      | cons v l ih =>
        simp only [cleanL, Bool.and_eq_true] at hl
        simp only [List.all_cons, Bool.and_eq_true]
        refine ⟨?_, ih hl.2⟩
        cases v <;> first | exact hl.1 | simp [V.isClean] at hl
    | row t sz xs => simp [V.isClean] at hcl
    | _ => exact hcl
  refine ⟨hca, hres, fun I w vals hI hr => ?_⟩
  refine (calls_sound hm hF hn (Good.start hI) hr YOk.no (wp_sound hD _ h)).2.mono fun en w' ⟨x, M', v, m', he, hE, hg, hx, hk⟩ => ?_
  have hx2 := keepN_rep hk ((hg.unref (k := 0) hx))
  refine ⟨x, ⟨[], [], M'.allI 0 m', fun _ => none⟩, he, ?_, Rep.clean (M := (M'.lend 0 m').sel []) (M' := ⟨[], [], M'.allI 0 m', fun _ => none⟩) (fun _ _ h => h) _ _ hcl hx2⟩
  exact {
    below := hg.below
    sizeB := hg.sizeB
    i0 := fun b o hi => .inl (hg.i0 b o hi)
    i1 := fun b o hi => by
      rcases hi with hi | ⟨i, cs, _, h1, _, _⟩
      · exact hg.i1 b o hi
      · exact .inr (hg.βlt (List.mem_of_getElem? h1)).2
    ilt := fun b o hi => hg.allI_lt hi
    lβ := rfl
    nd := fun i j g h => by simp at h
    iβ := fun b o hi i h => by simp at h
    box := fun i g cs h => by simp at h
    κlt := fun i fam h => by cases h
    lγ := rfl
    row := fun t G e sz n h => by simp at h
    gen := fun t G x h => by simp at h
    sep := fun t t' G G' x x' h => by simp at h }
section
variable {P : Program} {D : Orc} {own : Nat → Bool} {f : FuncId} {F : F} {args : List V}
/-- A function that writes to boxes that are there; slices in boxes of its own are as they are, from then on. -/
theorem Loc.ofU (hD : OOk P D) (hm : P.follows .mixedOrders = true) (hF : compF P own f = some F) {m m' : Mem} {r : V} (hn : args.length ≤ F.n) (hr : cleanL [r] = true ∨ ∃ l, r = .tuple l ∧ cleanL l = true) (k j : Nat) (hk : m.boxes.length ≤ k) (hj : m.tips.length ≤ j)
    (h : underX m.boxes.length m.tips.length m.boxes = true → wp P noY D F.c (argS args) m (Fin F.rs fun v m1 => keepN [] (unref k m1 v) r ∧ underX k j (m1.boxes.take k) = true ∧ m' = ⟨m1.boxes.take k, m1.tips.take j⟩)) : Loc P f args m r m' := by
  have hcl : callable P f = true := by
    unfold compF at hF
    split at hF
    · assumption
    · cases hF
  refine ⟨hcl, fun B I0 w0 M w vals hg hrl => ?_⟩
  refine (calls_sound hm hF hn hg hrl YOk.no (wp_sound hD _ (h hg.under))).2.mono fun e w' ⟨x, M', v, m1, he, hE, hg', hx, hv, hb, hm'⟩ => ?_
  have hgc := hg'.cut hb
  have hEc := Mp.cut_ext M' k j hE (by rw [hg.lβ]; exact hk) (by rw [hg.lγ]; exact hj)
  obtain ⟨hg2, hE2⟩ := hgc.addI (M'.newI k m1) (fun b o ⟨i, cs, k1, k2, k3, k4⟩ => by
    obtain ⟨k5, k6⟩ := hg'.βlt (List.mem_of_getElem? k2)
    refine ⟨k6, k5, fun hmem => ?_, fun t G x hG hx => ?_⟩
    · obtain ⟨i2, hi2, he2⟩ := List.getElem_of_mem hmem
      simp only [Mp.cut, List.length_take] at hi2
      simp only [Mp.cut, List.getElem_take] at he2
      have : M'.β[i2]? = some b := by rw [List.getElem?_eq_getElem (by omega), he2]
      have := hg'.nd i i2 b k2 this
      omega
    · simp only [Mp.cut] at hG
      have hG' : M'.γ[t]? = some G := by
        rw [List.getElem?_take] at hG
        split at hG
        · exact hG
        · cases hG
      intro e
      exact (hg'.gen t G x hG' hx).2.2 (by rw [e]; exact List.mem_of_getElem? k2))
  refine ⟨x, _, he, hEc.trans hE2, by rw [hm']; exact hg2, ?_⟩
  have hx' := keepN_rep hv (hg'.unref (k := k) hx)
  rcases hr with hr | ⟨l, rfl, hr⟩
  · simp only [cleanL, Bool.and_true] at hr
    refine Rep.clean (M := (M'.lend k m1).sel []) ?_ r x hr hx'
    exact fun _ _ h => h
  · obtain ⟨vs, rfl, hx'⟩ := hx'
    refine ⟨vs, rfl, RepL.clean (M := (M'.lend k m1).sel []) ?_ l _ hr hx'⟩
    exact fun _ _ h => h
end
end Go.Av
