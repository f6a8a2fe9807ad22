/-
  ToE: Contracts: snap.Records.
  ToF: Contracts: slices.Backward, snap.Found.
  ToG: Contracts: snap.Found.
  ToH: Contracts of the laws' own functions.
  PlE: A state's bytes: what is written is read, and what is read was written. No Go here.
  ToI: Contracts of the laws' own functions: awake.
  AvOp: Arguments, as a row reads them, as plain values of Lean; behind the call they read as they did.
  ToP: What the rows hand in, as plain values.
  ToJ: The laws: a state is read as it was written.
  ToK: The laws: a snapshot's sizes.
  AvTh: A new slice that a function answers, written to from then on: it lies in a box.
  SnP: Numbers and compact codes of functions.
  PlF: A changed byte is seen by the sum. No Go here.
  ToM: The laws: bytes of a state of which one is another one.
  PlC: Maps, block by block. No Go here.
  ToN: Contracts of the references: the blocks of a map.
  ToQ: Contracts of the references of chapter 11: upto, kept, Check.
-/
import Derived.Test.YthjmodhemglgbaaLF
import Derived.Deep.Slices
import Derived.ChangeSame
import Derived.Carry
import Derived.OpenShut
import Derived.Test.YthjmodhemglgbaaRows
set_option linter.unusedSimpArgs false
set_option linter.unusedVariables false

namespace Go.Av
open Enc (enc dec)
open Cel (cs dc)
open Go.Proofs Pl

theorem wk1_refl (e : V) : wk1 e e := by cases e <;> simp [wk1]
theorem wkL_refl : ∀ l : List V, wkL l l
  | [] => trivial
  | e :: l => ⟨wk1_refl e, wkL_refl l⟩
/-- A row and a plain value, where the row's elements may be weakened. -/
theorem Pure.ofRW {α : Type} [Cel α] {P : Program} {D : Orc} {own : Nat → Bool} {f : FuncId} {F : F} {args : List V} (hD : OOk P D) (hm : P.follows .mixedOrders = true) (hF : compF P own f = some F) (hn : args.length ≤ F.n) {l : List α} {e : V} {tip : Tip} (hc : e.isClean = true)
    (h : wp P noY D F.c (argS args) ⟨[], []⟩ (Fin F.rs fun v m => ∃ t, ((∃ xs, v = .tuple [.row t (Cel.sz α) xs, e] ∧ decX xs = some l) ∨ (v = .tuple [.val (.slice none 0 0), e] ∧ l = [])) ∧ m.tips[t]? = some tip)) : Pure P f args (.tuple [.row 0 (Cel.sz α) (l.map cs), e]) [tip] := by
  have hcl : callable P f = true := by
    unfold compF at hF
    split at hF
    · assumption
    · cases hF
  have hk : ∀ t, keepN [t] (.tuple [.row t (Cel.sz α) (l.map cs), e]) (.tuple [.row 0 (Cel.sz α) (l.map cs), e]) := by
    intro t
    refine ⟨⟨⟨rfl, rfl, rfl⟩, clean_cs l⟩, ?_, trivial⟩
    unfold keepN1
    split
    · simp [V.isClean] at hc
    · rename_i k
      exact ⟨wkL_refl k, by simpa [V.isClean] using hc⟩
    · exact ⟨wk1_refl e, hc⟩
  refine ⟨hcl, keepN_res (hk 0), fun I w vals hI hr => ?_⟩
  refine (calls_sound hm hF hn (Good.start hI) hr YOk.no (wp_sound hD _ h)).2.mono fun en w' ⟨x, M', v, m', he, hE, hg, hx, t, hv, ht⟩ => ?_
  refine ⟨x, M'.sel [t], he, hg.sel (by simp) (by simp [selTips, ht]), ?_⟩
  rcases hv with ⟨xs, rfl, hd⟩ | ⟨rfl, rfl⟩
  · refine keepN_rep (hk t) ?_
    obtain ⟨vs, rfl, y, r, hvs, h1, h2⟩ := hx
    exact ⟨vs, rfl, y, r, hvs, row_dec rfl hd h1, h2⟩
  · have h2 : keepN [t] (.tuple [.val (.slice none 0 0), e]) (.tuple [.row 0 (Cel.sz α) [], e]) := ⟨⟨⟨rfl, rfl⟩, rfl⟩, (hk t).2.1, trivial⟩
    exact keepN_rep h2 hx
/-- The records of parts, from a number on. -/
def partsR (seq : Int) : List (List UInt8) → List Rec
  | [] => []
  | c :: l => ⟨2, seq, c⟩ :: partsR (seq + 1) l
theorem partsR_append (seq : Int) (c : List UInt8) : ∀ l : List (List UInt8), partsR seq (l ++ [c]) = partsR seq l ++ [⟨2, seq + l.length, c⟩]
  | [] => by simp [partsR]
  | d :: l => by
    simp only [List.cons_append, partsR, partsR_append (seq + 1) c l, List.length_cons]
    have : seq + 1 + (l.length : Int) = seq + ((l.length + 1 : Nat) : Int) := by omega
    rw [this]
theorem partsR_length (seq : Int) : ∀ l : List (List UInt8), (partsR seq l).length = l.length
  | [] => rfl
  | _ :: l => by simp [partsR, partsR_length (seq + 1) l]
theorem chunksF_length (n : Nat) : ∀ (k : Nat) (l : List UInt8), (chunksF n k l).length ≤ k
  | 0, _ => by simp [chunksF]
  | k + 1, l => by
    rw [chunksF]
    split
    · simp
    · have := chunksF_length n k (l.drop n); simp; omega
theorem chunks_mem {n : Nat} {l : List UInt8} : ∀ c ∈ chunks n l, c.length ≤ l.length := by
  have key : ∀ (k : Nat) (l : List UInt8), ∀ c ∈ chunksF n k l, c.length ≤ l.length := by
    intro k
    induction k with
    | zero => intro l c h; simp [chunksF] at h
    | succ k ih =>
      intro l c h
      rw [chunksF] at h
      split at h
      · cases h
      · rcases List.mem_cons.1 h with rfl | h
        · simp; omega
        · have := ih _ _ h; simp at this; omega
  exact key _ _
def snapParts (q : Sta) : List (List UInt8) := chunks 4096 (snapB q)
def seqOk (seq : Int) : Bool := decide (0 ≤ seq ∧ seq ≤ 2305843009213693952)
/-- A snapshot's records. -/
def recsL (q : Sta) (seq : Int) : List Rec := if staOk q = true ∧ seqOk seq = true then partsR seq (snapParts q) ++ [⟨3, seq + (snapParts q).length, bytesPut [] (snapParts q).length 2⟩] else []
def recsE (q : Sta) (seq : Int) : Int := if staOk q = true then (if seqOk seq = true then errPut (snapParts q).length 2 else 120) else 110
@[simp] def sp_snapWrite (q : Sta) : Option (V × List Tip) := if q.map.length ≤ 2 ^ 30 ∧ q.pts.length ≤ 2 ^ 30 ∧ (∀ p ∈ q.pts, p.map.length ≤ 2 ^ 30) ∧ q.staged.length ≤ 2 ^ 30 then some (.tuple [.row 0 1 ((snapB q).map cs), enc (staE q)], [(5, 1, (snapB q).length)]) else none
theorem sp_snapWrite_ok : EOk Try.prog n_snap_Write (sp1 sp_snapWrite) := sp1_ok fun q r h => by
  simp only [sp_snapWrite] at h
  split at h <;> cases h
  exact c_snap_Write q (by assumption)
def D38 : Orc := (((Orc.nil.add n_snap_Write (sp1 sp_snapWrite)).add n_bytes_Clone (sp1 sp_clone)).add n_le_Put (sp3 sp_Put)).addL n_snap_parts sp_parts
theorem D38_ok : OOk Try.prog D38 := by
  refine (((OOk.nil.add sp_snapWrite_ok).add (sp1_ok fun l r h => ?_)).add (sp3_ok fun b v w r h => ?_)).addL sp_parts_ok
  · simp only [sp_clone] at h
    split at h <;> cases h
    exact c_clone l (by assumption)
  · simp only [sp_Put] at h
    split at h <;> cases h
    exact c_le_Put b v w (by assumption)
theorem snapB_length (q : Sta) : (snapB q).length ≤ 20000 := by
  unfold snapB
  split
  · rename_i h
    obtain ⟨f1, f2, f3, f4, f5, f6, f7, f8⟩ := staOk_fine h
    have h1 := mapB_length f1
    have h2 : ∀ l : List Pt, (∀ p ∈ l, ptFine q p) → (l.flatMap ptB).length ≤ 2510 * l.length := by
      intro l
      induction l with
      | nil => intro _; simp
      | cons p l ih =>
        intro hl
        have h3 := mapB_length (hl p (List.mem_cons_self ..)).1
        have h4 := ih fun p hp => hl p (List.mem_cons_of_mem _ hp)
        have h5 : (ptB p).length = 8 + (mapB p.map).length := by simp [ptB, leB_length]; omega
        rw [List.flatMap_cons, List.length_append, List.length_cons]
        omega
    have h6 := h2 q.pts f8
    have h7 : (sealS (bodyS q)).length = 16 + q.staged.length + (mapB q.map).length + (q.pts.flatMap ptB).length := by
      simp [sealS, bodyS, headB, leB_length]; omega
    omega
  · simp
def RecsM (q : Sta) (seq : Int) (acc : List (List UInt8)) : Mem :=
  ⟨[cs q, [.val (.int .i64 seq)], [.row 0 3 ((partsR seq acc).map cs)], [.lit 1 ((snapB q).map cs)], [.val (.int .i64 4096)], [St.ready.v], [St.ready.v]], [(36, 3, acc.length), (5, 1, (snapB q).length)]⟩
theorem c_snap_Records (q : Sta) (seq : Int) (hq : staLen q) : Pure Try.prog n_snap_Records [enc q, enc seq] (.tuple [.row 0 3 ((recsL q seq).map cs), enc (recsE q seq)]) [(36, 3, (recsL q seq).length)] := by
  have hq' := hq
  unfold staLen at hq'
  obtain ⟨g1, g2, g3, g4⟩ := hq
  have g1' : q.map.length ≤ 1073741824 := g1
  have g2' : q.pts.length ≤ 1073741824 := g2
  have g3' : ∀ p ∈ q.pts, p.map.length ≤ 1073741824 := g3
  have g4' : q.staged.length ≤ 1073741824 := g4
  refine Pure.ofRW (α := Rec) D38_ok hm F_snap_Records_ok (by simp [F_snap_Records]) rfl ?_
  have hsl := snapB_length q
  have hpl : (snapParts q).length ≤ 20000 := Nat.le_trans (chunksF_length _ _ _) hsl
  cases hok : staOk q with
  | false =>
    have e : staE q = 110 := by simp [staE, hok]
    simp [F_snap_Records, D38, g1', g2', g3', g4', e, recsL, recsE, hok]
    exact ⟨g3', 0, rfl⟩
  | true =>
    have e : staE q = 0 := by simp [staE, hok]
    cases hseq : seqOk seq with
    | false =>
      have h1 : seq < 0 ∨ (0 ≤ seq ∧ 2305843009213693952 < seq) := by
        simp [seqOk] at hseq; omega
      rcases h1 with h1 | ⟨h1, h2⟩
      · simp [F_snap_Records, D38, g1', g2', g3', g4', e, recsL, recsE, hok, hseq, h1]
        exact ⟨g3', 0, rfl⟩
      · have h3 : ¬ seq < 0 := by omega
        simp [F_snap_Records, D38, g1', g2', g3', g4', e, recsL, recsE, hok, hseq, h2, h3]
        exact ⟨g3', 0, rfl⟩
    | true =>
      have h1 : ¬ seq < 0 ∧ ¬ 2305843009213693952 < seq := by
        simp [seqOk] at hseq; omega
      simp [F_snap_Records, D38, g1', g2', g3', g4', e, recsL, recsE, hok, hseq, h1.1, h1.2, sp_parts]
      refine ⟨g3', ?_⟩
      refine ⟨_, _, .tuple [], RecsM q seq (snapParts q), .ready, by simp, c_chunk1 _ _ 3 4 (snapB q) 4096 (by decide) (by decide) (by omega) _ _ ⟨rfl, rfl⟩ ?run, by simp [RecsM, loopAt], by simp, ?fin⟩
      case run =>
        refine YRun.list (fun c => [.full 1 (c.map cs)]) (RecsM q seq) (snapParts q) ?_ ?_
        rotate_left
        · intro acc x r h
          exact ⟨rfl, rfl⟩
        intro acc x r h
        refine Or.inr ⟨rfl, ?_⟩
        have hal : acc.length ≤ 20000 := by
          have := congrArg List.length h
          simp at this
          omega
        have w1 := IntWalk.i64_in (acc.length : Int) (by omega)
        have w2 := IntWalk.i64_in (seq + (acc.length : Int)) (by omega)
        simp [roundW, putAll, St.of, St.cont, CutM, RecsM, loopAt, D38, partsR_append, partsR_length, w1, w2]
        exact ⟨by have := chunks_mem (n := 4096) (l := snapB q) x (by show x ∈ snapParts q; rw [h]; simp); omega, by omega⟩
      case fin =>
        have w1 := IntWalk.i64_in ((snapParts q).length : Int) (by omega)
        have w2 := IntWalk.i64_in (seq + ((snapParts q).length : Int)) (by omega)
        have w3 := IntWalk.u64_in ((snapParts q).length : Int) (by omega)
        rw [show St.ready.out = Exit.normal from rfl]
        simp [RecsM, D38, partsR_length, w1, w2, w3]
        exact ⟨by omega, 0, ⟨_, ⟨rfl, rfl⟩, by simp [decX_map]⟩, rfl⟩
end Go.Av

namespace Go.Av.Pl
structure Fnd where
  rcd : Rec
  zone : Int
  at_ : Int
deriving DecidableEq
end Go.Av.Pl
namespace Go.Av
open Enc (enc dec)
open Cel (cs dc)
open Go.Proofs Pl

instance : Cel Fnd where
  sz := 5
  cs x := [enc x.rcd.kind, enc x.rcd.seq, enc x.rcd.body, enc x.zone, enc x.at_]
  dc l := match l with
    | [a, b, c, d, e] => (dec a).bind fun a => (dec b).bind fun b => (dec c).bind fun c => (dec d).bind fun d => (dec e).bind fun e => some ⟨⟨a, b, c⟩, d, e⟩
    | _ => none
  len _ := rfl
  ok l x h := by
    split at h
    · simp only [Option.bind_eq_some_iff] at h
      obtain ⟨a, ha, b, hb, c, hc, d, hd, e, he, h⟩ := h
      cases h
      exact wk_dec (wk_dec (wk_dec (wk_dec (wk_dec wk_nil he) hd) hc) hb) ha
    · cases h
  cl x := by simp [clean_cs]
  de x := by simp [decX_map]
instance : Enc Fnd := encC
@[simp] theorem sz_fnd : Cel.sz Fnd = 5 := rfl
@[simp] theorem cs_fnd (x : Fnd) : cs x = [.val (.int .i64 x.rcd.kind), .val (.int .i64 x.rcd.seq), .lit 1 (x.rcd.body.map cs), .val (.int .i64 x.zone), .val (.int .i64 x.at_)] := rfl
@[simp] theorem enc_fnd (x : Fnd) : (enc x : V) = .agg [.val (.int .i64 x.rcd.kind), .val (.int .i64 x.rcd.seq), .lit 1 (x.rcd.body.map cs), .val (.int .i64 x.zone), .val (.int .i64 x.at_)] := rfl
@[simp] theorem dc_fnd (a b c d e : V) : (dc [a, b, c, d, e] : Option Fnd) = (dec a).bind fun a => (dec b).bind fun b => (dec c).bind fun c => (dec d).bind fun d => (dec e).bind fun e => some ⟨⟨a, b, c⟩, d, e⟩ := rfl
@[simp] theorem dec_fnd (l : List V) : (dec (.agg l) : Option Fnd) = dc l := rfl

/-- An iterator that looks for one. -/
theorem YRun.find {α β : Type} {Y : YRel} {L : Nat} {K : Mem → Prop} (arg : α → List V) (g : α → Option β) (m0 : Mem) (m1 : β → Mem) (hK : K m0) : ∀ (all : List α), (∀ x ∈ all, Y L (arg x) m0 (.val (.bool (g x).isNone)) ((g x).elim m0 m1)) →
    YRun Y L K (all.map arg) m0 ((all.findSome? g).elim m0 m1)
  | [], _ => .done
  | x :: r, h1 => by
    have h := h1 x (List.mem_cons_self ..)
    rw [List.findSome?_cons]
    cases hg : g x with
    | none =>
      rw [hg] at h
      exact .next h hK (YRun.find arg g m0 m1 hK r (fun x hx => h1 x (List.mem_cons_of_mem _ hx)))
    | some y =>
      rw [hg] at h
      exact .stop h
/-- The first so many, with their places, from behind. -/
def bwTo {α : Type} (l : List α) : Nat → List (Nat × α)
  | 0 => []
  | k + 1 => match l[k]? with
    | some x => (k, x) :: bwTo l k
    | none => bwTo l k
theorem bwTo_snd {α : Type} (l : List α) : ∀ k, k ≤ l.length → (bwTo l k).map (·.2) = (l.take k).reverse
  | 0, _ => by simp [bwTo]
  | k + 1, h => by
    have hk : k < l.length := by omega
    rw [bwTo, List.getElem?_eq_getElem hk]
    simp only [List.map_cons, bwTo_snd l k (by omega)]
    rw [List.take_add_one, List.getElem?_eq_getElem hk, Option.toList_some, List.reverse_append]
    rfl
def bwArg {α : Type} [Cel α] (p : Nat × α) : List V := [.val (.int .i64 p.1), .agg (cs p.2)]
def BwK (a : Nat) (l : List Fnd) (m : Mem) : Prop := m.boxes[a]? = some [.lit 5 (l.map cs)]
def BwI (Y : YRel) (L a : Nat) (l : List Fnd) (m1 : Mem) (k : Nat) (s : Nat → V) (m : Mem) : Prop :=
  k ≤ l.length ∧ s 0 = .yld L ∧ s 1 = .ptr a 0 ∧ s 3 = .val (.int .i64 ((k : Int) - 1)) ∧ BwK a l m ∧ YRun Y L (BwK a l) ((bwTo l k).map bwArg) m m1
theorem c_backward1 (Y : YRel) (L a : Nat) (l : List Fnd) (hl : l.length ≤ 2 ^ 40) (m m1 : Mem) (hK : BwK a l m)
    (h : YRun Y L (BwK a l) ((bwTo l l.length).map bwArg) m m1) : LocY Try.prog Y n_slices_Backward_Found_1 [.yld L, .ptr a 0] m (.tuple []) m1 := by
  refine LocY.ofX OOk.nil hm F_slices_Backward_Found_1_ok (by simp [F_slices_Backward_Found_1]) ?_
  have w1 := IntWalk.i64_in ((l.length : Int) - 1) (by omega)
  have hK' : m.boxes[a]? = some [.lit 5 (l.map cs)] := hK
  simp [F_slices_Backward_Found_1, hK', w1]
  refine wp_loop (BwI Y L a l m1) l.length (IW.of ⟨by omega, by simp, by simp, by simp, hK, h⟩) fun k s m ⟨hk, s0, s1, s3, k1, hr⟩ => ?_
  unfold BwK at k1
  cases k with
  | zero =>
    have hm1 : m = m1 := by
      cases hr
      rfl
    simp [F_slices_Backward_Found_1_L0, s0, s1, s3, k1]
    exact hm1
  | succ k =>
    have hk2 : k < l.length := by omega
    rw [bwTo, List.getElem?_eq_getElem hk2, List.map_cons] at hr
    have w2 := IntWalk.i64_in ((k : Int) - 1) (by omega)
    have e0 : ((k + 1 : Nat) : Int) - 1 = k := by omega
    rw [e0] at s3
    simp [F_slices_Backward_Found_1_L0, s0, s1, s3, k1, hk2]
    cases hr with
    | stop hy =>
      refine ⟨_, _, hy, ?_⟩
      simp
    | next hy hk3 h2 =>
      refine ⟨_, _, hy, ?_⟩
      simp [s3, w2]
      exact ⟨k, by omega, IW.of ⟨by omega, by simp [s0], by simp [s1], by simp, hk3, h2⟩⟩
def sp_bw : List V → Mem → Option (V × Mem)
  | [v], m => (dec v : Option (List Fnd)).bind fun l => some (.func n_slices_Backward_Found_1 [.ptr m.boxes.length 0], ⟨m.boxes ++ [[.lit 5 (l.map cs)]], m.tips⟩)
  | _, _ => none
theorem sp_bw_ok : EOkL Try.prog n_slices_Backward_Found sp_bw := by
  intro args m v m' h
  unfold sp_bw at h
  split at h
  · rename_i a
    simp only [Option.bind_eq_some_iff] at h
    obtain ⟨l, hl, h⟩ := h
    cases h
    refine Loc.wk (wk_dec wk_nil hl) (Loc.ofX OOk.nil hm F_slices_Backward_Found_ok (by simp [F_slices_Backward_Found]) ?_)
    simp [F_slices_Backward_Found]
  · cases h
end Go.Av

namespace Go.Av
open Enc (enc dec)
open Cel (cs dc)
open Go.Proofs Pl

@[simp] theorem isObj_ref {k : Rk} {b : Nat} : isObj [.ref k b] = false := rfl
mutual
theorem clean_under (k j : Nat) : ∀ v : V, v.isClean = true → v.under k j = true
  | .val _, _ => rfl
  | .agg l, h => cleanL_under k j l h
  | .lit _ xs, h => cleanX_under k j xs h
  | .full _ xs, h => cleanX_under k j xs h
  | .emp _, _ => rfl
  | .row _ _ _, h => by simp [V.isClean] at h
  | .ptr _ _, h => by simp [V.isClean] at h
  | .yld _, h => by simp [V.isClean] at h
  | .ref _ _, h => by simp [V.isClean] at h
  | .eptr cs, h => cleanL_under k j cs h
  | .func _ cap, h => cleanL_under k j cap h
  | .iface _ v, h => clean_under k j v h
  | .tuple l, h => cleanL_under k j l h
theorem cleanL_under (k j : Nat) : ∀ l : List V, cleanL l = true → underL k j l = true
  | [], _ => rfl
  | v :: l, h => by
    simp only [cleanL, Bool.and_eq_true] at h
    simp only [underL, clean_under k j v h.1, cleanL_under k j l h.2]; rfl
theorem cleanX_under (k j : Nat) : ∀ l : List (List V), cleanX l = true → underX k j l = true
  | [], _ => rfl
  | e :: l, h => by
    simp only [cleanX, Bool.and_eq_true] at h
    simp only [underX, cleanL_under k j e h.1, cleanX_under k j l h.2]; rfl
end
theorem under_map {α : Type} [Cel α] (k j : Nat) (l : List α) : underX k j (l.map cs) = true := cleanX_under k j _ (clean_cs l)
def kvClean (kvs : List (Int × V)) : Prop := ∀ p ∈ kvs, p.2.isClean = true
theorem kvClean.under {kvs : List (Int × V)} (h : kvClean kvs) (k j : Nat) : underL k j (mpV kvs) = true := by
  have : ∀ kvs : List (Int × V), kvClean kvs → cleanL (kvs.map fun p => V.tuple [.val (.int .i64 p.1), p.2]) = true := by
    intro kvs
    induction kvs with
    | nil => intro _; rfl
    | cons p l ih =>
      intro h
      simp only [List.map_cons, cleanL, V.isClean, h p (List.mem_cons_self ..), ih fun q hq => h q (List.mem_cons_of_mem _ hq)]; rfl
  simp only [mpV, underL, V.under, cleanL_under k j _ (this kvs h)]; rfl
theorem kvClean.put {kvs : List (Int × V)} (h : kvClean kvs) (q : Int) {v : V} (hv : v.isClean = true) : kvClean (mpPut kvs q v) := by
  induction kvs with
  | nil => intro p hp; simp [mpPut] at hp; subst hp; exact hv
  | cons a l ih =>
    intro p hp
    rw [mpPut] at hp
    split at hp
    · rcases List.mem_cons.1 hp with rfl | hp
      · exact hv
      · exact h p (List.mem_cons_of_mem _ hp)
    · rcases List.mem_cons.1 hp with rfl | hp
      · exact h _ (List.mem_cons_self ..)
      · exact ih (fun q hq => h q (List.mem_cons_of_mem _ hq)) p hp
/-- The records by their numbers, as they are put. -/
def kvF (kvs : List (Int × V)) (acc : List (Nat × Fnd)) : List (Int × V) := acc.foldl (fun kv p => mpPut kv p.2.rcd.seq (enc p.2.rcd)) kvs
theorem kvF_clean : ∀ (acc : List (Nat × Fnd)) {kvs : List (Int × V)}, kvClean kvs → kvClean (kvF kvs acc)
  | [], _, h => h
  | p :: l, _, h => kvF_clean l (h.put _ (Enc.cl p.2.rcd))
/-- The first record of a number. -/
def lookF (l : List Fnd) (q : Int) : Option Rec := (l.find? fun f => f.rcd.seq == q).map (·.rcd)
theorem kvF_at (l : List Fnd) (q : Int) : ∀ (k : Nat) (kvs : List (Int × V)), k ≤ l.length → mpAt (kvF kvs (bwTo l k)) q = match lookF (l.take k) q with
    | some r => some (enc r)
    | none => mpAt kvs q
  | 0, kvs, _ => rfl
  | k + 1, kvs, h => by
    have hk : k < l.length := by omega
    rw [bwTo, List.getElem?_eq_getElem hk]
    show mpAt (kvF (mpPut kvs l[k].rcd.seq (enc l[k].rcd)) (bwTo l k)) q = _
    rw [kvF_at l q k _ (by omega)]
    have e : l.take (k + 1) = l.take k ++ [l[k]] := by rw [List.take_add_one, List.getElem?_eq_getElem hk]; rfl
    rw [e, lookF, lookF, List.find?_append]
    cases hf : (l.take k).find? fun f => f.rcd.seq == q with
    | some f => simp
    | none =>
      simp only [Option.map_none, Option.none_or, mpAt_put]
      by_cases hq : q = l[k].rcd.seq
      · simp [hq]
      · simp [hq, Ne.symm hq]
theorem kvF_look (l : List Fnd) (q : Int) : mpAt (kvF [] (bwTo l l.length)) q = (lookF l q).map enc := by
  rw [kvF_at l q l.length [] (Nat.le_refl _), List.take_length]
  cases lookF l q <;> rfl
/-- The parts' bytes. -/
def gather (look : Int → Option Rec) : Int → Nat → Option (List UInt8)
  | _, 0 => some []
  | q, k + 1 => (look q).bind fun p => if p.kind = 2 then (gather look (q + 1) k).map (p.body ++ ·) else none
/-- The snapshot that a record ends. -/
def fndOne (l : List Fnd) (f : Fnd) : Option (Sta × Int × Int) :=
  if f.rcd.kind = 3 ∧ takeE f.rcd.body 2 = 0 ∧ takeR f.rcd.body 2 = [] ∧ (takeV f.rcd.body 2 : Int) ≤ f.rcd.seq then
    (gather (lookF l) (f.rcd.seq - takeV f.rcd.body 2) (takeV f.rcd.body 2)).bind fun b => if rdE b = 0 then some (rdQ b, f.rcd.seq - takeV f.rcd.body 2, f.rcd.seq) else none
  else none
def fndS (l : List Fnd) : Option (Sta × Int × Int) := (bwTo l l.length).findSome? fun p => fndOne l p.2
def fndV (x : Option (Sta × Int × Int)) : V := match x with
  | some (q, a, b) => .tuple [enc q, enc a, enc b, enc (0 : Int)]
  | none => .tuple [enc Sta.zero, enc (0 : Int), enc (0 : Int), enc (120 : Int)]
def fndLen (l : List Fnd) : Prop := l.length ≤ 2 ^ 30 ∧ ∀ f ∈ l, f.rcd.body.length ≤ 2 ^ 20 ∧ f.rcd.seq < 2 ^ 63
@[simp] def sp_snapRead (b : List UInt8) : Option (V × List Tip) := if b.length ≤ 2 ^ 40 then some (.tuple [enc (rdQ b), enc (rdE b)], []) else none
theorem sp_snapRead_ok : EOk Try.prog n_snap_Read (sp1 sp_snapRead) := sp1_ok fun b r h => by
  simp only [sp_snapRead] at h
  split at h <;> cases h
  exact c_snap_Read b (by assumption)
def D39 : Orc := ((Orc.nil.add n_le_Take (sp2 sp_Take)).add n_snap_Read (sp1 sp_snapRead)).addL n_slices_Backward_Found sp_bw
theorem D39_ok : OOk Try.prog D39 := by
  refine ((OOk.nil.add (sp2_ok fun b w r h => ?_)).add sp_snapRead_ok).addL sp_bw_ok
  simp only [sp_Take] at h
  split at h <;> cases h
  exact c_le_Take b w (by assumption)
def fnd0 : List V := [.val (.int .i64 0), .val (.int .i64 0), .lit 5 [], .lit 3 [], .val (.int .i64 0), .lit 1 []]
def FndM1 (l : List Fnd) (acc : List (Nat × Fnd)) : Mem := ⟨[fnd0, [.val (.int .i64 0)], [.val (.int .i64 0)], [.val (.int .i64 0)], mpV (kvF [] acc), [.ref .map 4], [.lit 5 (l.map cs)], [St.ready.v], [St.ready.v]], []⟩
def FndM2 (l : List Fnd) (a b c d : List V) (st : St) : Mem := ⟨[a, b, c, d, mpV (kvF [] (bwTo l l.length)), [.ref .map 4], [.lit 5 (l.map cs)], [St.ready.v], [St.ready.v], [.lit 5 (l.map cs)], [St.ready.v], [st.v]], []⟩
def FndM3 (l : List Fnd) (y : Sta × Int × Int) : Mem := FndM2 l (cs y.1) [.val (.int .i64 y.2.1)] [.val (.int .i64 y.2.2)] [.val (.int .i64 0)] .ret
def FndI (l : List Fnd) (f : Fnd) (G : Option (List UInt8)) (k : Nat) (s : Nat → V) (m : Mem) : Prop :=
  ∃ (acc : List UInt8) (junk : List (List V)) (n0 : Nat), s 6 = .ptr 5 0 ∧ s 11 = .ptr 13 0 ∧ s 2 = .ptr 0 0 ∧ s 3 = .ptr 1 0 ∧ s 4 = .ptr 2 0 ∧ s 5 = .ptr 3 0 ∧ s 16 = .val (.int .i64 (f.rcd.seq - takeV f.rcd.body 2)) ∧
    s 17 = .val (.int .i64 (f.rcd.seq - k)) ∧ k ≤ takeV f.rcd.body 2 ∧ s 15 = .row 1 1 (acc.map cs) ∧ G = (gather (lookF l) (f.rcd.seq - k) k).map (acc ++ ·) ∧ acc.length ≤ (65536 - k) * 2 ^ 20 ∧
    m = ⟨fnd0 :: [.val (.int .i64 0)] :: [.val (.int .i64 0)] :: [.val (.int .i64 0)] :: mpV (kvF [] (bwTo l l.length)) :: [.ref .map 4] :: [.lit 5 (l.map cs)] :: [St.ready.v] :: [St.ready.v] :: [.lit 5 (l.map cs)] :: [St.ready.v] :: [St.busy.v] :: cs f :: cs f.rcd :: junk, [(5, 1, n0), (5, 1, acc.length)]⟩
theorem c_snap_Found (l : List Fnd) (hl : fndLen l) : Pure Try.prog n_snap_Found [enc l] (fndV (fndS l)) [] := by
  refine Pure.ofC D39_ok hm F_snap_Found_ok (by simp [F_snap_Found]) (by unfold fndV; split <;> simp [V.res, V.res1]) ?_
  have hl2 : l.length ≤ 2 ^ 40 := by have := hl.1; omega
  simp [F_snap_Found, D39, sp_bw]
  refine ⟨_, _, .tuple [], FndM1 l (bwTo l l.length), .ready, by simp, c_backward1 _ _ 6 l hl2 _ _ rfl ?run1, by simp [FndM1, loopAt], by simp, ?fin1⟩
  case run1 =>
    refine YRun.list bwArg (FndM1 l) (bwTo l l.length) ?_ ?_
    rotate_left
    · intro acc x r h
      rfl
    intro acc x r h
    refine Or.inr ⟨rfl, ?_⟩
    simp [roundW, putAll, St.of, St.cont, FndM1, loopAt, bwArg]
    refine .inr ⟨?_, ?_⟩
    · have h1 := (kvF_clean acc (kvs := []) (fun p hp => by cases hp)).put x.2.rcd.seq (Enc.cl x.2.rcd)
      rw [enc_rec] at h1
      have h2 := h1.under 9 0
      have h3 := under_map 9 0 l
      simp [underX, underL, V.under, fnd0, St.v, h2, h3]
    · simp [kvF, List.foldl_append]
  case fin1 =>
    rw [show St.ready.out = Exit.normal from rfl]
    simp [FndM1, sp_bw]
    have leaf : ∀ (ex : List (List V)) (tips : List Tip), CutM (FndM2 l fnd0 [.val (.int .i64 0)] [.val (.int .i64 0)] [.val (.int .i64 0)] .ready)
        ⟨fnd0 :: [.val (.int .i64 0)] :: [.val (.int .i64 0)] :: [.val (.int .i64 0)] :: mpV (kvF [] (bwTo l l.length)) :: [.ref .map 4] :: [.lit 5 (l.map cs)] :: [St.ready.v] :: [St.ready.v] :: [.lit 5 (l.map cs)] :: [St.ready.v] :: [St.ready.v] :: ex, tips⟩
        (FndM2 l fnd0 [.val (.int .i64 0)] [.val (.int .i64 0)] [.val (.int .i64 0)] .ready) := by
      intro ex tips
      refine .inr ⟨?_, ?_⟩
      · have h2 := (kvF_clean (bwTo l l.length) (kvs := []) (fun p hp => by cases hp)).under 12 0
        have h3 := under_map 12 0 l
        simp [FndM2, underX, underL, V.under, fnd0, St.v, h2, h3]
      · simp [FndM2]
    have leaf2 : ∀ (q : Sta) (a b : Int) (ex : List (List V)) (tips : List Tip), CutM (FndM2 l fnd0 [.val (.int .i64 0)] [.val (.int .i64 0)] [.val (.int .i64 0)] .ready)
        ⟨cs q :: [.val (.int .i64 a)] :: [.val (.int .i64 b)] :: [.val (.int .i64 0)] :: mpV (kvF [] (bwTo l l.length)) :: [.ref .map 4] :: [.lit 5 (l.map cs)] :: [St.ready.v] :: [St.ready.v] :: [.lit 5 (l.map cs)] :: [St.ready.v] :: [St.ret.v] :: ex, tips⟩
        (FndM3 l (q, a, b)) := by
      intro q a b ex tips
      refine .inr ⟨?_, ?_⟩
      · have h2 := (kvF_clean (bwTo l l.length) (kvs := []) (fun p hp => by cases hp)).under 12 0
        have h3 := under_map 12 0 l
        have h4 := under_map 12 0 q.map
        have h5 := under_map 12 0 q.pts
        have h6 := under_map 12 0 q.staged
        simp [FndM2, underX, underL, V.under, St.v, h2, h3, h4, h5, h6]
      · simp [FndM2, FndM3]
    refine ⟨_, _, .tuple [], _, (fndS l).elim St.ready fun _ => St.ret, by simp, c_backward1 _ _ 9 l hl2 _ _ rfl
      (YRun.find (K := BwK 9 l) bwArg (fun p => fndOne l p.2) (FndM2 l fnd0 [.val (.int .i64 0)] [.val (.int .i64 0)] [.val (.int .i64 0)] .ready) (FndM3 l) rfl (bwTo l l.length) ?hs), ?_, ?_, ?_⟩
    case hs =>
      intro x hx
      refine Or.inr ⟨rfl, ?_⟩
      obtain ⟨i, f⟩ := x
      have hf : f ∈ l := by
        have h1 : f ∈ (bwTo l l.length).map (·.2) := List.mem_map.2 ⟨(i, f), hx, rfl⟩
        rw [bwTo_snd l _ (Nat.le_refl _)] at h1
        simpa using h1
      obtain ⟨hb, hsq⟩ := hl.2 f hf
      have hb2 : f.rcd.body.length ≤ 1099511627776 := by omega
      have hn : takeV f.rcd.body 2 < 65536 := by
        unfold takeV
        split
        · exact leN_lt' f.rcd.body 2
        · decide
      have w1 := IntWalk.i64_in ((takeV f.rcd.body 2 : Nat) : Int) (by omega)
      by_cases hc : f.rcd.kind = 3 ∧ takeE f.rcd.body 2 = 0 ∧ takeR f.rcd.body 2 = [] ∧ (takeV f.rcd.body 2 : Int) ≤ f.rcd.seq
      · have hc' := hc
        obtain ⟨hk, hE, hR, hle⟩ := hc
        have w2 := IntWalk.i64_in (f.rcd.seq - ((takeV f.rcd.body 2 : Nat) : Int)) (by omega)
        have hle2 : ¬ f.rcd.seq < (takeV f.rcd.body 2 : Int) := by omega
        simp [roundW, putAll, St.of, FndM2, loopAt, bwArg, hb2, w1, w2, hk, hE, hR, hle, hle2]
        obtain ⟨G, hG⟩ : ∃ G, gather (lookF l) (f.rcd.seq - takeV f.rcd.body 2) (takeV f.rcd.body 2) = G := ⟨_, rfl⟩
        have hfo : fndOne l f = G.bind fun b => if rdE b = 0 then some (rdQ b, f.rcd.seq - takeV f.rcd.body 2, f.rcd.seq) else none := by rw [fndOne, if_pos hc', hG]
        rw [hfo]
        refine wp_loop (FndI l f G) (takeV f.rcd.body 2) (IW.of ⟨[], [], 0, by simp, by simp, by simp, by simp, by simp, by simp, by simp, by simp, Nat.le_refl _, by simp, by rw [hG]; cases G <;> rfl, by simp, by simp [hk]⟩) fun k s m ⟨acc, junk, n0, s6, s11, s2, s3, s4, s5, s16, s17, hkn, s15, hGG, hal, hm⟩ => ?_
        subst hm
        have jl : junk.length + 14 = 14 + junk.length := by omega
        cases k with
        | zero =>
          have hGa : G = some acc := by rw [hGG]; simp [gather]
          have hal2 : acc.length ≤ 1099511627776 := by omega
          by_cases hrd : rdE acc = 0
          · simp [F_snap_Found_L0, s6, s11, s2, s3, s4, s5, s16, s17, s15, hal2, hrd, hGa, St.of, St.cont, loopAt, fnd0]
            exact leaf2 _ _ _ _ _
          · simp [F_snap_Found_L0, s6, s11, s2, s3, s4, s5, s16, s17, s15, hal2, hrd, hGa, St.of, St.cont, loopAt]
            exact leaf _ _
        | succ k =>
          have hcast : ((k + 1 : Nat) : Int) = (k : Int) + 1 := by omega
          rw [hcast] at s17 hGG
          have w4 := IntWalk.i64_in (f.rcd.seq - ((k : Int) + 1) + 1) (by omega)
          have hq : f.rcd.seq - ((k : Int) + 1) < f.rcd.seq := by omega
          have hlook := kvF_look l (f.rcd.seq - ((k : Int) + 1))
          have hsub : f.rcd.seq - ((k : Int) + 1) + 1 = f.rcd.seq - k := by omega
          rw [gather, hsub] at hGG
          cases hlk : lookF l (f.rcd.seq - ((k : Int) + 1)) with
          | none =>
            rw [hlk] at hGG hlook
            simp only [Option.bind_none, Option.map_none] at hGG
            simp only [Option.map_none] at hlook
            simp [F_snap_Found_L0, s6, s11, s2, s3, s4, s5, s16, s17, s15, hlook, hq, hGG, St.of, St.cont, loopAt]
            exact leaf _ _
          | some p =>
            rw [hlk] at hGG hlook
            simp only [Option.map_some, enc_rec] at hlook
            simp only [Option.bind_some] at hGG
            by_cases hp : p.kind = 2
            · rw [if_pos hp] at hGG
              have hpb : p.body.length ≤ 2 ^ 20 := by
                unfold lookF at hlk
                rw [Option.map_eq_some_iff] at hlk
                obtain ⟨g, hg, rfl⟩ := hlk
                exact (hl.2 g (List.mem_of_find?_eq_some hg)).1
              have hal3 : acc.length + p.body.length ≤ 140737488355328 := by omega
              simp [F_snap_Found_L0, s6, s11, s2, s3, s4, s5, s16, s17, s15, hlook, hq, hp, w4, hal3]
              exact ⟨k, by omega, IW.of ⟨acc ++ p.body, _, n0, by simp [s6], by simp [s11], by simp [s2], by simp [s3], by simp [s4], by simp [s5], by simp [s16], by simp [hsub], by omega, by simp,
                by rw [hGG]; cases gather (lookF l) (f.rcd.seq - k) k <;> simp, by rw [List.length_append]; omega, by simp; rfl⟩⟩
            · rw [if_neg hp] at hGG
              simp only [Option.map_none] at hGG
              simp [F_snap_Found_L0, s6, s11, s2, s3, s4, s5, s16, s17, s15, hlook, hq, hp, hGG, St.of, St.cont, loopAt]
              exact leaf _ _
      · have hno : fndOne l f = none := by rw [fndOne, if_neg hc]
        simp [roundW, putAll, St.of, St.cont, FndM2, loopAt, bwArg, hno, hb2, w1]
        repeat' first | apply And.intro | intro _
        all_goals first
          | exact leaf _ _
          | exact absurd ⟨by assumption, by assumption, by assumption, by assumption⟩ hc
    · show (((fndS l).elim _ _ : Mem).boxes[_]?) = _
      cases fndS l <;> simp [loopAt, FndM2, FndM3]
    · cases fndS l <;> simp
    · show blockQ _ _ _ _ ((fndS l).elim _ _)
      cases hS : fndS l with
      | none =>
        simp [FndM2, St.out, fndV]
        exact ⟨⟨rfl, by decide⟩, rfl, rfl, rfl, rfl, rfl, rfl⟩
      | some y =>
        obtain ⟨q, a, b⟩ := y
        simp [FndM2, FndM3, St.out, fndV]
end Go.Av

namespace Go.Av
open Enc (enc dec)
open Cel (cs dc)
open Go.Proofs Pl

/-- Few extents, of few bytes. -/
def few7 (l : List Xt) : Bool := decide (l.length ≤ 70) && l.all fun x => decide (x.data.length ≤ 3000)
def few11 (q : Sta) : Bool := decide (q.pts.length ≤ 10) && decide (q.staged.length ≤ 6000) && few7 q.map && q.pts.all fun p => few7 p.map
def Few7I (l : List Xt) (k : Nat) (s : Nat → V) (m : Mem) : Prop :=
  ∃ i : Nat, i + k = l.length ∧ s 0 = .lit 5 (l.map cs) ∧ s 3 = .val (.int .i64 i) ∧ (l.take i).all (fun x => decide (x.data.length ≤ 3000)) = true
theorem c_few7 (l : List Xt) (hl : l.length ≤ 9223372036854775807) : Pure Try.prog n_w07_Few [enc l] (enc (few7 l)) [] := by
  refine Pure.ofC OOk.nil hm F_w07_Few_ok (by simp [F_w07_Few]) rfl ?_
  have w1 := IntWalk.i64_in (l.length : Int) (by omega)
  by_cases h : l.length ≤ 70
  · have h2 : ¬ (70 : Int) < l.length := by omega
    simp [F_w07_Few, w1, h2, few7, h]
    refine wp_loop (Few7I l) l.length (IW.of ⟨0, by omega, by simp, by simp, by simp⟩) fun k s m ⟨i, hik, s0, s3, ht⟩ => ?_
    by_cases hi : i < l.length
    · have w3 := IntWalk.i64_in ((i : Int) + 1) (by omega)
      have hsn : l.take (i + 1) = l.take i ++ [l[i]] := by rw [List.take_add_one, List.getElem?_eq_getElem hi]; rfl
      by_cases hd : l[i].data.length ≤ 3000
      · have hd2 : ¬ (3000 : Int) < l[i].data.length := by omega
        simp [F_w07_Few_L0, s0, s3, w1, hi, hd, hd2, w3]
        refine ⟨k - 1, by omega, IW.of ⟨i + 1, by omega, by simp [s0], by simp, ?_⟩⟩
        rw [hsn, List.all_append, ht]
        simp [hd]
      · have hd2 : (3000 : Int) < l[i].data.length := by omega
        simp [F_w07_Few_L0, s0, s3, w1, hi, hd, hd2]
        exact ⟨l[i], List.getElem_mem hi, by omega⟩
    · simp [F_w07_Few_L0, s0, s3, w1, hi]
      rw [List.take_of_length_le (by omega)] at ht
      simpa using ht
  · have h2 : (70 : Int) < l.length := by omega
    simp [F_w07_Few, w1, h2, few7, h]
@[simp] def sp_few7 (l : List Xt) : Option (V × List Tip) := if l.length ≤ 9223372036854775807 then some (enc (few7 l), []) else none
theorem sp_few7_ok : EOk Try.prog n_w07_Few (sp1 sp_few7) := sp1_ok fun l r h => by
  simp only [sp_few7] at h
  split at h <;> cases h
  exact c_few7 l (by assumption)
def D40 : Orc := Orc.nil.add n_w07_Few (sp1 sp_few7)
theorem D40_ok : OOk Try.prog D40 := OOk.nil.add sp_few7_ok
/-- What is always so of a state that was handed in. -/
def staBig (q : Sta) : Prop := q.map.length ≤ 9223372036854775807 ∧ q.pts.length ≤ 9223372036854775807 ∧ (∀ p ∈ q.pts, p.map.length ≤ 9223372036854775807) ∧ q.staged.length ≤ 9223372036854775807
def Few11I (q : Sta) (k : Nat) (s : Nat → V) (m : Mem) : Prop :=
  ∃ i : Nat, i + k = q.pts.length ∧ s 1 = .ptr 0 0 ∧ s 3 = .val (.int .i64 i) ∧ (q.pts.take i).all (fun p => few7 p.map) = true ∧ m = ⟨[cs q], []⟩
theorem c_few11 (q : Sta) (hq : staBig q) : Pure Try.prog n_w11_Few [enc q] (enc (few11 q)) [] := by
  refine Pure.ofC D40_ok hm F_w11_Few_ok (by simp [F_w11_Few]) rfl ?_
  obtain ⟨g1, g2, g3, g4⟩ := hq
  have g1' : q.map.length ≤ 9223372036854775807 := g1
  have w1 := IntWalk.i64_in (q.pts.length : Int) (by omega)
  have w2 := IntWalk.i64_in (q.staged.length : Int) (by omega)
  by_cases h1 : q.pts.length ≤ 10
  · have h1' : ¬ (10 : Int) < q.pts.length := by omega
    by_cases h2 : q.staged.length ≤ 6000
    · have h2' : ¬ (6000 : Int) < q.staged.length := by omega
      cases h3 : few7 q.map with
      | false => simp [F_w11_Few, D40, w1, w2, h1, h1', h2, h2', h3, g1', few11]
      | true =>
        simp [F_w11_Few, D40, w1, w2, h1, h1', h2, h2', h3, g1', few11]
        refine wp_loop (Few11I q) q.pts.length (IW.of ⟨0, by omega, by simp, by simp, by simp, by simp⟩) fun k s m ⟨i, hik, s1, s3, ht, hm⟩ => ?_
        subst hm
        by_cases hi : i < q.pts.length
        · have w3 := IntWalk.i64_in ((i : Int) + 1) (by omega)
          have hsn : q.pts.take (i + 1) = q.pts.take i ++ [q.pts[i]] := by rw [List.take_add_one, List.getElem?_eq_getElem hi]; rfl
          have g5 : q.pts[i].map.length ≤ 9223372036854775807 := g3 _ (List.getElem_mem hi)
          cases hd : few7 q.pts[i].map with
          | true =>
            simp [F_w11_Few_L0, D40, s1, s3, w1, hi, hd, w3, g5]
            refine ⟨k - 1, by omega, IW.of ⟨i + 1, by omega, by simp [s1], by simp, ?_, rfl⟩⟩
            rw [hsn, List.all_append, ht]
            simp [hd]
          | false =>
            simp [F_w11_Few_L0, D40, s1, s3, w1, hi, hd, g5]
            exact ⟨q.pts[i], List.getElem_mem hi, hd⟩
        · simp [F_w11_Few_L0, s1, s3, w1, hi]
          rw [List.take_of_length_le (by omega)] at ht
          simpa using ht
    · have h2' : (6000 : Int) < q.staged.length := by omega
      simp [F_w11_Few, D40, w1, w2, h1, h1', h2, h2', few11]
  · have h1' : (10 : Int) < q.pts.length := by omega
    simp [F_w11_Few, D40, w1, h1, h1', few11]
/-- Records, as they are found. -/
def foundL (l : List Rec) : List Fnd := l.map fun r => ⟨r, 0, 0⟩
def FoundI (l : List Rec) (k : Nat) (s : Nat → V) (m : Mem) : Prop :=
  ∃ (i t : Nat) (a : List Tip), i + k = l.length ∧ s 0 = .lit 3 (l.map cs) ∧ s 4 = .val (.int .i64 i) ∧ s 3 = .row t 5 ((foundL (l.take i)).map cs) ∧ m = ⟨[], a⟩ ∧ a[t]? = some (57, 5, i)
theorem c_found (l : List Rec) (hl : l.length ≤ 2 ^ 40) : Pure Try.prog n_w12_found [enc l] (.row 0 5 ((foundL l).map cs)) [(57, 5, (foundL l).length)] := by
  refine Pure.ofR OOk.nil hm F_w12_found_ok (by simp [F_w12_found]) (by simp [V.res, V.res1]) ?_
  have w1 := IntWalk.i64_in (l.length : Int) (by omega)
  simp [F_w12_found]
  refine wp_loop (FoundI l) l.length (IW.of ⟨0, 1, _, by omega, by simp, by simp, by simp [foundL], rfl, rfl⟩) fun k s m ⟨i, t, a, hik, s0, s4, s3, hm, ht⟩ => ?_
  subst hm
  by_cases hi : i < l.length
  · have w3 := IntWalk.i64_in ((i : Int) + 1) (by omega)
    have hsn : foundL (l.take (i + 1)) = foundL (l.take i) ++ [⟨l[i], 0, 0⟩] := by unfold foundL; rw [List.take_add_one, List.getElem?_eq_getElem hi, Option.toList_some, List.map_append]; rfl
    have hfl : (foundL (l.take i)).length = i := by simp [foundL]; omega
    simp [F_w12_found_L0, s0, s4, s3, w1, w3, hi, hfl, ht]
    exact ⟨by omega, k - 1, by omega, IW.of ⟨i + 1, t, _, by omega, by simp [s0], by simp, by rw [hsn]; simp, rfl, by simp [(List.getElem?_eq_some_iff.1 ht).1]⟩⟩
  · have hle : l.take i = l := List.take_of_length_le (by omega)
    rw [hle] at s3
    have e : i = (foundL l).length := by simp [foundL]; omega
    simp [F_w12_found_L0, s0, s4, s3, w1, hi]
    rw [← e]; exact ht
end Go.Av

namespace Go.Av
open Enc (enc dec)
open Cel (cs dc)
open Go.Proofs Pl

theorem unpackE_ww {b : List UInt8} (h : b.length = 8) : unpackE [119, 119] b = 0 := by
  match b, h with
  | a1 :: a2 :: a3 :: a4 :: a5 :: a6 :: a7 :: a8 :: [], _ => simp [unpackE, unpackS, sizeL, okT, mayB]
theorem unpackE_bwwbh {b : List UInt8} (h : b.length = 12) : unpackE [98, 119, 119, 98, 104] b = 0 := by
  match b, h with
  | a1 :: a2 :: a3 :: a4 :: a5 :: a6 :: a7 :: a8 :: a9 :: a10 :: a11 :: a12 :: [], _ => simp [unpackE, unpackS, sizeL, okT, mayB]
theorem unpack_h {b : List UInt8} (h : b.length = 2) : unpackN [104] b = [leN b] ∧ unpackE [104] b = 0 := by
  match b, h with
  | a1 :: a2 :: [], _ => simp [unpackN, unpackE, unpackS, sizeL, okT, mayB]
theorem numW_false {w : Bool} {l f : List UInt8} {n : Int} (h : numW w l f n = false) :
    w = false ∧ ¬ (l.length : Int) < n ∧ unpackE f (l.take n.toNat) = 0 ∧ numL w l f n = unpackN f (l.take n.toNat) ∧ numR w l n = l.drop n.toNat := by
  have h0 := h
  simp only [numW, Bool.or_eq_false_iff, decide_eq_false_iff_not, Decidable.not_not, ne_eq] at h
  obtain ⟨h1, h2⟩ := h
  have h3 := cut_ok h1
  have e : cutL w l n = l.take n.toNat := by rw [cutL, if_neg h3]
  rw [e] at h2
  have hr : numR w l n = l.drop n.toNat := by rw [numR, if_neg h3]
  simp only [not_or, Bool.not_eq_true] at h3
  exact ⟨h3.1, h3.2, h2, by rw [numL, if_neg (by simp [h0]), e], hr⟩
theorem num_fwd {x f : List UInt8} {n : Int} (r : List UInt8) (hx : (x.length : Int) = n) (hu : unpackE f x = 0) :
    numW false (x ++ r) f n = false ∧ numL false (x ++ r) f n = unpackN f x ∧ numR false (x ++ r) n = r := by
  subst hx
  have e : cutL false (x ++ r) x.length = x := by
    rw [cutL, if_neg (by simp; omega)]
    simp
  have hw : numW false (x ++ r) f x.length = false := by simp [numW, cutW, e, hu]; omega
  refine ⟨hw, by rw [numL, if_neg (by simp [hw]), e], ?_⟩
  rw [numR, if_neg (by simp; omega)]
  simp
theorem leN_leB_lt {v w : Nat} (h : v < 256 ^ w) : leN (leB v w) = v := by rw [leN_leB, Nat.mod_eq_of_lt h]
theorem mp_fwd {n : Int} {M : List Xt} (h : mapOk n M = true) (r : List UInt8) : mpW false (mapB M ++ r) = false ∧ mpL false (mapB M ++ r) = M ∧ mpR false (mapB M ++ r) = r := by
  obtain ⟨h1, h2, h3, h4⟩ := mapOk_wr h
  rw [h3] at h2
  have e : mapB M ++ r = leB (wrB M).length 2 ++ (wrB M ++ r) := by simp [mapB]
  rw [e]
  obtain ⟨u1, u2⟩ := unpack_h (leB_length (wrB M).length 2)
  obtain ⟨a1, a2, a3⟩ := num_fwd (n := 2) (wrB M ++ r) (by rw [leB_length]; rfl) u2
  have hN : mpN false (leB (wrB M).length 2 ++ (wrB M ++ r)) = (wrB M).length := by
    rw [mpN, a2, u1, List.headD_cons, leN_leB_lt (by omega)]
  have hT : mpT false (leB (wrB M).length 2 ++ (wrB M ++ r)) = wrB M := by
    rw [mpT, a1, a3, hN, cutL, if_neg (by simp; omega)]
    simp
  have hX := readX_some.2 ⟨h1, rfl⟩
  refine ⟨?_, by simp [mpL, hT, readL, hX], ?_⟩
  · simp [mpW, a1, a3, hN, hT, readE, hX, cutW]; omega
  · rw [mpR, a1, a3, hN, numR, if_neg (by simp; omega)]
    simp
theorem mp_bwd {w : Bool} {l : List UInt8} (h : mpW w l = false) : w = false ∧ l = mapB (mpL w l) ++ mpR w l := by
  simp only [mpW, Bool.or_eq_false_iff, decide_eq_false_iff_not, ne_eq, Decidable.not_not] at h
  obtain ⟨h1, h2⟩ := h
  have hw : numW w l [104] 2 = false := by
    cases hh : numW w l [104] 2 with
    | false => rfl
    | true => simp [cutW, hh] at h1
  have h3 := cut_ok h1
  obtain ⟨rfl, b2, b3, b4, b5⟩ := numW_false hw
  have l2 : (l.take (2 : Int).toNat).length = 2 := by
    have e : (2 : Int).toNat = 2 := rfl
    rw [e]; simp; omega
  have hN : mpN false l = leN (l.take (2 : Int).toNat) := by rw [mpN, b4, (unpack_h l2).1]; rfl
  have h4 := h3
  simp only [not_or, b5, Int.not_lt] at h4
  have hT : mpT false l = (l.drop (2 : Int).toNat).take (mpN false l) := by rw [mpT, cutL, if_neg h3, b5]; rfl
  have lT : (mpT false l).length = mpN false l := by rw [hT]; simp at h4 ⊢; omega
  have hX : ∃ M, readX (mpT false l) = some M := by
    cases hh : readX (mpT false l) with
    | some M => exact ⟨M, rfl⟩
    | none => simp [readE, hh] at h2
  obtain ⟨M, hM⟩ := hX
  have hM2 := (readX_some.1 hM).2
  have hL : mpL false l = M := by simp [mpL, readL, hM]
  have hR : mpR false l = (l.drop (2 : Int).toNat).drop (mpN false l) := by rw [mpR, numR, if_neg h3, b5]; rfl
  refine ⟨rfl, ?_⟩
  rw [hL, hR, mapB, hM2, lT, hN]
  have e2 := leB_leN (l.take (2 : Int).toNat)
  rw [l2] at e2
  rw [e2, ← hN, hT, List.append_assoc, List.take_append_drop, List.take_append_drop]
theorem rdPts_fwd {q : Sta} (hq : q.last ≤ 2147483647 ∧ q.gen ≤ 2147483647) : ∀ (P : List Pt) (r : List UInt8), (∀ p ∈ P, ptFine q p) → rdPts P.length false (P.flatMap ptB ++ r) = (P, false, r)
  | [], r, _ => rfl
  | p :: P, r, h => by
    obtain ⟨f1, f2, f3, f4, f5⟩ := h p (List.mem_cons_self ..)
    have e : (p :: P).flatMap ptB ++ r = (leB p.id.toNat 4 ++ leB p.gen.toNat 4) ++ (mapB p.map ++ (P.flatMap ptB ++ r)) := by simp [ptB]
    have l8 : (leB p.id.toNat 4 ++ leB p.gen.toNat 4).length = 8 := by simp [leB_length]
    obtain ⟨a1, a2, a3⟩ := num_fwd (n := 8) (mapB p.map ++ (P.flatMap ptB ++ r)) (by rw [l8]; rfl) (unpackE_ww l8)
    obtain ⟨m1, m2, m3⟩ := mp_fwd f1 (P.flatMap ptB ++ r)
    have ih := rdPts_fwd hq P r fun p hp => h p (List.mem_cons_of_mem _ hp)
    rw [e, List.length_cons, rdPts, if_neg (by simp)]
    simp only [a1, a2, a3, m1, m2, m3, ih, unpack_ww l8]
    have t1 : (leB p.id.toNat 4 ++ leB p.gen.toNat 4).take 4 = leB p.id.toNat 4 := List.take_left' (leB_length _ _)
    have t2 : (leB p.id.toNat 4 ++ leB p.gen.toNat 4).drop 4 = leB p.gen.toNat 4 := List.drop_left' (leB_length _ _)
    have t3 : (leB p.gen.toNat 4).take 4 = leB p.gen.toNat 4 := List.take_of_length_le (by simp [leB_length])
    rw [t1, t2, t3, leN_leB_lt (by omega), leN_leB_lt (by omega)]
    simp only [List.headD_cons, List.drop_one, List.tail_cons, List.drop_succ_cons, List.drop_zero]
    have i1 : ((p.id.toNat : Nat) : Int) = p.id := by omega
    have i2 : ((p.gen.toNat : Nat) : Int) = p.gen := by omega
    rw [i1, i2]
theorem rdPts_bwd : ∀ (k : Nat) (w : Bool) (l : List UInt8) (P : List Pt) (r : List UInt8), rdPts k w l = (P, false, r) → w = false ∧ P.length = k ∧ l = P.flatMap ptB ++ r
  | 0, w, l, P, r, h => by
    simp only [rdPts, Prod.mk.injEq] at h
    obtain ⟨rfl, rfl, rfl⟩ := h
    simp
  | k + 1, w, l, P, r, h => by
    rw [rdPts] at h
    split at h
    · rename_i hw
      simp only [Prod.mk.injEq] at h
      rw [hw] at h
      exact absurd h.2.1 (by decide)
    · rename_i hw
      simp only [Prod.mk.injEq] at h
      obtain ⟨h1, h2⟩ := h
      obtain ⟨i1, i2, i3⟩ := rdPts_bwd k _ _ _ _ (Prod.ext (rfl : (rdPts k (mpW (numW w l [119, 119] 8) (numR w l 8)) (mpR (numW w l [119, 119] 8) (numR w l 8))).1 = _) h2)
      obtain ⟨m1, m2⟩ := mp_bwd i1
      obtain ⟨rfl, b2, b3, b4, b5⟩ := numW_false m1
      have e8 : (8 : Int).toNat = 8 := rfl
      rw [e8] at b3 b4 b5
      have l8 : (l.take 8).length = 8 := by simp; omega
      subst h1
      refine ⟨rfl, by simp [i2], ?_⟩
      rw [List.flatMap_cons, List.append_assoc, ← i3, ptB, b4, unpack_ww l8]
      simp only [List.headD_cons, List.drop_succ_cons, List.drop_zero, Int.toNat_natCast]
      have t1 := leB_leN ((l.take 8).take 4)
      have t2 := leB_leN (((l.take 8).drop 4).take 4)
      have k1 : ((l.take 8).take 4).length = 4 := by simp; omega
      have k2 : (((l.take 8).drop 4).take 4).length = 4 := by simp; omega
      rw [k1] at t1
      rw [k2] at t2
      rw [t1, t2]
      have t3 : ((l.take 8).drop 4).take 4 = (l.take 8).drop 4 := List.take_of_length_le (by simp; omega)
      rw [t3, List.take_append_drop, List.append_assoc, ← m2, b5, List.take_append_drop]
theorem five {x1 x2 x3 x4 x5 : List UInt8} (h1 : x1.length = 1) (h2 : x2.length = 4) (h3 : x3.length = 4) (h4 : x4.length = 1) (h5 : x5.length = 2) :
    (x1 ++ (x2 ++ (x3 ++ (x4 ++ x5)))).take 1 = x1 ∧ ((x1 ++ (x2 ++ (x3 ++ (x4 ++ x5)))).drop 1).take 4 = x2 ∧ ((x1 ++ (x2 ++ (x3 ++ (x4 ++ x5)))).drop 5).take 4 = x3 ∧
      ((x1 ++ (x2 ++ (x3 ++ (x4 ++ x5)))).drop 9).take 1 = x4 ∧ ((x1 ++ (x2 ++ (x3 ++ (x4 ++ x5)))).drop 10).take 2 = x5 := by
  match x1, h1, x2, h2, x3, h3, x4, h4, x5, h5 with
  | [_], _, [_, _, _, _], _, [_, _, _, _], _, [_], _, [_, _], _ => exact ⟨rfl, rfl, rfl, rfl, rfl⟩
theorem five_bwd {b : List UInt8} (h : b.length = 12) : leB (leN (b.take 1)) 1 ++ (leB (leN ((b.drop 1).take 4)) 4 ++ (leB (leN ((b.drop 5).take 4)) 4 ++ (leB (leN ((b.drop 9).take 1)) 1 ++ leB (leN ((b.drop 10).take 2)) 2))) = b := by
  match b, h with
  | a1 :: a2 :: a3 :: a4 :: a5 :: a6 :: a7 :: a8 :: a9 :: a10 :: a11 :: a12 :: [], _ =>
    have e1 := leB_leN [a1]
    have e2 := leB_leN [a2, a3, a4, a5]
    have e3 := leB_leN [a6, a7, a8, a9]
    have e4 := leB_leN [a10]
    have e5 := leB_leN [a11, a12]
    show leB (leN [a1]) 1 ++ (leB (leN [a2, a3, a4, a5]) 4 ++ (leB (leN [a6, a7, a8, a9]) 4 ++ (leB (leN [a10]) 1 ++ leB (leN [a11, a12]) 2))) = _
    have e1 : leB (leN [a1]) 1 = [a1] := e1
    have e2 : leB (leN [a2, a3, a4, a5]) 4 = [a2, a3, a4, a5] := e2
    have e3 : leB (leN [a6, a7, a8, a9]) 4 = [a6, a7, a8, a9] := e3
    have e4 : leB (leN [a10]) 1 = [a10] := e4
    have e5 : leB (leN [a11, a12]) 2 = [a11, a12] := e5
    rw [e1, e2, e3, e4, e5]
    rfl
theorem rdS_fwd {q : Sta} (h : staOk q = true) (r : List UInt8) : rdS false (bodyS q ++ r) = (q, false, r) := by
  obtain ⟨f1, f2, f3, f4, f5, f6, f7, f8⟩ := staOk_fine h
  have hb := mapOk_le f1
  have l12 : (headB q).length = 12 := by simp [headB, leB_length]
  have e : bodyS q ++ r = headB q ++ (q.staged ++ (mapB q.map ++ (q.pts.flatMap ptB ++ r))) := by simp [bodyS]
  obtain ⟨a1, a2, a3⟩ := num_fwd (n := 12) (q.staged ++ (mapB q.map ++ (q.pts.flatMap ptB ++ r))) (by rw [l12]; rfl) (unpackE_bwwbh l12)
  obtain ⟨m1, m2, m3⟩ := mp_fwd f1 (q.pts.flatMap ptB ++ r)
  have ih := rdPts_fwd ⟨f6, f3⟩ q.pts r f8
  obtain ⟨v1, v2, v3, v4, v5⟩ := five (leB_length q.blocks.toNat 1) (leB_length q.gen.toNat 4) (leB_length q.last.toNat 4) (leB_length q.pts.length 1) (leB_length q.staged.length 2)
  have hN : unpackN [98, 119, 119, 98, 104] (headB q) = [q.blocks.toNat, q.gen.toNat, q.last.toNat, q.pts.length, q.staged.length] := by
    rw [unpack_bwwbh l12, headB, v1, v2, v3, v4, v5, leN_leB_lt (by omega), leN_leB_lt (by omega), leN_leB_lt (by omega), leN_leB_lt (by omega), leN_leB_lt (by omega)]
  have hc : cutL false (q.staged ++ (mapB q.map ++ (q.pts.flatMap ptB ++ r))) q.staged.length = q.staged := by
    rw [cutL, if_neg (by simp; omega)]
    simp
  have hc2 : numR false (q.staged ++ (mapB q.map ++ (q.pts.flatMap ptB ++ r))) q.staged.length = mapB q.map ++ (q.pts.flatMap ptB ++ r) := by
    rw [numR, if_neg (by simp; omega)]
    simp
  have hc3 : cutW false (q.staged ++ (mapB q.map ++ (q.pts.flatMap ptB ++ r))) q.staged.length = false := by simp [cutW]; omega
  rw [e, rdS]
  simp only [a1, a2, a3, hN, List.getD_cons_zero, List.getD_cons_succ, hc, hc2, hc3, m1, m2, m3, ih]
  have i1 : ((q.blocks.toNat : Nat) : Int) = q.blocks := by omega
  have i2 : ((q.gen.toNat : Nat) : Int) = q.gen := by omega
  have i3 : ((q.last.toNat : Nat) : Int) = q.last := by omega
  rw [i1, i2, i3]
theorem rdS_bwd {w : Bool} {l : List UInt8} {q : Sta} {r : List UInt8} (h : rdS w l = (q, false, r)) : w = false ∧ l = bodyS q ++ r := by
  simp only [rdS, Prod.mk.injEq] at h
  obtain ⟨h1, h2⟩ := h
  obtain ⟨i1, i2, i3⟩ := rdPts_bwd _ _ _ _ _ (Prod.ext (rfl : (rdPts _ _ _).1 = _) h2)
  obtain ⟨m1, m2⟩ := mp_bwd i1
  have c1 := cut_ok m1
  have hw : numW w l [98, 119, 119, 98, 104] 12 = false := by simpa using fun hh => c1 (.inl hh)
  obtain ⟨rfl, b2, b3, b4, b5⟩ := numW_false hw
  have e12 : (12 : Int).toNat = 12 := rfl
  rw [e12] at b3 b4 b5
  have l12 : (l.take 12).length = 12 := by simp; omega
  subst h1
  refine ⟨rfl, ?_⟩
  simp only [not_or, Int.not_lt] at c1
  rw [b5] at c1
  have hn4 := c1.2
  simp only [Int.ofNat_le] at hn4
  have hcl : cutL (numW false l [98, 119, 119, 98, 104] 12) (numR false l 12) ((numL false l [98, 119, 119, 98, 104] 12).getD 4 0) = (l.drop 12).take ((numL false l [98, 119, 119, 98, 104] 12).getD 4 0) := by
    rw [cutL, if_neg (by simp only [not_or, Int.not_lt]; rw [b5]; exact c1), b5]; rfl
  have hcr : numR (numW false l [98, 119, 119, 98, 104] 12) (numR false l 12) ((numL false l [98, 119, 119, 98, 104] 12).getD 4 0) = (l.drop 12).drop ((numL false l [98, 119, 119, 98, 104] 12).getD 4 0) := by
    rw [numR, if_neg (by simp only [not_or, Int.not_lt]; rw [b5]; exact c1), b5]; rfl
  have hlen : ((l.drop 12).take ((numL false l [98, 119, 119, 98, 104] 12).getD 4 0)).length = (numL false l [98, 119, 119, 98, 104] 12).getD 4 0 := by
    rw [List.length_take]; omega
  have h5 := five_bwd l12
  rw [hcr] at m2
  simp only [bodyS, headB, Int.toNat_natCast, i2, hcl, hlen, List.append_assoc]
  rw [← i3]
  simp only [hcr, ← m2]
  rw [List.take_append_drop]
  have hN : numL false l [98, 119, 119, 98, 104] 12 = _ := b4.trans (unpack_bwwbh l12)
  rw [hN]
  simp only [List.getD_cons_zero, List.getD_cons_succ]
  have h6 : l = l.take 12 ++ l.drop 12 := (List.take_append_drop 12 l).symm
  conv => lhs; rw [h6, ← h5]
  simp only [List.append_assoc]
/-- What is read was written; what was written is read. -/
theorem readS_some {b : List UInt8} {q : Sta} : readS b = some q ↔ staOk q = true ∧ snapB q = b := by
  constructor
  · intro h
    simp only [readS] at h
    split at h
    · cases h
    · rename_i hn
      simp only [not_or, Bool.not_eq_true, ne_eq, Decidable.not_not, Bool.not_eq_false] at hn
      obtain ⟨n1, n2, n3⟩ := hn
      cases h
      obtain ⟨w0, hl⟩ := rdS_bwd (Prod.ext (rfl : (rdS (decide (openE b ≠ 0)) (openT b)).1 = _) (Prod.ext n1 n2))
      refine ⟨n3, ?_⟩
      have ho : openOk b = true := by
        simp only [openE, decide_eq_false_iff_not, ne_eq, Decidable.not_not] at w0
        split at w0
        · assumption
        · exact absurd w0 (by decide)
      rw [snapB, if_pos n3]
      simp only [List.append_nil] at hl
      rw [← hl, openT, if_pos ho]
      simp only [openOk, Bool.and_eq_true, beq_iff_eq] at ho
      exact ho.2
  · rintro ⟨h, rfl⟩
    rw [snapB, if_pos h]
    have hs : (sealS (bodyS q)).length = (bodyS q).length + 4 := by simp [sealS, leB_length]
    have ht : (sealS (bodyS q)).take ((sealS (bodyS q)).length - 4) = bodyS q := by
      rw [hs, Nat.add_sub_cancel, sealS, List.take_left' rfl]
    have ho : openOk (sealS (bodyS q)) = true := by
      simp only [openOk, ht, beq_self_eq_true, Bool.and_true, decide_eq_true_eq]
      omega
    have hT : openT (sealS (bodyS q)) = bodyS q := by rw [openT, if_pos ho, ht]
    have hE : decide (openE (sealS (bodyS q)) ≠ 0) = false := by simp [openE, ho]
    have hr := rdS_fwd h []
    rw [List.append_nil] at hr
    simp only [readS, hE, hT, hr]
    simp [h]
/-- No beginning of a state's bytes is one. -/
theorem readS_take {q : Sta} (h : staOk q = true) {k : Nat} (hk : k < (snapB q).length) : readS ((snapB q).take k) = none := by
  cases hr : readS ((snapB q).take k) with
  | none => rfl
  | some x =>
    exfalso
    obtain ⟨hx, hb⟩ := readS_some.1 hr
    have e1 : snapB q = sealS (bodyS q) := by rw [snapB, if_pos h]
    have e2 : snapB x = sealS (bodyS x) := by rw [snapB, if_pos hx]
    rw [e1] at hk hb
    rw [e2] at hb
    have hs : (sealS (bodyS q)).length = (bodyS q).length + 4 := by simp [sealS, leB_length]
    have hsx : (sealS (bodyS x)).length = (bodyS x).length + 4 := by simp [sealS, leB_length]
    have hlen := congrArg List.length hb
    rw [hsx, List.length_take, hs] at hlen
    have hp : bodyS x = (bodyS q).take (bodyS x).length := by
      have h1 := congrArg (List.take (bodyS x).length) hb
      rw [sealS, List.take_left' rfl, List.take_take, sealS, List.take_append_of_le_length (by omega)] at h1
      rw [Nat.min_eq_left (by omega)] at h1
      exact h1
    have h1 := rdS_fwd h []
    have h2 := rdS_fwd hx ((bodyS q).drop (bodyS x).length)
    rw [List.append_nil] at h1
    have h3 : bodyS x ++ (bodyS q).drop (bodyS x).length = bodyS q := by
      conv => lhs; lhs; rw [hp]
      exact List.take_append_drop _ _
    rw [h3, h1] at h2
    simp only [Prod.mk.injEq] at h2
    have h4 := congrArg List.length h2.2.2
    rw [List.length_nil, List.length_drop] at h4
    omega
end Go.Av

namespace Go.Av
open Enc (enc dec)
open Cel (cs dc)
open Go.Proofs Pl

@[simp] def sp_stNew (n : Int) : Option (V × List Tip) := some (.tuple [enc (newS n), enc (newE n)], [])
theorem sp_stNew_ok : EOk Try.prog n_state_New (sp1 sp_stNew) := sp1_ok fun n r h => by cases h; exact c_st_New n
@[simp] def sp_snapRecs (q : Sta) (seq : Int) : Option (V × List Tip) := if q.map.length ≤ 2 ^ 30 ∧ q.pts.length ≤ 2 ^ 30 ∧ (∀ p ∈ q.pts, p.map.length ≤ 2 ^ 30) ∧ q.staged.length ≤ 2 ^ 30 then
  some (.tuple [.row 0 3 ((recsL q seq).map cs), enc (recsE q seq)], [(36, 3, (recsL q seq).length)]) else none
theorem sp_snapRecs_ok : EOk Try.prog n_snap_Records (sp2 sp_snapRecs) := sp2_ok fun q n r h => by
  simp only [sp_snapRecs] at h
  split at h <;> cases h
  exact c_snap_Records q n (by assumption)
@[simp] def sp_found (l : List Rec) : Option (V × List Tip) := if l.length ≤ 2 ^ 40 then some (.row 0 5 ((foundL l).map cs), [(57, 5, (foundL l).length)]) else none
theorem sp_found_ok : EOk Try.prog n_w12_found (sp1 sp_found) := sp1_ok fun l r h => by
  simp only [sp_found] at h
  split at h <;> cases h
  exact c_found l (by assumption)
@[simp] def sp_snapFound (l : List Fnd) : Option (V × List Tip) := if l.length ≤ 2 ^ 30 ∧ ∀ f ∈ l, f.rcd.body.length ≤ 2 ^ 20 ∧ f.rcd.seq < 2 ^ 63 then some (fndV (fndS l), []) else none
theorem sp_snapFound_ok : EOk Try.prog n_snap_Found (sp1 sp_snapFound) := sp1_ok fun l r h => by
  simp only [sp_snapFound] at h
  split at h <;> cases h
  exact c_snap_Found l (by assumption)
@[simp] def sp_stSame (a b : Sta) : Option (V × List Tip) := if a.map.length ≤ 2 ^ 30 ∧ a.pts.length ≤ 2 ^ 30 ∧ (∀ p ∈ a.pts, p.map.length ≤ 2 ^ 30) ∧ a.staged.length ≤ 2 ^ 30 then some (enc (decide (a = b)), []) else none
theorem sp_stSame_ok : EOk Try.prog n_r11_Same (sp2 sp_stSame) := sp2_ok fun a b r h => by
  simp only [sp_stSame] at h
  split at h <;> cases h
  exact c_r11_Same a b (by assumption)
def D41 : Orc := ((((((Orc.nil.add n_state_New (sp1 sp_stNew)).add n_snap_Write (sp1 sp_snapWrite)).add n_snap_Read (sp1 sp_snapRead)).add n_snap_Records (sp2 sp_snapRecs)).add n_w12_found (sp1 sp_found)).add n_snap_Found (sp1 sp_snapFound)).add n_r11_Same (sp2 sp_stSame)
theorem D41_ok : OOk Try.prog D41 := ((((((OOk.nil.add sp_stNew_ok).add sp_snapWrite_ok).add sp_snapRead_ok).add sp_snapRecs_ok).add sp_found_ok).add sp_snapFound_ok).add sp_stSame_ok

theorem readS_back {q : Sta} (h : staOk q = true) : rdQ (snapB q) = q ∧ rdE (snapB q) = 0 := by
  have := readS_some.2 ⟨h, rfl⟩
  simp [rdQ, rdE, this]
def s8 : Sta := ⟨8, 1, [⟨0, 8, 0, 0, []⟩], [], 0, []⟩
theorem newS_8 : newS 8 = s8 := by decide
theorem s8_ok : staOk s8 = true := by decide
theorem s8_len : (snapB s8).length = 26 := by
  rw [snapB, if_pos s8_ok]
  simp [sealS, bodyS, headB, mapB, wrB, wr1, hdX, leB_length, s8]
theorem chunks_nil (n : Nat) : chunks n [] = [] := rfl
theorem s8_parts : snapParts s8 = [snapB s8] := by
  have h := s8_len
  rw [snapParts, chunks_cons (by decide) (by intro e; rw [e] at h; cases h), List.take_of_length_le (by omega), List.drop_of_length_le (by omega), chunks_nil]
def s8r : List Rec := [⟨2, 5, snapB s8⟩, ⟨3, 6, [1, 0]⟩]
theorem s8_recs : recsL s8 5 = s8r ∧ recsE s8 5 = 0 := by
  have h : seqOk 5 = true := by decide
  rw [recsL, recsE, s8_parts, s8_ok, h]
  exact ⟨rfl, rfl⟩
theorem s8_found : fndS (foundL s8r) = some (s8, 5, 6) := by
  have e1 : fndOne (foundL s8r) ⟨⟨3, 6, [1, 0]⟩, 0, 0⟩ = some (s8, 5, 6) := by
    obtain ⟨h1, h2⟩ := readS_back s8_ok
    have ht : takeV [1, 0] 2 = 1 := by decide
    rw [fndOne, if_pos ⟨rfl, by decide, by decide, by decide⟩, ht]
    simp [gather, lookF, foundL, s8r, h1, h2]
  show (bwTo (foundL s8r) 2).findSome? _ = _
  show List.findSome? _ ((1, (⟨⟨3, 6, [1, 0]⟩, 0, 0⟩ : Fnd)) :: _) = _
  rw [List.findSome?_cons, e1]
@[simp] theorem fndV_some (q : Sta) (a b : Int) : fndV (some (q, a, b)) = .tuple [enc q, enc a, enc b, enc (0 : Int)] := rfl
@[simp] theorem fndV_none : fndV none = .tuple [enc Sta.zero, enc (0 : Int), enc (0 : Int), enc (120 : Int)] := rfl
theorem s8_lens : s8.map.length ≤ 1073741824 ∧ s8.pts.length ≤ 1073741824 ∧ (∀ p : Pt, p ∈ s8.pts → p.map.length ≤ 1073741824) ∧ s8.staged.length ≤ 1073741824 := ⟨by decide, by decide, by decide, by decide⟩
theorem s8_flens : (foundL s8r).length ≤ 1073741824 ∧ ∀ f : Fnd, f ∈ foundL s8r → f.rcd.body.length ≤ 1048576 ∧ f.rcd.seq < 9223372036854775808 := by
  have h := s8_len
  refine ⟨by decide, fun f hf => ?_⟩
  simp [foundL, s8r] at hf
  rcases hf with rfl | rfl
  · exact ⟨by simp; omega, by decide⟩
  · exact ⟨by decide, by decide⟩
set_option maxRecDepth 4000 in
theorem c_awake : Pure Try.prog n_w12_awake [] (.val (.bool true)) [] := by
  refine Pure.ofC D41_ok hm F_w12_awake_ok (by simp [F_w12_awake]) rfl ?_
  obtain ⟨h1, h2⟩ := readS_back s8_ok
  obtain ⟨h3, h4⟩ := s8_recs
  have h5 := s8_found
  have h6 := s8_len
  have h7 : staE s8 = 0 := by decide
  have h8 : staE Sta.zero = 110 := by decide
  have h8' : staE ⟨0, 0, [], [], 0, []⟩ = 110 := by decide
  have h9 : rdE [] = 120 := by
    have : readS [] = none := by
      cases hr : readS [] with
      | none => rfl
      | some q =>
        obtain ⟨k1, k2⟩ := readS_some.1 hr
        have := congrArg List.length k2
        rw [snapB, if_pos k1] at this
        simp [sealS, leB_length] at this
    simp [rdE, this]
  have h10 : fndS [] = none := rfl
  have k1 : s8r.length = 2 := rfl
  have k2 : s8r[0]? = some ⟨2, 5, snapB s8⟩ := rfl
  have k3 : s8r[1]? = some ⟨3, 6, [1, 0]⟩ := rfl
  simp [F_w12_awake, D41, newS_8, h1, h2, h3, h4, h5, h6, h7, h8, h8', h9, h10, s8_lens.1, s8_lens.2.1, eq_true s8_lens.2.2.1, s8_lens.2.2.2, s8_flens.1, eq_true s8_flens.2, k1, k2, k3]
  exact ⟨fun _ => ⟨fun _ => rfl, rfl⟩, rfl⟩
end Go.Av

namespace Go.Av
open Enc (enc dec)
open Cel (cs dc)
open Go.RowKit Go.ChangeShapes Go.WideShapes Go.Deep

/-- The old memory. -/
def oldI (w : World) (b _o : Nat) : Prop := b < w.heap.size
def oldM (w : World) : Mp := ⟨[], [], oldI w, fun _ => none⟩
/-- Cells of a type are those of a plain value that has a property. -/
def Opn (P : Program) (t : TypeId) {α : Type} (c : α → List V) (Wf : α → Prop) : Prop :=
  (∀ a, (c a).length = P.cellsOf t) ∧ ∀ {H : Type} (en : TypeId × Value → H) (w : World) (base : Nat) (spare : Nat → Bool) (held : Bool) (fuel : Nat) (cs : List Value) (x : DataW H × List MemPlace),
    DataW.trod en P w base spare held fuel t cs = some x → ∃ a : α, Wf a ∧ RepL (oldM w) w (c a) cs ∧ ∀ v ∈ cs, v.oneCell' = true
theorem block_lt {w : World} {a : Addr} {v : Value} (h : w.cell? a = some v) : a.block < w.heap.size ∧ a.spot = none := by
  unfold World.cell? at h
  split at h
  · rename_i c e f hh
    refine ⟨(Array.getElem?_eq_some_iff.1 hh).1, ?_⟩
    cases hs : a.spot with
    | none => rfl
    | some s => simp [hs] at h
  · cases h
theorem Opn.int {P : Program} {t : TypeId} (ht : P.underlying t = some (.int .i64)) (hc : P.cellsOf t = 1) : Opn P t (fun n : Int => [enc n]) fun n => (Lit.int .i64 n).wf = true := by
  refine ⟨fun _ => hc.symm, fun en w base spare held fuel cs x h => ?_⟩
  obtain ⟨n, rfl, _, hw⟩ := DataW.trod_int ht h
  exact ⟨n, hw, ⟨_, _, rfl, ⟨rfl, rfl⟩, rfl⟩, by simp [Value.oneCell']⟩
theorem Opn.u8 {P : Program} {t : TypeId} (ht : P.underlying t = some (.int .u8)) (hc : P.cellsOf t = 1) : Opn P t (fun b : UInt8 => Cel.cs b) fun _ => True := by
  refine ⟨fun _ => hc.symm, fun en w base spare held fuel cs x h => ?_⟩
  obtain ⟨n, rfl, _, hw⟩ := DataW.trod_int ht h
  have hw := bounds_u8 hw
  have e : ((UInt8.ofNat n.toNat).toNat : Int) = n := by
    rw [UInt8.toNat_ofNat']
    omega
  refine ⟨UInt8.ofNat n.toNat, trivial, ⟨_, _, rfl, ⟨?_, rfl⟩, rfl⟩, by simp [Value.oneCell']⟩
  rw [e]
theorem cellsRep {w : World} {base n : Nat} {a : Addr} {cs : List Value} {l : List V} (h : w.cells? base a n = some cs) (hr : RepL (oldM w) w l cs) (ho : ∀ v ∈ cs, v.oneCell' = true) : RepC (oldM w) w l a.block a.off ∧ (l = [] ∨ a.spot = none) := by
  obtain ⟨_, hlen, hget⟩ := World.cells?_some h
  have hll := hr.length
  refine ⟨RepC.of_get fun i v hi => ?_, ?_⟩
  · obtain ⟨x, hx, hrep⟩ := hr.get hi
    have hin : i < n := by
      have := (List.getElem?_eq_some_iff.1 hx).1
      omega
    have hc := hget i hin
    rw [hx] at hc
    have hb := block_lt hc
    have e : a.add i = ⟨a.block, a.off + i, none⟩ := by
      unfold Addr.add at hb ⊢
      split
      · rename_i h0
        rw [if_pos h0] at hb
        subst h0
        cases a
        simp at hb ⊢
        exact hb.2
      · rfl
    rw [e] at hc hb
    exact ⟨x, hb.1, hc, ho x (List.mem_of_getElem? hx), hrep⟩
  · cases l with
    | nil => exact .inl rfl
    | cons v l =>
      right
      obtain ⟨x, hx, _⟩ := hr.get (i := 0) (v := v) rfl
      have hin : 0 < n := by
        have := (List.getElem?_eq_some_iff.1 hx).1
        omega
      have hc := hget 0 hin
      rw [hx] at hc
      exact (block_lt (a := a) (by simpa [Addr.add] using hc)).2
theorem Opn.slice {P : Program} {t e : TypeId} {α : Type} [Cel α] {Wf : α → Prop} (ht : P.underlying t = some (.slice e)) (hc : P.cellsOf t = 1) (hz : 0 < Cel.sz α) (he : Opn P e (Cel.cs (α := α)) Wf) : Opn P t (fun l : List α => [enc l]) fun l => l.length ≤ maxLen ∧ ∀ a ∈ l, Wf a := by
  refine ⟨fun _ => hc.symm, fun en w base spare held fuel cs x h => ?_⟩
  rcases open_slice ht h with ⟨rfl, rfl⟩ | ⟨a, len, cap, m, n, D, Pl, rfl, hb, hl, hm, hmm, rfl, hx⟩
  · exact ⟨[], ⟨Nat.zero_le _, by simp⟩, ⟨_, _, rfl, .inl ⟨rfl, rfl⟩, rfl⟩, by simp [Value.oneCell']⟩
  · have hlm : len ≤ m := by rw [hmm]; split <;> omega
    have key : ∀ j, j ≤ len → ∃ l : List α, l.length = j ∧ (∀ b ∈ l, Wf b) ∧ RepX (oldM w) w (l.map Cel.cs) a.block (a.off + (len - j) * Cel.sz α) ∧ (l = [] ∨ len - j ≠ 0 ∨ a.spot = none) := by
      intro j
      induction j with
      | zero => intro _; exact ⟨[], rfl, by simp, trivial, .inl rfl⟩
      | succ j ih =>
        intro hj
        obtain ⟨l, h1, h2, h3, _⟩ := ih (by omega)
        obtain ⟨cs', h4, h5⟩ := hx (len - (j + 1)) (by omega)
        obtain ⟨b, h6, h7, h8⟩ := he.2 en w base spare held n cs' _ h5
        obtain ⟨h9, h10⟩ := cellsRep h4 h7 h8
        have eo : (a.add ((len - (j + 1)) * P.cellsOf e)).block = a.block ∧ (a.add ((len - (j + 1)) * P.cellsOf e)).off = a.off + (len - (j + 1)) * Cel.sz α := by
          rw [← he.1 b, Cel.len]
          unfold Addr.add
          split
          · rename_i h0; exact ⟨rfl, by rw [h0]; rfl⟩
          · exact ⟨rfl, rfl⟩
        rw [eo.1, eo.2] at h9
        refine ⟨b :: l, by simp [h1], ?_, ⟨h9, ?_⟩, ?_⟩
        · intro c hc
          rcases List.mem_cons.1 hc with rfl | hc
          · exact h6
          · exact h2 c hc
        · have e2 : a.off + (len - (j + 1)) * Cel.sz α + (Cel.cs b).length = a.off + (len - j) * Cel.sz α := by
            rw [Cel.len]
            have : len - j = (len - (j + 1)) + 1 := by omega
            rw [this, Nat.add_mul]
            omega
          rw [e2]
          exact h3
        · by_cases h0 : len - (j + 1) = 0
          · right; right
            rw [h0, Nat.zero_mul] at h10
            rcases h10 with h10 | h10
            · have := congrArg List.length h10
              rw [Cel.len] at this
              simp at this
              omega
            · simpa [Addr.add] using h10
          · exact .inr (.inl h0)
    obtain ⟨l, h1, h2, h3, h4⟩ := key len (Nat.le_refl _)
    refine ⟨l, ⟨by omega, h2⟩, ⟨_, _, rfl, .inr ⟨a, cap, by simp [h1], by simp; omega, ?_, ?_, ?_⟩, rfl⟩, by simp [Value.oneCell']⟩
    · rcases h4 with h4 | h4 | h4
      · left; simp [h4]
      · omega
      · exact .inr h4
    · intro c hc
      obtain ⟨b, _, rfl⟩ := List.mem_map.1 hc
      exact Cel.len b
    · simpa using h3
/-- A struct's fields, of a cell each. -/
theorem open_flat {P : Program} {t : TypeId} {fs : Array Field} {H : Type} {en : TypeId × Value → H} {w : World} {base : Nat} {spare : Nat → Bool} {held : Bool} {fuel : Nat} {cs : List Value} {x : DataW H × List MemPlace}
    (ht : P.underlying t = some (.struct fs)) (hof : ∀ (i : Nat) (f : Field), fs[i]? = some f → f.offset = i ∧ P.cellsOf f.type = 1) (hc : P.cellsOf t = fs.size) (h : DataW.trod en P w base spare held fuel t cs = some x) :
    cs.length = fs.size ∧ ∃ n, ∀ (i : Nat) (f : Field), fs[i]? = some f → ∃ v y, cs[i]? = some v ∧ DataW.trod en P w base spare held n f.type [v] = some y := by
  obtain ⟨xs, n, _, _, hl, hlen, hf⟩ := DataW.trod_struct ht h
  refine ⟨by rw [hl, hc], n, fun i f hi => ?_⟩
  have h1 := hf i f hi
  obtain ⟨h2, h3⟩ := hof i f hi
  have hi2 := (Array.getElem?_eq_some_iff.1 hi).1
  rw [h2, h3, List.getElem?_eq_getElem (by omega)] at h1
  have h4 : i < cs.length := by omega
  refine ⟨cs[i], xs[i], List.getElem?_eq_getElem h4, ?_⟩
  rw [← h1, List.drop_eq_getElem_cons h4]
  rfl
/-- A value of more cells than one. -/
theorem Opn.agg {P : Program} {t : TypeId} {α : Type} {c : α → List V} {Wf : α → Prop} (h : Opn P t c Wf) {H : Type} {en : TypeId × Value → H} {w : World} {base : Nat} {spare : Nat → Bool} {held : Bool} {v : Value} {d : DataW H} {ps : List MemPlace} {xs : Array Value} (hv : v = .agg xs) (hd : DataW.Trod en P w base spare held t v d ps) :
    ∃ a : α, Wf a ∧ Rep (oldM w) w (.agg (c a)) v := by
  obtain ⟨fuel, hd⟩ := hd
  subst hv
  obtain ⟨a, h1, h2, _⟩ := h.2 en w base spare held fuel _ _ hd
  exact ⟨a, h1, xs, rfl, h2⟩
/-- A value of one cell. -/
theorem Opn.one {P : Program} {t : TypeId} {α : Type} {e : α → V} {Wf : α → Prop} (h : Opn P t (fun a => [e a]) Wf) {H : Type} {en : TypeId × Value → H} {w : World} {base : Nat} {spare : Nat → Bool} {held : Bool} {v : Value} {d : DataW H} {ps : List MemPlace} (hv : v.oneCell' = true) (hd : DataW.Trod en P w base spare held t v d ps) :
    ∃ a : α, Wf a ∧ Rep (oldM w) w (e a) v := by
  obtain ⟨fuel, hd⟩ := hd
  have hc : v.cells.toList = [v] := by cases v <;> first | rfl | simp [Value.oneCell'] at hv
  rw [hc] at hd
  obtain ⟨a, h1, ⟨x, r, h2, h3, h4⟩, _⟩ := h.2 en w base spare held fuel _ _ hd
  cases h2
  exact ⟨a, h1, h3⟩
/-- Behind the call: the answer is plain, what was there reads as it did. -/
theorem post_of_below {H : Type} {en : TypeId × Value → H} {P : Program} {f : Func} {s : ChangeSpec} {apart fresh handsOn again : Bool} {W W' : World} {args : Array Value} {v : Value} {ds gs : List (DataW H)} {before pa pv : List MemPlace}
    (hW : DataW.Whole en P f.params.toList s.vars apart W args.toList ds gs before) (hb : Below W.heap.size W W')
    (hres : ∀ (b : Nat) (sp : Nat → Bool) (hd : Bool), DataW.TrodAll en P W' b sp hd f.resultTypes.toList (v.resultList f.resultTypes.size) (s.fn H (ds ++ gs)).results [])
    (hargs : ∀ sp : Nat → Bool, (∀ p ∈ before, sp p.block = true) → DataW.TrodAll en P W' 0 sp true f.params.toList args.toList (s.fn H (ds ++ gs)).args pa)
    (hvars : ∀ sp : Nat → Bool, (∀ p ∈ before, sp p.block = true) → DataW.TrodVars en P W' sp s.vars (s.fn H (ds ++ gs)).vars pv)
    (hps : before = pa ++ pv)
    (hok : ∀ (j : Nat) (t : TypeId) (r : Value), f.resultTypes[j]? = some t → (v.resultList f.resultTypes.size)[j]? = some r → Value.okWide P W' .any 0 t r) :
    s.post en P f apart fresh handsOn again W args v W' := by
  have hold : ∀ p ∈ before, (fun b => decide (b < W.heap.size)) p.block = true := fun p hp => by simpa using hW.lt p hp
  refine ⟨ds, gs, before, [], pa, pv, hW, hres _ _ _, hargs _ hold, hvars _ hold, World.keptBut_mono (fun p hp => ⟨hp, ?_⟩) (hb.frame (· ∈ before)), fun _ => ?_⟩
  · rw [hps, List.mem_append] at hp
    exact Or.inr hp
  · have hlt := hW.lt
    obtain ⟨_, _, _, _, _, hz, hn⟩ := hW
    refine ⟨hok, _, _, ([] ++ pa) ++ pv, ⟨[] ++ pa, pv, trodAll_append (hargs _ (fun _ _ => rfl)) (hres _ _ _), hvars _ (fun _ _ => rfl), rfl, ?_, ?_⟩, ?_⟩
    · intro b off hp
      have hp' : MemPlace.cell b off ∈ before := by rw [hps]; simpa using hp
      rw [hb.frozen (p := ⟨b, off, none⟩) (hlt _ hp')]
      exact hz b off hp'
    · intro ha
      have := hn ha
      rw [hps] at this
      simpa using this
    · intro p hp _
      rw [hps]
      simpa using hp
/-- What was handed in reads as it did. -/
theorem TrodAll_stays {H : Type} {en : TypeId × Value → H} {P : Program} {W W' : World} (hl : laidOutB P = true) {sp : Nat → Bool} (hb : Below W.heap.size W W') : ∀ {ts : List TypeId} {vs : List Value} {ds : List (DataW H)} {ps : List MemPlace},
    (∀ t ∈ ts, P.readableRec t = true ∧ t < P.types.size) → DataW.TrodAll en P W 0 (fun _ => true) true ts vs ds ps → (∀ x ∈ ps, x.block < W.heap.size) → (∀ x ∈ ps, sp x.block = true) → DataW.TrodAll en P W' 0 sp true ts vs ds ps
  | [], _, _, _, _, h, _, _ => by
    obtain ⟨rfl, rfl, rfl⟩ := trodAll_nil h
    exact trodAll_mk0
  | t :: ts, _, _, _, ht, h, hlt, hsp => by
    obtain ⟨v, vs1, d, ds1, a, b, rfl, rfl, rfl, h1, h2⟩ := trodAll_cons h
    obtain ⟨k1, k2⟩ := ht t (List.mem_cons_self ..)
    exact ⟨a, b, WideElems.Trod_stays hl k1 k2 h1 (fun x hx => hb.same (hlt x (List.mem_append_left _ hx))) (fun x hx => hsp x (List.mem_append_left _ hx)),
      TrodAll_stays hl hb (fun t ht' => ht t (List.mem_cons_of_mem _ ht')) h2 (fun x hx => hlt x (List.mem_append_right _ hx)) (fun x hx => hsp x (List.mem_append_right _ hx)), rfl⟩
end Go.Av

namespace Go.Av
open Enc (enc dec)
open Cel (cs dc)
open Go.Proofs Pl Go.ChangeShapes Go.WideShapes Go.RowKit

theorem Opn.weak {P : Program} {t : TypeId} {α : Type} {c : α → List V} {W W' : α → Prop} (h : Opn P t c W) (hw : ∀ a, W a → W' a) : Opn P t c W' :=
  ⟨h.1, fun en w base spare held fuel cs x hd => by
    obtain ⟨a, h1, h2⟩ := h.2 en w base spare held fuel cs x hd
    exact ⟨a, hw a h1, h2⟩⟩
theorem opn_int : Opn Try.prog 3 (fun n : Int => [enc n]) (fun n => (Lit.int .i64 n).wf = true) := Opn.int Try.underlying3 (by kernel_rfl)
theorem opn_u8 : Opn Try.prog 5 (fun b : UInt8 => cs b) (fun _ => True) := Opn.u8 Try.underlying5 (by kernel_rfl)
theorem opn_bytes : Opn Try.prog 34 (fun l : List UInt8 => [enc l]) (fun l => l.length ≤ maxLen ∧ ∀ b ∈ l, True) := Opn.slice Try.underlying34 (by kernel_rfl) (by decide) opn_u8
theorem opn_xt : Opn Try.prog 174 (fun x : Xt => cs x) (fun _ => True) := by
  refine ⟨fun _ => Eq.symm (by kernel_rfl), fun en w base spare held fuel c x h => ?_⟩
  obtain ⟨hl, n, hf⟩ := open_flat Try.underlying174 (by rintro (_ | _ | _ | _ | _ | i) f hi <;> simp at hi <;> subst hi <;> exact ⟨rfl, by kernel_rfl⟩) (by kernel_rfl) h
  obtain ⟨v0, y0, g0, t0⟩ := hf 0 _ rfl
  obtain ⟨v1, y1, g1, t1⟩ := hf 1 _ rfl
  obtain ⟨v2, y2, g2, t2⟩ := hf 2 _ rfl
  obtain ⟨v3, y3, g3, t3⟩ := hf 3 _ rfl
  obtain ⟨v4, y4, g4, t4⟩ := hf 4 _ rfl
  obtain rfl : c = [v0, v1, v2, v3, v4] := by
    match c, hl with
    | [a0, a1, a2, a3, a4], _ => simp at g0 g1 g2 g3 g4; simp [g0, g1, g2, g3, g4]
  obtain ⟨a0, _, r0, o0⟩ := opn_int.2 en w base spare held n _ _ t0
  obtain ⟨a1, _, r1, o1⟩ := opn_int.2 en w base spare held n _ _ t1
  obtain ⟨a2, _, r2, o2⟩ := opn_int.2 en w base spare held n _ _ t2
  obtain ⟨a3, _, r3, o3⟩ := opn_int.2 en w base spare held n _ _ t3
  obtain ⟨a4, _, r4, o4⟩ := opn_bytes.2 en w base spare held n _ _ t4
  refine ⟨⟨a0, a1, a2, a3, a4⟩, trivial, r0.append (r1.append (r2.append (r3.append r4))), ?_⟩
  intro v hv
  simp only [List.mem_cons, List.not_mem_nil, or_false] at hv
  rcases hv with rfl | rfl | rfl | rfl | rfl
  · exact o0 _ (by simp)
  · exact o1 _ (by simp)
  · exact o2 _ (by simp)
  · exact o3 _ (by simp)
  · exact o4 _ (by simp)
theorem opn_xts : Opn Try.prog 40 (fun l : List Xt => [enc l]) (fun l => l.length ≤ maxLen ∧ ∀ b ∈ l, True) := Opn.slice Try.underlying40 (by kernel_rfl) (by decide) opn_xt
theorem opn_pt : Opn Try.prog 110 (fun x : Pt => cs x) (fun p => p.map.length ≤ maxLen) := by
  refine ⟨fun _ => Eq.symm (by kernel_rfl), fun en w base spare held fuel c x h => ?_⟩
  obtain ⟨hl, n, hf⟩ := open_flat Try.underlying110 (by rintro (_ | _ | _ | i) f hi <;> simp at hi <;> subst hi <;> exact ⟨rfl, by kernel_rfl⟩) (by kernel_rfl) h
  obtain ⟨v0, y0, g0, t0⟩ := hf 0 _ rfl
  obtain ⟨v1, y1, g1, t1⟩ := hf 1 _ rfl
  obtain ⟨v2, y2, g2, t2⟩ := hf 2 _ rfl
  obtain rfl : c = [v0, v1, v2] := by
    match c, hl with
    | [a0, a1, a2], _ => simp at g0 g1 g2; simp [g0, g1, g2]
  obtain ⟨a0, _, r0, o0⟩ := opn_int.2 en w base spare held n _ _ t0
  obtain ⟨a1, _, r1, o1⟩ := opn_int.2 en w base spare held n _ _ t1
  obtain ⟨a2, m2, r2, o2⟩ := opn_xts.2 en w base spare held n _ _ t2
  refine ⟨⟨a0, a1, a2⟩, m2.1, r0.append (r1.append r2), ?_⟩
  intro v hv
  simp only [List.mem_cons, List.not_mem_nil, or_false] at hv
  rcases hv with rfl | rfl | rfl
  · exact o0 _ (by simp)
  · exact o1 _ (by simp)
  · exact o2 _ (by simp)
theorem opn_pts : Opn Try.prog 41 (fun l : List Pt => [enc l]) (fun l => l.length ≤ maxLen ∧ ∀ p ∈ l, p.map.length ≤ maxLen) := Opn.slice Try.underlying41 (by kernel_rfl) (by decide) opn_pt
theorem opn_sta : Opn Try.prog 43 (fun x : Sta => cs x) staBig := by
  refine ⟨fun _ => Eq.symm (by kernel_rfl), fun en w base spare held fuel c x h => ?_⟩
  obtain ⟨hl, n, hf⟩ := open_flat Try.underlying43 (by rintro (_ | _ | _ | _ | _ | _ | i) f hi <;> simp at hi <;> subst hi <;> exact ⟨rfl, by kernel_rfl⟩) (by kernel_rfl) h
  obtain ⟨v0, y0, g0, t0⟩ := hf 0 _ rfl
  obtain ⟨v1, y1, g1, t1⟩ := hf 1 _ rfl
  obtain ⟨v2, y2, g2, t2⟩ := hf 2 _ rfl
  obtain ⟨v3, y3, g3, t3⟩ := hf 3 _ rfl
  obtain ⟨v4, y4, g4, t4⟩ := hf 4 _ rfl
  obtain ⟨v5, y5, g5, t5⟩ := hf 5 _ rfl
  obtain rfl : c = [v0, v1, v2, v3, v4, v5] := by
    match c, hl with
    | [a0, a1, a2, a3, a4, a5], _ => simp at g0 g1 g2 g3 g4 g5; simp [g0, g1, g2, g3, g4, g5]
  obtain ⟨a0, _, r0, o0⟩ := opn_int.2 en w base spare held n _ _ t0
  obtain ⟨a1, _, r1, o1⟩ := opn_int.2 en w base spare held n _ _ t1
  obtain ⟨a2, m2, r2, o2⟩ := opn_xts.2 en w base spare held n _ _ t2
  obtain ⟨a3, m3, r3, o3⟩ := opn_pts.2 en w base spare held n _ _ t3
  obtain ⟨a4, _, r4, o4⟩ := opn_int.2 en w base spare held n _ _ t4
  obtain ⟨a5, m5, r5, o5⟩ := opn_bytes.2 en w base spare held n _ _ t5
  refine ⟨⟨a0, a1, a2, a3, a4, a5⟩, ⟨m2.1, m3.1, m3.2, m5.1⟩, r0.append (r1.append (r2.append (r3.append (r4.append r5)))), ?_⟩
  intro v hv
  simp only [List.mem_cons, List.not_mem_nil, or_false] at hv
  rcases hv with rfl | rfl | rfl | rfl | rfl | rfl
  · exact o0 _ (by simp)
  · exact o1 _ (by simp)
  · exact o2 _ (by simp)
  · exact o3 _ (by simp)
  · exact o4 _ (by simp)
  · exact o5 _ (by simp)
theorem opn_stas : Opn Try.prog 63 (fun l : List Sta => [enc l]) (fun l => l.length ≤ maxLen ∧ ∀ q ∈ l, staBig q) := Opn.slice Try.underlying63 (by kernel_rfl) (by decide) opn_sta
/-- A function of a plain answer, run. -/
theorem Pure.run {P : Program} {f : FuncId} {args : List V} {r : Value} {w : World} {vals : Array Value} (h : Pure P f args (.val r) []) (hr : RepL (oldM w) w args vals.toList) :
    Calls P f vals w fun e w' => e = .returned r ∧ Below w.heap.size w w' := by
  refine (h.2.2 (oldI w) w vals (fun b o hb => hb) hr).mono fun e w' ⟨x, M', he, hg, hx⟩ => ?_
  obtain ⟨rfl, _⟩ := hx
  exact ⟨he, hg.below⟩
end Go.Av

namespace Go.Av
open Enc (enc dec)
open Cel (cs dc)
open Go.Proofs Pl

theorem few11_len {q : Sta} (h : few11 q = true) : staLen q := by
  simp only [few11, few7, Bool.and_eq_true, decide_eq_true_eq, List.all_eq_true] at h
  obtain ⟨⟨⟨h1, h2⟩, h3, _⟩, h4⟩ := h
  exact ⟨by omega, by omega, fun p hp => by have := (h4 p hp).1; omega, by omega⟩
theorem mapOk_length {n : Int} {l : List Xt} (h : mapOk n l = true) : l.length ≤ 64 := by
  have hn := mapOk_le h
  simp only [mapOk, Bool.and_eq_true, decide_eq_true_eq] at h
  have := (mapFrom_len h.2).1
  omega
theorem staOk_len {q : Sta} (h : staOk q = true) : staLen q := by
  obtain ⟨f1, f2, f3, f4, f5, f6, f7, f8⟩ := staOk_fine h
  have := mapOk_length f1
  exact ⟨by omega, by omega, fun p hp => by have := mapOk_length (f8 p hp).1; omega, by omega⟩
theorem staLen' {q : Sta} (h : staLen q) : q.map.length ≤ 1073741824 ∧ q.pts.length ≤ 1073741824 ∧ (∀ p : Pt, p ∈ q.pts → p.map.length ≤ 1073741824) ∧ q.staged.length ≤ 1073741824 := h
@[simp] def sp_awake : Option (V × List Tip) := some (.val (.bool true), [])
theorem sp_awake_ok : EOk Try.prog n_w12_awake (sp0 sp_awake) := sp0_ok fun r h => by cases h; exact c_awake
@[simp] def sp_few11 (q : Sta) : Option (V × List Tip) := if q.map.length ≤ 9223372036854775807 ∧ q.pts.length ≤ 9223372036854775807 ∧ (∀ p ∈ q.pts, p.map.length ≤ 9223372036854775807) ∧ q.staged.length ≤ 9223372036854775807 then some (enc (few11 q), []) else none
theorem sp_few11_ok : EOk Try.prog n_w11_Few (sp1 sp_few11) := sp1_ok fun q r h => by
  simp only [sp_few11] at h
  split at h <;> cases h
  exact c_few11 q (by assumption)
def D42 : Orc := (((D41.add n_w12_awake (sp0 sp_awake)).add n_w11_Few (sp1 sp_few11)).add n_state_Check (sp1 sp_stCheck))
theorem D42_ok : OOk Try.prog D42 := ((D41_ok.add sp_awake_ok).add sp_few11_ok).add sp_stCheck_ok
theorem snapB_pos {q : Sta} (h : staOk q = true) : 0 < (snapB q).length := by
  rw [snapB, if_pos h]; simp [sealS, leB_length]
theorem rd_cases (b : List UInt8) : (readS b = none ∧ rdQ b = Sta.zero ∧ rdE b = 120) ∨ (staOk (rdQ b) = true ∧ snapB (rdQ b) = b ∧ rdE b = 0) := by
  cases h : readS b with
  | none => exact .inl ⟨rfl, by simp [rdQ, h], by simp [rdE, h]⟩
  | some q =>
    obtain ⟨h1, h2⟩ := readS_some.1 h
    have e : rdQ b = q := by simp [rdQ, h]
    exact .inr ⟨by rw [e]; exact h1, by rw [e]; exact h2, by simp [rdE, h]⟩
theorem staE_ok {q : Sta} (h : staOk q = true) : staE q = 0 := by simp [staE, h]
theorem staE_no {q : Sta} (h : staOk q = false) : staE q = 110 := by simp [staE, h]
theorem staOk_zero : staOk Sta.zero = false := by decide
set_option maxRecDepth 4000 in
theorem c_SnapBack (q : Sta) (b : List UInt8) (c : Int) (hq : staBig q) (hb : b.length ≤ 9223372036854775807) (hc : 0 ≤ c ∧ c < 65536) : Pure Try.prog n_w12_SnapBack [enc q, enc b, .val (.int .u16 c)] (.val (.bool true)) [] := by
  refine Pure.ofC D42_ok hm F_w12_SnapBack_ok (by simp [F_w12_SnapBack]) rfl ?_
  have hq' : q.map.length ≤ 9223372036854775807 ∧ q.pts.length ≤ 9223372036854775807 ∧ (∀ p : Pt, p ∈ q.pts → p.map.length ≤ 9223372036854775807) ∧ q.staged.length ≤ 9223372036854775807 := hq
  have w1 := IntWalk.i64_in (b.length : Int) (by omega)
  cases hf : few11 q with
  | false => simp [F_w12_SnapBack, D42, D41, hf, hq'.1, hq'.2.1, eq_true hq'.2.2.1, hq'.2.2.2]
  | true =>
    by_cases hbl : b.length ≤ 20000
    · have hbl' : ¬ (20000 : Int) < b.length := by omega
      have hl := staLen' (few11_len hf)
      have hsb := snapB_length q
      have hsb2 : (snapB q).length ≤ 1099511627776 := by omega
      have hbb : b.length ≤ 1099511627776 := by omega
      have w2 := IntWalk.i64_in ((snapB q).length : Int) (by omega)
      have w3 := IntWalk.i64_in c (by omega)
      have z0 : Sta.zero.map.length ≤ 1073741824 ∧ Sta.zero.pts.length ≤ 1073741824 ∧ (∀ p : Pt, p ∈ Sta.zero.pts → p.map.length ≤ 1073741824) ∧ Sta.zero.staged.length ≤ 1073741824 := ⟨by decide, by decide, by decide, by decide⟩
      have z1 : Sta.zero.blocks = 0 := rfl
      cases hok : staOk q with
      | false =>
        have he := staE_no hok
        have hs0 : snapB q = [] := by simp [snapB, hok]
        rcases rd_cases b with ⟨r1, r2, r3⟩ | ⟨r1, r2, r3⟩
        · simp [F_w12_SnapBack, D42, D41, hf, hq'.1, hq'.2.1, eq_true hq'.2.2.1, hq'.2.2.2, w1, hbl', hl.1, hl.2.1, eq_true hl.2.2.1, hl.2.2.2, he, hs0, hbb, r2, r3, z0.1, z0.2.1, eq_true z0.2.2.1, z0.2.2.2, z1]
        · have y := staLen' (staOk_len r1)
          have y2 := staE_ok r1
          simp [F_w12_SnapBack, D42, D41, hf, hq'.1, hq'.2.1, eq_true hq'.2.2.1, hq'.2.2.2, w1, hbl', hl.1, hl.2.1, eq_true hl.2.2.1, hl.2.2.2, he, hs0, hbb, r2, r3, y.1, y.2.1, eq_true y.2.2.1, y.2.2.2, y2]
      | true =>
        have he := staE_ok hok
        have hpos := snapB_pos hok
        have hp0 : ¬ snapB q = [] := by intro e; rw [e] at hpos; cases hpos
        obtain ⟨hb1, hb2⟩ := readS_back hok
        have t1 := Int.tmod_nonneg ((snapB q).length : Int) hc.1
        have t2 := Int.tmod_lt_of_pos c (b := ((snapB q).length : Int)) (by omega)
        have hk : (c.tmod ((snapB q).length : Int)).toNat < (snapB q).length := by omega
        have hrt := readS_take hok hk
        have t3 : rdE ((snapB q).take (c.tmod ((snapB q).length : Int)).toNat) = 120 := by simp [rdE, hrt]
        have t4 : c.tmod ((snapB q).length : Int) ≤ (snapB q).length := by omega
        have t5 : min (c.tmod ((snapB q).length : Int)).toNat (snapB q).length ≤ 1099511627776 := by omega
        rcases rd_cases b with ⟨r1, r2, r3⟩ | ⟨r1, r2, r3⟩
        · simp [F_w12_SnapBack, D42, D41, hf, hq'.1, hq'.2.1, eq_true hq'.2.2.1, hq'.2.2.2, w1, w2, w3, hbl', hl.1, hl.2.1, eq_true hl.2.2.1, hl.2.2.2, he, hb1, hb2, hsb2, hp0, t1, t3, t4, t5, hbb, r2, r3, z0.1, z0.2.1, eq_true z0.2.2.1, z0.2.2.2, z1]
          show c.tmod ((snapB q).length : Int) ≤ _
          omega
        · have y := staLen' (staOk_len r1)
          have y2 := staE_ok r1
          simp [F_w12_SnapBack, D42, D41, hf, hq'.1, hq'.2.1, eq_true hq'.2.2.1, hq'.2.2.2, w1, w2, w3, hbl', hl.1, hl.2.1, eq_true hl.2.2.1, hl.2.2.2, he, hb1, hb2, hsb2, hp0, t1, t3, t4, t5, hbb, r2, r3, y.1, y.2.1, eq_true y.2.2.1, y.2.2.2, y2]
          show c.tmod ((snapB q).length : Int) ≤ _
          omega
    · have hbl' : (20000 : Int) < b.length := by omega
      simp [F_w12_SnapBack, D42, D41, hf, hq'.1, hq'.2.1, eq_true hq'.2.2.1, hq'.2.2.2, w1, hbl']
end Go.Av

namespace Go.Av
open Enc (enc dec)
open Cel (cs dc)
open Go.Proofs Pl

theorem chunksF_flat {n : Nat} (hn : 0 < n) : ∀ (k : Nat) (l : List UInt8), l.length ≤ k → (chunksF n k l).flatten = l
  | 0, l, h => by
    have : l = [] := List.length_eq_zero_iff.1 (by omega)
    subst this
    rfl
  | k + 1, l, h => by
    rw [chunksF]
    split
    · rename_i e; rw [e]; rfl
    · rename_i e
      have := List.length_pos_iff.2 e
      rw [List.flatten_cons, chunksF_flat hn k (l.drop n) (by simp; omega), List.take_append_drop]
theorem chunksF_ne {n : Nat} (hn : 0 < n) : ∀ (k : Nat) (l : List UInt8), ∀ c ∈ chunksF n k l, 0 < c.length ∧ c.length ≤ n
  | 0, l, c, h => by simp [chunksF] at h
  | k + 1, l, c, h => by
    rw [chunksF] at h
    split at h
    · cases h
    · rename_i e
      have := List.length_pos_iff.2 e
      rcases List.mem_cons.1 h with rfl | h
      · simp; omega
      · exact chunksF_ne hn k _ c h
theorem chunksF_full {n : Nat} (hn : 0 < n) : ∀ (k : Nat) (l : List UInt8) (i : Nat) (c : List UInt8), i + 1 < (chunksF n k l).length → (chunksF n k l)[i]? = some c → c.length = n
  | 0, l, i, c, h, _ => by simp [chunksF] at h
  | k + 1, l, i, c, h, hc => by
    rw [chunksF] at h hc
    split at h
    · simp at h
    · rename_i e
      rw [if_neg e] at hc
      cases i with
      | zero =>
        simp at hc h
        subst hc
        by_cases hd : l.drop n = []
        · rw [hd] at h
          cases k <;> simp [chunksF] at h
        · have : n < l.length := by
            rcases Nat.lt_or_ge n l.length with h1 | h1
            · exact h1
            · exact absurd (List.drop_eq_nil_of_le h1) hd
          simp; omega
      | succ i => exact chunksF_full hn k (l.drop n) i c (by simpa using h) (by simpa using hc)
theorem parts_flat (q : Sta) : (snapParts q).flatten = snapB q := chunksF_flat (by decide) _ _ (Nat.le_refl _)
theorem parts_ne {q : Sta} : ∀ c ∈ snapParts q, 0 < c.length ∧ c.length ≤ 4096 := chunksF_ne (by decide) _ _
theorem parts_full {q : Sta} {i : Nat} {c : List UInt8} (h : i + 1 < (snapParts q).length) (hc : (snapParts q)[i]? = some c) : c.length = 4096 := chunksF_full (by decide) _ _ i c h hc
theorem partsR_get : ∀ (l : List (List UInt8)) (seq : Int) (i : Nat) (c : List UInt8), l[i]? = some c → (partsR seq l)[i]? = some ⟨2, seq + i, c⟩
  | [], _, _, _, h => by simp at h
  | d :: l, seq, 0, c, h => by simp at h; subst h; simp [partsR]
  | d :: l, seq, i + 1, c, h => by
    have := partsR_get l (seq + 1) i c (by simpa using h)
    have e : seq + 1 + (i : Int) = seq + ((i + 1 : Nat) : Int) := by omega
    rw [partsR, List.getElem?_cons_succ, this, e]
theorem put_two {k : Nat} (h : k < 65536) : bytesPut [] k 2 = [UInt8.ofNat k, UInt8.ofNat (k / 256)] ∧ errPut k 2 = 0 := by
  have hm : mayB k 2 = true := by simp [mayB]; omega
  have e : leB k 2 = [UInt8.ofNat k, UInt8.ofNat (k / 256)] := by simp [leB, List.range_succ]
  simp [bytesPut, errPut, hm, e]
/-- A snapshot's records, one by one. -/
theorem recs_facts {q : Sta} (h : staOk q = true) {seq : Int} (hs : seqOk seq = true) : recsE q seq = 0 ∧ (recsL q seq).length = (snapParts q).length + 1 ∧ 0 < (snapParts q).length ∧ (snapParts q).length ≤ 20000 ∧
    (∀ (i : Nat) (c : List UInt8), (snapParts q)[i]? = some c → (recsL q seq)[i]? = some ⟨2, seq + i, c⟩) ∧
    (recsL q seq)[(snapParts q).length]? = some ⟨3, seq + (snapParts q).length, [UInt8.ofNat (snapParts q).length, UInt8.ofNat ((snapParts q).length / 256)]⟩ := by
  have hsl := snapB_length q
  have hpl : (snapParts q).length ≤ 20000 := Nat.le_trans (chunksF_length _ _ _) hsl
  have hpos : 0 < (snapParts q).length := by
    have h1 := snapB_pos h
    rw [← parts_flat q] at h1
    cases hp : snapParts q with
    | nil => rw [hp] at h1; cases h1
    | cons a l => simp
  obtain ⟨e1, e2⟩ := put_two (k := (snapParts q).length) (by omega)
  have hl : recsL q seq = partsR seq (snapParts q) ++ [⟨3, seq + (snapParts q).length, [UInt8.ofNat (snapParts q).length, UInt8.ofNat ((snapParts q).length / 256)]⟩] := by rw [recsL, if_pos ⟨h, hs⟩, e1]
  refine ⟨by rw [recsE, if_pos h, if_pos hs, e2], by rw [hl]; simp [partsR_length], hpos, hpl, fun i c hc => ?_, ?_⟩
  · rw [hl, List.getElem?_append_left (by rw [partsR_length]; exact (List.getElem?_eq_some_iff.1 hc).1)]
    exact partsR_get _ _ _ _ hc
  · rw [hl, List.getElem?_append_right (by rw [partsR_length]; exact Nat.le_refl _), partsR_length]
    simp
def SizesI (q : Sta) (R : List Rec) (P : List (List UInt8)) (seq : Int) (k : Nat) (s : Nat → V) (m : Mem) : Prop :=
  ∃ (i t u : Nat) (a : List Tip), i + k = P.length + 1 ∧ s 1 = .val (.int .i64 seq) ∧ s 8 = .row u 3 (R.map cs) ∧ s 10 = .val (.int .i64 ((P.length : Int) + 1)) ∧ s 12 = .val (.int .i64 i) ∧ s 11 = .row t 1 ((P.take i).flatten.map cs) ∧
    s 5 = .val (.bool true) ∧ (∃ v, s 6 = .row v 1 ((snapB q).map cs)) ∧ m = ⟨[cs q], a⟩ ∧ a[t]? = some (5, 1, (P.take i).flatten.length)
set_option maxRecDepth 4000 in
theorem c_SnapSizes (q : Sta) (seq : Int) (hq : staBig q) : Pure Try.prog n_w12_SnapSizes [enc q, enc seq] (.val (.bool true)) [] := by
  refine Pure.ofC D42_ok hm F_w12_SnapSizes_ok (by simp [F_w12_SnapSizes]) rfl ?_
  have hq' : q.map.length ≤ 9223372036854775807 ∧ q.pts.length ≤ 9223372036854775807 ∧ (∀ p : Pt, p ∈ q.pts → p.map.length ≤ 9223372036854775807) ∧ q.staged.length ≤ 9223372036854775807 := hq
  cases hf : few11 q with
  | false => simp [F_w12_SnapSizes, D42, D41, hf, hq'.1, hq'.2.1, eq_true hq'.2.2.1, hq'.2.2.2]
  | true =>
    have hl := staLen' (few11_len hf)
    cases hok : staOk q with
    | false =>
      have he := staE_no hok
      simp [F_w12_SnapSizes, D42, D41, hf, hq'.1, hq'.2.1, eq_true hq'.2.2.1, hq'.2.2.2, hl.1, hl.2.1, eq_true hl.2.2.1, hl.2.2.2, he]
    | true =>
      have he := staE_ok hok
      by_cases h1 : seq < 0
      · simp [F_w12_SnapSizes, D42, D41, hf, hq'.1, hq'.2.1, eq_true hq'.2.2.1, hq'.2.2.2, hl.1, hl.2.1, eq_true hl.2.2.1, hl.2.2.2, he, h1]
      by_cases h2 : 1099511627776 < seq
      · simp [F_w12_SnapSizes, D42, D41, hf, hq'.1, hq'.2.1, eq_true hq'.2.2.1, hq'.2.2.2, hl.1, hl.2.1, eq_true hl.2.2.1, hl.2.2.2, he, h1, h2]
      have hs : seqOk seq = true := by simp [seqOk]; omega
      obtain ⟨r1, r2, r3, r4, r5, r6⟩ := recs_facts hok hs
      obtain ⟨R, hR⟩ : ∃ R, R = recsL q seq := ⟨_, rfl⟩
      rw [← hR] at r2 r5 r6
      have w1 := IntWalk.i64_in (((snapParts q).length : Int) + 1) (by omega)
      have w2 := IntWalk.i64_in ((snapParts q).length : Int) (by omega)
      have e1 : (UInt8.ofNat (snapParts q).length).toNat = (snapParts q).length % 256 := UInt8.toNat_ofNat'
      have e2 : (UInt8.ofNat ((snapParts q).length / 256)).toNat = (snapParts q).length / 256 := by rw [UInt8.toNat_ofNat']; omega
      obtain ⟨r7, r8⟩ := List.getElem?_eq_some_iff.1 r6
      have h3 : ¬ ((snapParts q).length : Int) + 1 < 2 := by omega
      have h3' : (2 : Int) ≤ ((snapParts q).length : Int) + 1 := by omega
      have w3 := IntWalk.i64_in (((snapParts q).length % 256 : Nat) : Int) (by omega)
      have w4 := IntWalk.i64_in (((snapParts q).length / 256 : Nat) : Int) (by omega)
      have w5 := IntWalk.i64_in (256 * (((snapParts q).length / 256 : Nat) : Int)) (by omega)
      have e3 : (((snapParts q).length % 256 : Nat) : Int) + 256 * (((snapParts q).length / 256 : Nat) : Int) = (snapParts q).length := by omega
      simp [F_w12_SnapSizes, D42, D41, hf, hq'.1, hq'.2.1, eq_true hq'.2.2.1, hq'.2.2.2, hl.1, hl.2.1, eq_true hl.2.2.1, hl.2.2.2, he, h1, h2, h3, h3', r1, ← hR, r2, r8, w1, w2, e1, e2, w3, w4, w5, e3, -Int.natCast_ediv, -Int.natCast_emod]
      obtain ⟨P, hP⟩ : ∃ P, P = snapParts q := ⟨_, rfl⟩
      have hflat := parts_flat q
      have hne := @parts_ne q
      have hfull := @parts_full q
      rw [← hP] at r3 r4 r5 r6 r2 w1 w2 hflat hne hfull
      simp only [← hP] at r7 r8
      refine wp_loop (SizesI q R P seq) (P.length + 1) (IW.of ⟨0, 2, 1, _, by omega, by simp, by simp, by simp [hP], by simp, by simp, by simp, ⟨0, by simp⟩, rfl, by simp⟩) fun k s m ⟨i, t, u, a, hik, s1, s8, s10, s12, s11, s5, ⟨v, s6⟩, hm, ht⟩ => ?_
      subst hm
      by_cases hi : i < P.length
      · have hPi : P[i]? = some P[i] := List.getElem?_eq_getElem hi
        have hRi := r5 i _ hPi
        obtain ⟨q1, q2⟩ := List.getElem?_eq_some_iff.1 hRi
        obtain ⟨n1, n2⟩ := hne _ (List.getElem_mem hi)
        have hn1 : ¬ P[i].length = 0 := by omega
        have x1 := IntWalk.i64_in (i : Int) (by omega)
        have x2 := IntWalk.i64_in (seq + (i : Int)) (by omega)
        have x3 := IntWalk.i64_in ((i : Int) + 1) (by omega)
        have x4 := IntWalk.i64_in ((P.length : Int) + 1 - 2) (by omega)
        have x5 := IntWalk.i64_in (P[i].length : Int) (by omega)
        have hlt : (i : Int) < (P.length : Int) + 1 := by omega
        have hsn : (P.take (i + 1)).flatten = (P.take i).flatten ++ P[i] := by rw [List.take_add_one, hPi, Option.toList_some, List.flatten_append]; simp
        have hfl : (P.take i).flatten.length + P[i].length ≤ 140737488355328 := by
          have h1 : (P.take (i + 1)).flatten.length ≤ P.flatten.length := by
            conv => rhs; rw [← List.take_append_drop (i + 1) P, List.flatten_append, List.length_append]
            omega
          rw [hsn, List.length_append, hflat] at h1
          have := snapB_length q
          omega
        obtain ⟨A, hA⟩ : ∃ A, A = (P.take i).flatten := ⟨_, rfl⟩
        rw [← hA] at s11 ht hsn hfl
        have htl := (List.getElem?_eq_some_iff.1 ht).1
        by_cases h4 : (i : Int) < (P.length : Int) + 1 - 2
        · have h5 := hfull (i := i) (by omega) hPi
          simp [F_w12_SnapSizes_L0, s1, s8, s10, s12, s11, s5, s6, x1, x2, x3, x4, hlt, hi, hRi, w1, w2, h4, h5, ht]
          exact ⟨by omega, k - 1, by omega, IW.of ⟨i + 1, t, u, _, by omega, by simp [s1], by simp [s8], by simp [s10], by simp, by rw [hsn]; simp, by simp [s5], ⟨v, by simp [s6]⟩, rfl, by rw [hsn]; simp [htl, h5]⟩⟩
        · simp [F_w12_SnapSizes_L0, s1, s8, s10, s12, s11, s5, s6, x1, x2, x3, x4, x5, hlt, hi, hRi, w1, w2, h4, hn1, ht]
          exact ⟨by omega, k - 1, by omega, IW.of ⟨i + 1, t, u, _, by omega, by simp [s1], by simp [s8], by simp [s10], by simp, by rw [hsn]; simp, by simp [s5], ⟨v, by simp [s6]⟩, rfl, by rw [hsn]; simp [htl]⟩⟩
      · by_cases hi2 : i = P.length
        · have hle : P.take i = P := List.take_of_length_le (by omega)
          rw [hle, hflat] at s11 ht
          have hRi : R[i]? = some ⟨3, seq + P.length, [UInt8.ofNat P.length, UInt8.ofNat (P.length / 256)]⟩ := by rw [hi2, hP]; exact hP ▸ r6
          have x2 := IntWalk.i64_in (seq + (P.length : Int)) (by omega)
          have x3 := IntWalk.i64_in ((P.length : Int) + 1) (by omega)
          have hie : (i : Int) = P.length := by omega
          rw [hie] at s12
          rw [hi2] at hRi
          simp [F_w12_SnapSizes_L0, s1, s8, s10, s12, s11, s5, s6, x2, x3, hRi, w1, w2]
          exact fun _ => ⟨k - 1, by omega, IW.of ⟨i + 1, t, u, _, by omega, by simp [s1], by simp [s8], by simp [s10], by simp [hi2], by rw [List.take_of_length_le (by omega), hflat]; simp [s11], by simp [s5], ⟨v, by simp [s6]⟩, rfl, by rw [List.take_of_length_le (by omega), hflat]; exact ht⟩⟩
        · have hie : (i : Int) = (P.length : Int) + 1 := by omega
          have hle : P.take i = P := List.take_of_length_le (by omega)
          rw [hle, hflat] at s11 ht
          rw [hie] at s12
          simp [F_w12_SnapSizes_L0, s1, s8, s10, s12, s11, s5, s6]
end Go.Av

namespace Go.Av
open Enc (enc dec)
open Cel (cs dc)
open Go.RowKit

theorem Pure.thaw {P : Program} {f : FuncId} {args args' : List V} {sz ty : Nat} {xs : List (List V)} {l : List V} (hW : WkL args args') (hcl : cleanL args' = true)
    (h : Pure P f args' (.tuple (.row 0 sz xs :: l)) [(ty, sz, xs.length)]) (hl : ∀ v ∈ l, ∃ u, v = .val u) (hx : ∀ v ∈ xs.flatten, ∃ u, v = V.val u) (hne : xs ≠ []) (m : Mem) :
    Loc P f args m (.tuple (.ref (.sli 0 sz xs.length) m.boxes.length :: l)) { m with boxes := m.boxes ++ [xs.flatten] } := by
  obtain ⟨hc, hres, h3⟩ := h
  refine ⟨hc, fun B I0 w0 M w vals hg hr => ?_⟩
  have hr' : RepL ⟨[], [], M.I, fun _ => none⟩ w args' vals.toList := RepL.clean (M := M) (M' := ⟨[], [], M.I, fun _ => none⟩) (fun _ _ h => h) _ _ hcl (hW _ _ _ hr)
  refine (h3 M.I w vals hg.ilt hr').mono fun e w' ⟨x, M1, he, h1, hx1⟩ => ?_
  obtain ⟨vs, rfl, hv⟩ := hx1
  obtain ⟨y, r, hvs, hy, hrl⟩ := hv
  obtain ⟨G, hG, hy⟩ := hy
  rcases hy with ⟨h0, _⟩ | ⟨g, c, hyv, hnc, hsz, hX, hin⟩
  · exact absurd h0 hne
  have hn0 : 0 < xs.length := List.length_pos_iff.2 hne
  have hgen := h1.gen 0 G _ hG hin
  simp only at hgen
  have hblk : ∃ cur, w'.heap[g]? = some (.cells cur ty (0, 0)) ∧ cur.size = c * sz := by
    rcases h1.row 0 G ty sz xs.length hG rfl with ⟨h0, _⟩ | ⟨g1, c1, us, a1, a2, a3, a4⟩
    · omega
    · obtain ⟨_, a5⟩ := a2 _ hin
      have := a5 rfl
      cases this
      rcases a3.2 with ⟨_, b1⟩ | ⟨g2, c2, cur, b1, b2, b3, b4, b5, b6, b7⟩
      · omega
      · cases b1
        exact ⟨cur, b3, b6⟩
  obtain ⟨cur, hh, hcs⟩ := hblk
  have hfl : xs.flatten.length = xs.length * sz := flatten_length hsz
  have hle : xs.flatten.length ≤ cur.size := by rw [hfl, hcs]; exact Nat.mul_le_mul_right _ hnc
  have hb := h1.below
  have hgw := hg.grow hb
  have hnβ : g ∉ M.β := fun hm => by have := (hg.βlt hm).1; omega
  have hcell : ∀ i v, xs.flatten[i]? = some v → ∃ x u, cur[i]? = some x ∧ x.oneCell' = true ∧ v = V.val u ∧ x = u ∧ plain u = true := fun i v hi => by
    obtain ⟨x, _, k2, k3, k4⟩ := hX.flat.get hi
    obtain ⟨u, rfl⟩ := hx v (List.mem_of_getElem? hi)
    simp only [World.cell?, Nat.zero_add, hh] at k2
    exact ⟨x, u, by simpa using k2, k3, rfl, k4.1, k4.2⟩
  have htk : (cur.toList.take xs.flatten.length).length = xs.flatten.length := by rw [List.length_take]; exact Nat.min_eq_left (by simpa using hle)
  have hbr : BoxRep M M.β.length w' xs.flatten (.cells cur ty (0, 0)) := by
    refine .inl ⟨hg.κnone, cur, ty, rfl, hle, RepL.of_get htk (fun i v z hv hz => ?_), fun z hz => ?_⟩
    · obtain ⟨x, u, k1, k2, rfl, rfl, k5⟩ := hcell i v hv
      rw [List.getElem?_take, if_pos (lt_of_some hv)] at hz
      have hz' : cur[i]? = some z := by simpa using hz
      rw [k1] at hz'
      cases hz'
      exact ⟨rfl, k5⟩
    · obtain ⟨i, hi⟩ := List.getElem?_of_mem hz
      have hil := lt_of_some hi
      rw [htk] at hil
      obtain ⟨x, u, k1, k2, _⟩ := hcell i _ (List.getElem?_eq_getElem hil)
      rw [List.getElem?_take, if_pos hil] at hi
      have hz' : cur[i]? = some z := by simpa using hi
      rw [k1] at hz'
      cases hz'
      exact k2
  have hE := hg.ext hb
  refine ⟨_, M.addB g, he, hE.trans (Mp.addB_ext M g w'), hgw.addBox hh (Nat.le_trans hg.sizeB hgen.1) hnβ (fun o hI => by have := hg.ilt g o hI; omega) (fun t G x hG hx he => by have := (hg.gen t G x hG hx).2.1; omega) hbr, ⟨vs, rfl, ?_⟩⟩
  rw [hvs]
  refine ⟨y, r, rfl, ⟨g, c, hyv, hnc, ?_⟩, ?_⟩
  · simp [Mp.addB, hg.lβ]
  · refine RepL.of_get hrl.length fun i v z hv hz => ?_
    obtain ⟨u, rfl⟩ := hl v (List.mem_of_getElem? hv)
    obtain ⟨z', hz', k⟩ := hrl.get hv
    rw [hz] at hz'
    cases hz'
    exact k
end Go.Av

namespace Go.Av
open Go.Proofs

@[simp] abbrev n_r08_Cells : FuncId := 173
def F_r08_Cells_L0 : C := (.seq (.seq (.ops [⟨(some 51), none, (.mov (.t 10))⟩, ⟨(some 52), none, (.bin .lss (.t 51) (.c (.int .i64 32)))⟩]) (.cond (.t 52) .skip (.exit 4))) (.seq (.block 5 (.ops [⟨(some 55), none, (.mov (.t 10))⟩, ⟨(some 56), none, (.mov (.t 7))⟩, ⟨(some 57), none, (.mov (.t 8))⟩, ⟨(some 58), none, (.bin .mul (.c (.int .i64 32)) (.t 57))⟩, ⟨(some 59), none, (.mov (.t 10))⟩, ⟨(some 60), none, (.bin .add (.t 58) (.t 59))⟩, ⟨(some 61), none, (.ixs (.t 56) (.t 60) 1)⟩, ⟨(some 62), none, (.lde (.t 61) none)⟩, ⟨(some 63), none, (.fad (.t 9) 2)⟩, ⟨(some 64), none, (.ixa (.t 63) (.t 55) 32 1)⟩, ⟨none, none, (.st (.t 64) 1 (.t 62))⟩])) (.ops [⟨(some 53), none, (.mov (.t 10))⟩, ⟨(some 54), none, (.bin .add (.t 53) (.c (.int .i64 1)))⟩, ⟨(some 10), none, (.mov (.t 54))⟩])))
def F_r08_Cells_L1 : C := (.seq (.seq (.ops [⟨(some 24), none, (.mov (.t 8))⟩, ⟨(some 25), none, (.mov (.t 7))⟩, ⟨(some 26), none, (.len (.t 25))⟩, ⟨(some 27), none, (.bin .quo (.t 26) (.c (.int .i64 32)))⟩, ⟨(some 28), none, (.bin .lss (.t 24) (.t 27))⟩]) (.cond (.t 28) .skip (.exit 2))) (.seq (.block 3 (.seq (.seq (.ops [⟨(some 31), none, (.mov (.t 1))⟩, ⟨(some 32), none, (.mov (.t 6))⟩, ⟨(some 33), none, (.ixs (.t 31) (.t 32) 5)⟩, ⟨(some 34), none, (.fad (.t 33) 0)⟩, ⟨(some 35), none, (.lde (.t 34) none)⟩, ⟨(some 36), none, (.mov (.t 8))⟩, ⟨(some 37), none, (.bin .add (.t 35) (.t 36))⟩, ⟨(some 38), none, (.mov (.t 0))⟩, ⟨(some 39), none, (.bin .geq (.t 37) (.t 38))⟩]) (.cond (.t 39) (.exit 2) .skip)) (.seq (.dops false [] [⟨(some 40), none, (.mov (.t 1))⟩, ⟨(some 41), none, (.mov (.t 6))⟩, ⟨(some 42), none, (.ixs (.t 40) (.t 41) 5)⟩, ⟨(some 43), none, (.fad (.t 42) 2)⟩, ⟨(some 44), none, (.lde (.t 43) none)⟩, ⟨(some 45), none, (.mov (.t 1))⟩, ⟨(some 46), none, (.mov (.t 6))⟩, ⟨(some 47), none, (.ixs (.t 45) (.t 46) 5)⟩, ⟨(some 48), none, (.fad (.t 47) 3)⟩, ⟨(some 49), none, (.lde (.t 48) none)⟩, ⟨(some 50), none, (.bld [(.val (.int .i64 0)), (.val (.int .i64 0)), (.val (.int .u8 0)), (.val (.int .u8 0)), (.val (.int .u8 0)), (.val (.int .u8 0)), (.val (.int .u8 0)), (.val (.int .u8 0)), (.val (.int .u8 0)), (.val (.int .u8 0)), (.val (.int .u8 0)), (.val (.int .u8 0)), (.val (.int .u8 0)), (.val (.int .u8 0)), (.val (.int .u8 0)), (.val (.int .u8 0)), (.val (.int .u8 0)), (.val (.int .u8 0)), (.val (.int .u8 0)), (.val (.int .u8 0)), (.val (.int .u8 0)), (.val (.int .u8 0)), (.val (.int .u8 0)), (.val (.int .u8 0)), (.val (.int .u8 0)), (.val (.int .u8 0)), (.val (.int .u8 0)), (.val (.int .u8 0)), (.val (.int .u8 0)), (.val (.int .u8 0)), (.val (.int .u8 0)), (.val (.int .u8 0)), (.val (.int .u8 0)), (.val (.int .u8 0))] [(0, (1, (.t 44))), (1, (1, (.t 49)))])⟩, ⟨(some 9), none, (.alc [(.val (.int .i64 0)), (.val (.int .i64 0)), (.val (.int .u8 0)), (.val (.int .u8 0)), (.val (.int .u8 0)), (.val (.int .u8 0)), (.val (.int .u8 0)), (.val (.int .u8 0)), (.val (.int .u8 0)), (.val (.int .u8 0)), (.val (.int .u8 0)), (.val (.int .u8 0)), (.val (.int .u8 0)), (.val (.int .u8 0)), (.val (.int .u8 0)), (.val (.int .u8 0)), (.val (.int .u8 0)), (.val (.int .u8 0)), (.val (.int .u8 0)), (.val (.int .u8 0)), (.val (.int .u8 0)), (.val (.int .u8 0)), (.val (.int .u8 0)), (.val (.int .u8 0)), (.val (.int .u8 0)), (.val (.int .u8 0)), (.val (.int .u8 0)), (.val (.int .u8 0)), (.val (.int .u8 0)), (.val (.int .u8 0)), (.val (.int .u8 0)), (.val (.int .u8 0)), (.val (.int .u8 0)), (.val (.int .u8 0))])⟩, ⟨none, none, (.st (.t 9) 34 (.t 50))⟩]) (.seq (.seq (.ops [⟨(some 10), none, (.mov (.c (.int .i64 0)))⟩]) (.block 4 (.loop F_r08_Cells_L0))) (.dops false [] [⟨(some 65), none, (.mov (.t 5))⟩, ⟨(some 66), none, (.mov (.t 1))⟩, ⟨(some 67), none, (.mov (.t 6))⟩, ⟨(some 68), none, (.ixs (.t 66) (.t 67) 5)⟩, ⟨(some 69), none, (.fad (.t 68) 0)⟩, ⟨(some 70), none, (.lde (.t 69) none)⟩, ⟨(some 71), none, (.mov (.t 8))⟩, ⟨(some 72), none, (.bin .add (.t 70) (.t 71))⟩, ⟨(some 73), none, (.ld (.t 9) (some 34))⟩, ⟨(some 74), none, (.mem (.ixr 34) [(.t 65), (.t 72)])⟩, ⟨none, none, (.st (.t 74) 34 (.t 73))⟩]))))) (.ops [⟨(some 29), none, (.mov (.t 8))⟩, ⟨(some 30), none, (.bin .add (.t 29) (.c (.int .i64 1)))⟩, ⟨(some 8), none, (.mov (.t 30))⟩])))
def F_r08_Cells_L2 : C := (.seq (.seq (.ops [⟨(some 13), none, (.mov (.t 6))⟩, ⟨(some 14), none, (.mov (.t 1))⟩, ⟨(some 15), none, (.len (.t 14))⟩, ⟨(some 16), none, (.bin .lss (.t 13) (.t 15))⟩]) (.cond (.t 16) .skip (.exit 0))) (.seq (.block 1 (.seq (.ops [⟨(some 19), none, (.mov (.t 1))⟩, ⟨(some 20), none, (.mov (.t 6))⟩, ⟨(some 21), none, (.ixs (.t 19) (.t 20) 5)⟩, ⟨(some 22), none, (.lde (.t 21) (some 5))⟩, ⟨(some 23), none, (.call 201 [(.t 22)])⟩, ⟨(some 7), none, (.mov (.t 23))⟩]) (.seq (.ops [⟨(some 8), none, (.mov (.c (.int .i64 0)))⟩]) (.block 2 (.loop F_r08_Cells_L1))))) (.ops [⟨(some 17), none, (.mov (.t 6))⟩, ⟨(some 18), none, (.bin .add (.t 17) (.c (.int .i64 1)))⟩, ⟨(some 6), none, (.mov (.t 18))⟩])))
def F_r08_Cells : F := ⟨(.seq (.ops [⟨(some 4), none, (.nil 226 34 true)⟩]) (.seq (.ops [⟨(some 11), none, (.mov (.t 0))⟩, ⟨(some 12), none, (.mem (.mkb 226 34 48 [(.val (.int .i64 0)), (.val (.int .i64 0)), (.val (.int .u8 0)), (.val (.int .u8 0)), (.val (.int .u8 0)), (.val (.int .u8 0)), (.val (.int .u8 0)), (.val (.int .u8 0)), (.val (.int .u8 0)), (.val (.int .u8 0)), (.val (.int .u8 0)), (.val (.int .u8 0)), (.val (.int .u8 0)), (.val (.int .u8 0)), (.val (.int .u8 0)), (.val (.int .u8 0)), (.val (.int .u8 0)), (.val (.int .u8 0)), (.val (.int .u8 0)), (.val (.int .u8 0)), (.val (.int .u8 0)), (.val (.int .u8 0)), (.val (.int .u8 0)), (.val (.int .u8 0)), (.val (.int .u8 0)), (.val (.int .u8 0)), (.val (.int .u8 0)), (.val (.int .u8 0)), (.val (.int .u8 0)), (.val (.int .u8 0)), (.val (.int .u8 0)), (.val (.int .u8 0)), (.val (.int .u8 0)), (.val (.int .u8 0))]) [(.t 11), (.t 11)])⟩, ⟨(some 5), none, (.mov (.t 12))⟩]) (.seq (.seq (.ops [⟨(some 6), none, (.mov (.c (.int .i64 0)))⟩]) (.block 0 (.loop F_r08_Cells_L2))) (.seq (.ops [⟨(some 75), none, (.mem .frz [(.t 5)])⟩, ⟨(some 4), none, (.mov (.t 75))⟩]) .ret)))), 76, [(.tmp 4)]⟩
theorem F_r08_Cells_ok : compF Try.prog (fun d => !([2097164, 2097226, 2097227].contains d)) 173 = some F_r08_Cells := by kernel_rfl
@[simp] abbrev n_w12_SnapTurns : FuncId := 8
def F_w12_SnapTurns : F := ⟨(.seq (.ops [⟨(some 3), none, (.box (.t 0))⟩, ⟨(some 6), none, (.mov (.c (.bool false)))⟩]) (.seq (.ops [⟨(some 13), none, (.call 22 [])⟩, ⟨(some 7), none, (.mov (.t 13))⟩]) (.seq (.seq (.ops [⟨(some 14), none, (.ld (.t 3) (some 6))⟩, ⟨(some 15), none, (.call 23 [(.t 14)])⟩, ⟨(some 16), none, (.un .not (.t 15))⟩]) (.cond (.t 16) (.seq (.ops [⟨(some 17), none, (.mov (.t 7))⟩, ⟨(some 6), none, (.mov (.t 17))⟩]) .ret) .skip)) (.seq (.ops [⟨(some 19), none, (.ld (.t 3) (some 6))⟩, ⟨(some 20), none, (.call 24 [(.t 19)])⟩, ⟨(some 18), none, (.mov (.t 20))⟩, ⟨(some 21), none, (.ext (.t 18) 0)⟩, ⟨(some 22), none, (.ext (.t 18) 1)⟩, ⟨(some 8), none, (.mov (.t 21))⟩, ⟨(some 9), none, (.mov (.t 22))⟩]) (.seq (.seq (.ops [⟨(some 23), none, (.mov (.t 9))⟩, ⟨(some 24), none, (.bin .neq (.t 23) (.c (.int .i64 0)))⟩]) (.cond (.t 24) (.seq (.ops [⟨(some 25), none, (.mov (.t 7))⟩, ⟨(some 6), none, (.mov (.t 25))⟩]) .ret) .skip)) (.seq (.seq (.ops [⟨(some 26), none, (.mov (.t 8))⟩, ⟨(some 27), none, (.mem .lnr [(.t 26)])⟩, ⟨(some 28), none, (.bin .eql (.t 27) (.c (.int .i64 0)))⟩]) (.cond (.t 28) (.seq (.ops [⟨(some 6), none, (.mov (.c (.bool false)))⟩]) .ret) .skip)) (.seq (.ops [⟨(some 29), none, (.mov (.t 1))⟩, ⟨(some 30), none, (.conv .i64 (.t 29))⟩, ⟨(some 31), none, (.mov (.t 8))⟩, ⟨(some 32), none, (.mem .lnr [(.t 31)])⟩, ⟨(some 33), none, (.bin .rem (.t 30) (.t 32))⟩, ⟨(some 10), none, (.mov (.t 33))⟩]) (.seq (.ops [⟨(some 34), none, (.mov (.t 8))⟩, ⟨(some 35), none, (.mov (.t 10))⟩, ⟨(some 36), none, (.mov (.t 8))⟩, ⟨(some 37), none, (.mov (.t 10))⟩, ⟨(some 38), none, (.mem (.ixr 1) [(.t 36), (.t 37)])⟩, ⟨(some 39), none, (.ld (.t 38) none)⟩, ⟨(some 40), none, (.mov (.t 2))⟩, ⟨(some 41), none, (.bin .xor (.t 39) (.t 40))⟩, ⟨(some 42), none, (.mem (.ixr 1) [(.t 34), (.t 35)])⟩, ⟨none, none, (.st (.t 42) 1 (.t 41))⟩]) (.seq (.ops [⟨(some 44), none, (.mem .frz [(.t 8)])⟩, ⟨(some 45), none, (.call 28 [(.t 44)])⟩, ⟨(some 43), none, (.mov (.t 45))⟩, ⟨(some 46), none, (.ext (.t 43) 0)⟩, ⟨(some 47), none, (.ext (.t 43) 1)⟩, ⟨(some 11), none, (.alc [(.val (.int .i64 0)), (.val (.int .i64 0)), (.lit 5 []), (.lit 3 []), (.val (.int .i64 0)), (.lit 1 [])])⟩, ⟨none, none, (.st (.t 11) 6 (.t 46))⟩, ⟨(some 12), none, (.mov (.t 47))⟩]) (.seq (.ops [⟨(some 48), none, (.mov (.t 7))⟩, ⟨(some 49), none, (.mov (.t 48))⟩, ⟨(some 50), (some (49, true)), (.mov (.t 12))⟩, ⟨(some 51), (some (49, true)), (.bin .eql (.t 50) (.c (.int .i64 0)))⟩, ⟨(some 52), (some (49, true)), (.mov (.t 2))⟩, ⟨(some 53), (some (49, true)), (.bin .eql (.t 52) (.c (.int .u8 0)))⟩, ⟨(some 54), (some (49, true)), (.beq false (.t 51) (.t 53))⟩, ⟨(some 55), none, (.pick (.t 49) (.t 54) (.c (.bool false)))⟩, ⟨(some 56), none, (.mov (.t 55))⟩, ⟨(some 57), (some (56, true)), (.mov (.t 2))⟩, ⟨(some 58), (some (56, true)), (.bin .eql (.t 57) (.c (.int .u8 0)))⟩, ⟨(some 59), (some (56, true)), (.mov (.t 58))⟩, ⟨(some 60), (some (59, false)), (.mov (.t 12))⟩, ⟨(some 61), (some (59, false)), (.bin .eql (.t 60) (.c (.int .i64 120)))⟩, ⟨(some 62), (some (56, true)), (.pick (.t 59) (.c (.bool true)) (.t 61))⟩, ⟨(some 63), none, (.pick (.t 56) (.t 62) (.c (.bool false)))⟩, ⟨(some 6), none, (.mov (.t 63))⟩]) .ret)))))))))), 64, [(.tmp 6)]⟩
theorem F_w12_SnapTurns_ok : compF Try.prog (fun d => !([2097179, 2097184, 2097190, 2097191, 2097194, 2097196].contains d)) 8 = some F_w12_SnapTurns := by kernel_rfl
end Go.Av

namespace Go.Av
open Enc (enc dec)
open Cel (cs dc)
open Go.Proofs Pl

theorem stepN_lt' {n : Nat} (h : n < 2 ^ 32) : stepN n < 2 ^ 32 := by
  unfold stepN
  split
  · exact Nat.xor_lt_two_pow (by omega) (by decide)
  · omega
theorem xor_self_cancel (a b : Nat) : a ^^^ (a ^^^ b) = b := by rw [← Nat.xor_assoc, Nat.xor_self, Nat.zero_xor]
theorem stepN_inj {a b : Nat} (ha : a < 2 ^ 32) (hb : b < 2 ^ 32) (h : stepN a = stepN b) : a = b := by
  have key : ∀ x y : Nat, x < 2 ^ 31 → y < 2 ^ 31 → x ^^^ poly ≠ y := by
    intro x y hx hy e
    have e2 := xor_self_cancel x poly
    rw [e] at e2
    have := Nat.xor_lt_two_pow hx hy
    rw [e2] at this
    exact absurd this (by decide)
  unfold stepN at h
  split at h <;> split at h
  · have e2 : poly ^^^ (a / 2 ^^^ poly) = poly ^^^ (b / 2 ^^^ poly) := by rw [h]
    rw [Nat.xor_comm (a / 2), Nat.xor_comm (b / 2), xor_self_cancel, xor_self_cancel] at e2
    omega
  · exact absurd h (key _ _ (by omega) (by omega))
  · exact absurd h.symm (key _ _ (by omega) (by omega))
  · omega
theorem step4_lt' {n : Nat} (h : n < 2 ^ 32) : step4 n < 2 ^ 32 := stepN_lt' (stepN_lt' (stepN_lt' (stepN_lt' h)))
theorem step4_inj {a b : Nat} (ha : a < 2 ^ 32) (hb : b < 2 ^ 32) (h : step4 a = step4 b) : a = b :=
  stepN_inj ha hb (stepN_inj (stepN_lt' ha) (stepN_lt' hb) (stepN_inj (stepN_lt' (stepN_lt' ha)) (stepN_lt' (stepN_lt' hb)) (stepN_inj (stepN_lt' (stepN_lt' (stepN_lt' ha))) (stepN_lt' (stepN_lt' (stepN_lt' hb))) h)))
theorem u8_lt (b : UInt8) : b.toNat < 2 ^ 32 := Nat.lt_of_lt_of_le b.toNat_lt (by decide)
theorem crcB_lt' {n : Nat} (h : n < 2 ^ 32) (b : UInt8) : crcB n b < 2 ^ 32 := step4_lt' (step4_lt' (Nat.xor_lt_two_pow h (u8_lt b)))
theorem crcB_inj {n m : Nat} (hn : n < 2 ^ 32) (hm : m < 2 ^ 32) {b : UInt8} (h : crcB n b = crcB m b) : n = m := by
  have h1 := step4_inj (step4_lt' (Nat.xor_lt_two_pow hn (u8_lt b))) (step4_lt' (Nat.xor_lt_two_pow hm (u8_lt b))) h
  have h2 := step4_inj (Nat.xor_lt_two_pow hn (u8_lt b)) (Nat.xor_lt_two_pow hm (u8_lt b)) h1
  have e : b.toNat ^^^ (n ^^^ b.toNat) = b.toNat ^^^ (m ^^^ b.toNat) := by rw [h2]
  rwa [Nat.xor_comm n, Nat.xor_comm m, xor_self_cancel, xor_self_cancel] at e
theorem crcB_inj2 {n : Nat} (hn : n < 2 ^ 32) {b c : UInt8} (h : crcB n b = crcB n c) : b = c := by
  have h1 := step4_inj (step4_lt' (Nat.xor_lt_two_pow hn (u8_lt b))) (step4_lt' (Nat.xor_lt_two_pow hn (u8_lt c))) h
  have h2 := step4_inj (Nat.xor_lt_two_pow hn (u8_lt b)) (Nat.xor_lt_two_pow hn (u8_lt c)) h1
  have e : n ^^^ (n ^^^ b.toNat) = n ^^^ (n ^^^ c.toNat) := by rw [h2]
  rw [xor_self_cancel, xor_self_cancel] at e
  exact UInt8.toNat_inj.1 e
theorem crcF_lt' : ∀ (l : List UInt8) {n : Nat}, n < 2 ^ 32 → crcF n l < 2 ^ 32
  | [], _, h => h
  | b :: l, _, h => crcF_lt' l (crcB_lt' h b)
theorem crcF_inj : ∀ (l : List UInt8) {n m : Nat}, n < 2 ^ 32 → m < 2 ^ 32 → crcF n l = crcF m l → n = m
  | [], _, _, _, _, h => h
  | b :: l, _, _, hn, hm, h => crcB_inj hn hm (crcF_inj l (crcB_lt' hn b) (crcB_lt' hm b) h)
theorem crcF_set : ∀ (l : List UInt8) {n k : Nat} {b : UInt8}, n < 2 ^ 32 → (h : k < l.length) → crcF n (l.set k b) = crcF n l → l[k] = b
  | c :: l, n, 0, b, hn, _, h => (crcB_inj2 hn (crcF_inj l (crcB_lt' hn b) (crcB_lt' hn c) h)).symm
  | c :: l, n, k + 1, b, hn, hk, h => crcF_set l (crcB_lt' hn c) (by simpa using hk) h
theorem crcN_lt' (l : List UInt8) : crcN 0 l < 2 ^ 32 := Nat.xor_lt_two_pow (crcF_lt' l (by decide)) (by decide)
theorem crcN_set {l : List UInt8} {k : Nat} {b : UInt8} (hk : k < l.length) (h : crcN 0 (l.set k b) = crcN 0 l) : l[k] = b := by
  refine crcF_set l (n := 0 ^^^ 4294967295) (by decide) hk ?_
  unfold crcN at h
  have e : 4294967295 ^^^ (crcF (0 ^^^ 4294967295) (l.set k b) ^^^ 4294967295) = 4294967295 ^^^ (crcF (0 ^^^ 4294967295) l ^^^ 4294967295) := by rw [h]
  rwa [Nat.xor_comm (crcF _ _), Nat.xor_comm (crcF _ l), xor_self_cancel, xor_self_cancel] at e
/-- Sealed bytes of which one is another one are not sealed. -/
theorem openOk_set {T : List UInt8} {k : Nat} {b : UInt8} (hk : k < (sealS T).length) (hb : (sealS T)[k] ≠ b) : openOk ((sealS T).set k b) = false := by
  have hs : (sealS T).length = T.length + 4 := by simp [sealS, leB_length]
  rw [openOk]
  simp only [Bool.and_eq_false_iff, decide_eq_false_iff_not, beq_eq_false_iff_ne, ne_eq]
  right
  rw [List.length_set, hs, Nat.add_sub_cancel]
  intro e
  by_cases hc : k < T.length
  · have ht : ((sealS T).set k b) = T.set k b ++ leB (crcN 0 T) 4 := by rw [sealS, List.set_append_left _ _ hc]
    rw [ht, List.take_left' (by simp), sealS, List.append_cancel_left_eq] at e
    have e2 := congrArg leN e
    rw [leN_leB_lt (crcN_lt' _), leN_leB_lt (crcN_lt' _)] at e2
    refine hb ?_
    have := crcN_set hc e2
    simpa [sealS, List.getElem_append_left hc] using this
  · have ht : ((sealS T).set k b) = T ++ (leB (crcN 0 T) 4).set (k - T.length) b := by rw [sealS, List.set_append_right _ _ (by omega)]
    have ht2 : ((sealS T).set k b).take T.length = T := by rw [ht, List.take_left' rfl]
    rw [ht2] at e
    refine hb ?_
    have e3 : (sealS T)[k] = ((sealS T).set k b)[k]'(by rw [List.length_set]; exact hk) := by congr 1
    rw [e3, List.getElem_set_self]
theorem readS_shut {b : List UInt8} (h : openOk b = false) : readS b = none := by
  cases hr : readS b with
  | none => rfl
  | some q =>
    obtain ⟨h1, h2⟩ := readS_some.1 hr
    exfalso
    simp only [readS] at hr
    split at hr
    · cases hr
    · rename_i hn
      simp only [not_or, Bool.not_eq_true, ne_eq, Decidable.not_not] at hn
      obtain ⟨w0, _⟩ := rdS_bwd (Prod.ext (rfl : (rdS (decide (openE b ≠ 0)) (openT b)).1 = _) (Prod.ext hn.1 rfl))
      simp [openE, h] at w0
/-- Bytes of a state of which one is another one are none. -/
theorem readS_set {q : Sta} (h : staOk q = true) {k : Nat} {b : UInt8} (hk : k < (snapB q).length) (hb : (snapB q)[k] ≠ b) : readS ((snapB q).set k b) = none := by
  have e : snapB q = sealS (bodyS q) := by rw [snapB, if_pos h]
  refine readS_shut ?_
  simp only [e] at hk hb ⊢
  exact openOk_set hk hb
end Go.Av

namespace Go.Av
open Enc (enc dec)
open Cel (cs dc)
open Go.Proofs Pl

theorem xor8 (a : UInt8) {c : Int} (h0 : 0 ≤ c) (h1 : c < 256) : bitXor .u8 (a.toNat : Int) c = ((a ^^^ UInt8.ofNat c.toNat).toNat : Int) := by
  obtain ⟨n, rfl⟩ : ∃ n : Nat, c = n := ⟨c.toNat, by omega⟩
  unfold bitXor
  have ha : a.toNat < 2 ^ 8 := a.toNat_lt
  have hn : n < 2 ^ 8 := by omega
  have e : (BitVec.ofInt 8 (a.toNat : Int) ^^^ BitVec.ofInt 8 (n : Int)).toNat = a.toNat ^^^ n := by
    rw [BitVec.ofInt_natCast, BitVec.ofInt_natCast, BitVec.toNat_xor, BitVec.toNat_ofNat, BitVec.toNat_ofNat, Nat.mod_eq_of_lt ha, Nat.mod_eq_of_lt hn]
  show IntKind.u8.wrap (((BitVec.ofInt 8 (a.toNat : Int) ^^^ BitVec.ofInt 8 (n : Int)).toNat : Nat) : Int) = _
  have := Nat.xor_lt_two_pow ha hn
  rw [e, IntWalk.u8_in _ (by omega), UInt8.toNat_xor, Int.toNat_natCast, UInt8.toNat_ofNat', Nat.mod_eq_of_lt hn]
/-- Bytes, as a box holds them. -/
def bytV (l : List UInt8) : List V := l.map fun b => .val (.int .u8 b.toNat)
theorem bytV_length (l : List UInt8) : (bytV l).length = l.length := by simp [bytV]
theorem bytV_flat (l : List UInt8) : (l.map cs).flatten = bytV l := by
  induction l with
  | nil => rfl
  | cons b l ih => rw [List.map_cons, List.flatten_cons, ih]; rfl
theorem bytV_set (l : List UInt8) (k : Nat) (b : UInt8) (hk : k < l.length) : (bytV l).take k ++ V.val (.int .u8 b.toNat) :: (bytV l).drop (k + 1) = bytV (l.set k b) := by
  rw [List.set_eq_take_append_cons_drop, if_pos hk]
  simp [bytV]
theorem bytV_chunk (l : List UInt8) : chunkV 1 l.length (bytV l) = l.map cs := by
  have := chunkV_of (sz := 1) (l.map cs) (fun e he => by obtain ⟨b, _, rfl⟩ := List.mem_map.1 he; rfl) []
  simpa [bytV_flat] using this
theorem bytV_obj (l : List UInt8) : isObj (bytV l) = false := by
  cases l with
  | nil => rfl
  | cons a l =>
    cases l <;> rfl
def sp_snapWriteB : List V → Mem → Option (V × Mem)
  | [a], m => (dec a).bind fun q : Sta => if staOk q = true then some (.tuple [.ref (.sli 0 1 (snapB q).length) m.boxes.length, enc (staE q)], { m with boxes := m.boxes ++ [bytV (snapB q)] }) else none
  | _, _ => none
theorem sp_snapWriteB_ok : EOkL Try.prog n_snap_Write sp_snapWriteB := by
  intro args m v m' h
  unfold sp_snapWriteB at h
  split at h
  · rename_i a m1
    simp only [Option.bind_eq_some_iff] at h
    obtain ⟨q, hq, h⟩ := h
    split at h
    · rename_i hok
      cases h
      have := Pure.thaw (m := m) (wk_dec wk_nil hq) (by simp [Enc.cl]) (sz := 1) (ty := 5) (xs := (snapB q).map cs) (l := [enc (staE q)]) (f := n_snap_Write) (P := Try.prog) (by simpa using c_snap_Write q (staOk_len hok))
        (by rintro v hv; rw [List.mem_singleton] at hv; subst hv; exact ⟨_, rfl⟩) (by
          rw [bytV_flat]
          intro v hv
          obtain ⟨b, _, rfl⟩ := List.mem_map.1 hv
          exact ⟨_, rfl⟩) (by
          have := snapB_pos hok
          intro e
          rw [List.map_eq_nil_iff] at e
          rw [e] at this
          cases this)
      rw [bytV_flat] at this
      simpa using this
    · cases h
  · cases h
theorem sp_snapWriteB_enc (q : Sta) (m : Mem) (h : staOk q = true) : sp_snapWriteB [enc q] m = some (.tuple [.ref (.sli 0 1 (snapB q).length) m.boxes.length, enc (staE q)], { m with boxes := m.boxes ++ [bytV (snapB q)] }) := by
  simp only [sp_snapWriteB, Enc.de, Option.bind_some, h, if_true]
@[simp] theorem sp_snapWriteB_agg (q : Sta) (m : Mem) (h : staOk q = true) : sp_snapWriteB [.agg [.val (.int .i64 q.blocks), .val (.int .i64 q.gen), .lit 5 (q.map.map cs), .lit 3 (q.pts.map cs), .val (.int .i64 q.last), .lit 1 (q.staged.map cs)]] m = some (.tuple [.ref (.sli 0 1 (snapB q).length) m.boxes.length, enc (staE q)], { m with boxes := m.boxes ++ [bytV (snapB q)] }) := sp_snapWriteB_enc q m h
def D43 : Orc := D42.addL n_snap_Write sp_snapWriteB
theorem D43_ok : OOk Try.prog D43 := D42_ok.addL sp_snapWriteB_ok
theorem u8_neq (a b : UInt8) (h : b ≠ 0) : a ≠ a ^^^ b := by
  intro e
  have : a ^^^ a = a ^^^ (a ^^^ b) := congrArg (a ^^^ ·) e
  rw [UInt8.xor_self, ← UInt8.xor_assoc, UInt8.xor_self, UInt8.zero_xor] at this
  exact h this.symm
set_option maxRecDepth 4000 in
theorem c_SnapTurns (q : Sta) (a c : Int) (hq : staBig q) (ha : 0 ≤ a ∧ a < 65536) (hc : 0 ≤ c ∧ c < 256) : Pure Try.prog n_w12_SnapTurns [enc q, .val (.int .u16 a), .val (.int .u8 c)] (.val (.bool true)) [] := by
  have hq' : q.map.length ≤ 9223372036854775807 ∧ q.pts.length ≤ 9223372036854775807 ∧ (∀ p : Pt, p ∈ q.pts → p.map.length ≤ 9223372036854775807) ∧ q.staged.length ≤ 9223372036854775807 := hq
  cases hf : few11 q with
  | false =>
    refine Pure.ofC D42_ok hm F_w12_SnapTurns_ok (by simp [F_w12_SnapTurns]) rfl ?_
    simp [F_w12_SnapTurns, D42, D41, hf, hq'.1, hq'.2.1, eq_true hq'.2.2.1, hq'.2.2.2]
  | true =>
    have hl := staLen' (few11_len hf)
    cases hok : staOk q with
    | false =>
      have he := staE_no hok
      refine Pure.ofC D42_ok hm F_w12_SnapTurns_ok (by simp [F_w12_SnapTurns]) rfl ?_
      simp [F_w12_SnapTurns, D42, D41, hf, hq'.1, hq'.2.1, eq_true hq'.2.2.1, hq'.2.2.2, hl.1, hl.2.1, eq_true hl.2.2.1, hl.2.2.2, he]
    | true =>
      have he := staE_ok hok
      refine Pure.ofC D43_ok hm F_w12_SnapTurns_ok (by simp [F_w12_SnapTurns]) rfl ?_
      obtain ⟨b, hb⟩ : ∃ b, b = snapB q := ⟨_, rfl⟩
      have hpos := snapB_pos hok
      have hsb := snapB_length q
      have hbk := readS_back hok
      rw [← hb] at hpos hsb hbk
      have hp0 : ¬ b = [] := by intro e; rw [e] at hpos; cases hpos
      have w2 := IntWalk.i64_in (b.length : Int) (by omega)
      have w3 := IntWalk.i64_in a (by omega)
      have t1 := Int.tmod_nonneg (b.length : Int) ha.1
      have t2 := Int.tmod_lt_of_pos a (b := (b.length : Int)) (by omega)
      obtain ⟨k, hk⟩ : ∃ k : Nat, a.tmod (b.length : Int) = k := ⟨(a.tmod (b.length : Int)).toNat, by omega⟩
      have hkl : k < b.length := by omega
      have hg : (bytV b)[k]? = some (.val (.int .u8 b[k].toNat)) := by simp [bytV, hkl]
      have hg2 : ∀ h, (bytV b)[k]'h = .val (.int .u8 b[k].toNat) := fun _ => by simp [bytV]
      have hx := xor8 b[k] hc.1 hc.2
      obtain ⟨v8, hv8⟩ : ∃ v8, v8 = b[k] ^^^ UInt8.ofNat c.toNat := ⟨_, rfl⟩
      rw [← hv8] at hx
      obtain ⟨b2, hb2⟩ : ∃ b2, b2 = b.set k v8 := ⟨_, rfl⟩
      have hbs := bytV_set b k v8 hkl
      rw [← hb2] at hbs
      have hk1 : k + 1 ≤ b.length := hkl
      have hch := bytV_chunk b2
      have hl2 : b2.length = b.length := by rw [hb2]; simp
      have hl3 : b2.length ≤ 1099511627776 := by omega
      rw [hl2] at hch
      have hrd : rdE b2 = if c = 0 then 0 else 120 := by
        split
        · rename_i e
          subst e
          have : b2 = b := by rw [hb2, hv8]; simp
          rw [this]
          exact hbk.2
        · rename_i e
          have h8 : UInt8.ofNat c.toNat ≠ 0 := by
            intro e1
            have := congrArg UInt8.toNat e1
            rw [UInt8.toNat_ofNat'] at this
            simp at this
            omega
          have := readS_set hok (k := k) (b := b[k] ^^^ UInt8.ofNat c.toNat) (by rw [← hb]; exact hkl) (by
            have := u8_neq b[k] _ h8
            subst hb
            exact this)
          rw [← hb, ← hv8, ← hb2] at this
          simp [rdE, this]
      simp [F_w12_SnapTurns, D43, D42, D41, hf, hq'.1, hq'.2.1, eq_true hq'.2.2.1, hq'.2.2.2, hl.1, hl.2.1, eq_true hl.2.2.1, hl.2.2.2, he, hok, ← hb, hp0, w2, w3, hk, hg, hx, hbs, bytV_obj, bytV_length, hch, hl2, hl3, hkl, hk1, hg2]
      refine ⟨by omega, ?_⟩
      rw [hrd]
      by_cases c0 : c = 0 <;> simp [c0]
end Go.Av

namespace Go.Av.Pl

structure Ce where
  kind : Int
  gen : Int
  data : List UInt8
deriving DecidableEq
def Ce.zero : Ce := ⟨0, 0, List.replicate 32 0⟩
/-- The block at a place. -/
def cellAt (x : Xt) (i : Int) : Ce := ⟨x.kind, x.gen, ((bytesX x).drop ((i - x.lba).toNat * 32)).take 32⟩
def xCells (x : Xt) : List Ce := (List.range x.len.toNat).map fun k : Nat => cellAt x (x.lba + k)
def cellsX (l : List Xt) : List Ce := l.flatMap xCells
theorem xCells_length (x : Xt) : (xCells x).length = x.len.toNat := by simp [xCells]

theorem slice_blocks {α : Type} (A B : List α) (n : Nat) : (∀ j, j < n → (A.drop (j * 32)).take 32 = (B.drop (j * 32)).take 32) ↔ A.take (n * 32) = B.take (n * 32) := by
  constructor
  · intro h
    rw [← range_flat 32 A n, ← range_flat 32 B n]
    congr 1
    exact List.map_congr_left fun j hj => h j (List.mem_range.1 hj)
  · intro h j hj
    have key : ∀ C : List α, (C.drop (j * 32)).take 32 = ((C.take (n * 32)).drop (j * 32)).take 32 := fun C => by
      rw [List.drop_take, List.take_take, Nat.min_eq_left (by omega)]
    rw [key A, key B, h]
theorem bytesX_data {x : Xt} (hx : extOk x = true) (hk : x.kind = 2) : bytesX x = x.data := by simp [bytesX, hx, hk]
theorem bytesX_zero {x : Xt} (hx : extOk x = true) (hk : x.kind ≠ 2) : bytesX x = List.replicate (32 * x.len).toNat 0 := by simp [bytesX, hx, hk]
theorem bytesX_length {x : Xt} (hx : extOk x = true) : ((bytesX x).length : Int) = x.len * 32 := by
  have h := extOk_iff.1 hx
  by_cases hk : x.kind = 2
  · rw [bytesX_data hx hk]
    have := h.2.2.2.2.2.2.2.2
    rw [if_pos hk] at this
    exact this
  · rw [bytesX_zero hx hk, List.length_replicate]
    omega
theorem cellAt_zero {x : Xt} (hx : extOk x = true) (hk : x.kind ≠ 2) {i : Int} (h0 : x.lba ≤ i) (h1 : i < x.lba + x.len) : cellAt x i = ⟨x.kind, x.gen, List.replicate 32 0⟩ := by
  have h := extOk_iff.1 hx
  rw [cellAt, bytesX_zero hx hk, List.drop_replicate, List.take_replicate]
  congr 2
  omega
theorem keptOne_iff {x y : Xt} (hx : extOk x = true) (hy : extOk y = true) : keptOne x y = true ↔ ∀ i : Int, x.lba ≤ i → i < x.lba + x.len → y.lba ≤ i → i < y.lba + y.len → cellAt x i = cellAt y i := by
  have ax := extOk_iff.1 hx
  have ay := extOk_iff.1 hy
  by_cases hlt : max y.lba x.lba < min (y.lba + y.len) (x.lba + x.len)
  · have hc : cutOk y x.lba x.len = true := by simp only [cutOk, hy, Bool.true_and, decide_eq_true_eq]; omega
    obtain ⟨lo, hlo⟩ : ∃ lo, lo = max y.lba x.lba := ⟨_, rfl⟩
    obtain ⟨hi, hhi⟩ : ∃ hi, hi = min (y.lba + y.len) (x.lba + x.len) := ⟨_, rfl⟩
    have e1 : cutX y x.lba x.len = ⟨lo, hi - lo, y.kind, y.gen, if y.kind = 2 then (y.data.take ((hi - y.lba) * 32).toNat).drop ((lo - y.lba) * 32).toNat else []⟩ := by
      rw [cutX, if_pos hc, ← hlo, ← hhi]
    have hc2 : cutOk x lo (hi - lo) = true := by simp only [cutOk, hx, Bool.true_and, decide_eq_true_eq]; omega
    have e2 : cutX x lo (hi - lo) = ⟨lo, hi - lo, x.kind, x.gen, if x.kind = 2 then (x.data.take ((hi - x.lba) * 32).toNat).drop ((lo - x.lba) * 32).toNat else []⟩ := by
      rw [cutX, if_pos hc2]
      have m1 : max x.lba lo = lo := by omega
      have m2 : min (x.lba + x.len) (lo + (hi - lo)) = hi := by omega
      rw [m1, m2]
    simp only [keptOne, hc, e1, e2, Bool.not_true, Bool.false_or, Bool.and_eq_true, decide_eq_true_eq]
    by_cases hk : x.kind = y.kind
    · by_cases hg : x.gen = y.gen
      · by_cases h2 : x.kind = 2
        · have h2y : y.kind = 2 := by omega
          rw [if_pos h2, if_pos h2y]
          obtain ⟨n, hn⟩ : ∃ n : Nat, hi - lo = n := ⟨(hi - lo).toNat, by omega⟩
          obtain ⟨px, hpx⟩ : ∃ p : Nat, lo - x.lba = p := ⟨(lo - x.lba).toNat, by omega⟩
          obtain ⟨py, hpy⟩ : ∃ p : Nat, lo - y.lba = p := ⟨(lo - y.lba).toNat, by omega⟩
          have f1 : ((hi - x.lba) * 32).toNat = px * 32 + n * 32 := by omega
          have f2 : ((hi - y.lba) * 32).toNat = py * 32 + n * 32 := by omega
          have f3 : ((lo - x.lba) * 32).toNat = px * 32 := by omega
          have f4 : ((lo - y.lba) * 32).toNat = py * 32 := by omega
          rw [f1, f2, f3, f4, List.drop_take, List.drop_take, Nat.add_sub_cancel_left, Nat.add_sub_cancel_left, ← slice_blocks]
          have cx : ∀ (z : Xt) (p : Nat), extOk z = true → z.kind = 2 → lo - z.lba = p → ∀ j : Nat, cellAt z (lo + j) = ⟨z.kind, z.gen, ((z.data.drop (p * 32)).drop (j * 32)).take 32⟩ := by
            intro z p hz hz2 hp j
            rw [cellAt, bytesX_data hz hz2, List.drop_drop]
            have : (lo + (j : Int) - z.lba).toNat * 32 = p * 32 + j * 32 := by omega
            rw [this]
          constructor
          · rintro ⟨_, h⟩ i i1 i2 i3 i4
            obtain ⟨j, rfl⟩ : ∃ j : Nat, i = lo + j := ⟨(i - lo).toNat, by omega⟩
            rw [cx x px hx h2 hpx, cx y py hy h2y hpy, h j (by omega), hk, hg]
          · intro h
            refine ⟨⟨hk, hg⟩, fun j hj => ?_⟩
            have := h (lo + j) (by omega) (by omega) (by omega) (by omega)
            rw [cx x px hx h2 hpx, cx y py hy h2y hpy] at this
            exact (Ce.mk.inj this).2.2
        · have h2y : y.kind ≠ 2 := by omega
          rw [if_neg h2, if_neg h2y]
          refine ⟨fun _ i i1 i2 i3 i4 => ?_, fun _ => ⟨⟨hk, hg⟩, rfl⟩⟩
          rw [cellAt_zero hx h2 i1 i2, cellAt_zero hy h2y i3 i4, hk, hg]
      · refine ⟨fun h => absurd h.1.2 hg, fun h => absurd (Ce.mk.inj (h lo (by omega) (by omega) (by omega) (by omega))).2.1 hg⟩
    · refine ⟨fun h => absurd h.1.1 hk, fun h => absurd (Ce.mk.inj (h lo (by omega) (by omega) (by omega) (by omega))).1 hk⟩
  · have hc : cutOk y x.lba x.len = false := by simp only [cutOk, hy, Bool.true_and, decide_eq_false_iff_not]; omega
    simp only [keptOne, hc, Bool.not_false, Bool.true_or, true_iff]
    intro i i1 i2 i3 i4
    omega
theorem mapFrom_mem : ∀ {l : List Xt} {a b : Int} {p : Option Xt}, mapFrom a p l = some b → ∀ x ∈ l, extOk x = true ∧ a ≤ x.lba ∧ x.lba + x.len ≤ b
  | [], _, _, _, _, x, hx => by cases hx
  | y :: l, a, b, p, h, x, hx => by
    simp only [mapFrom] at h
    split at h
    · rename_i hc
      have hy := extOk_iff.1 hc.1
      rcases List.mem_cons.1 hx with rfl | hx
      · refine ⟨hc.1, by omega, ?_⟩
        have : ∀ {l : List Xt} {a b : Int} {p : Option Xt}, mapFrom a p l = some b → a ≤ b := by
          intro l
          induction l with
          | nil => intro a b p h; simp only [mapFrom, Option.some.injEq] at h; omega
          | cons z l ih =>
            intro a b p h
            simp only [mapFrom] at h
            split at h
            · rename_i hz
              have := extOk_iff.1 hz.1
              have := ih h
              omega
            · cases h
        have := this h
        omega
      · obtain ⟨h1, h2, h3⟩ := mapFrom_mem h x hx
        exact ⟨h1, by omega, h3⟩
    · cases h
theorem mapFrom_cells : ∀ {l : List Xt} {a b : Int} {p : Option Xt}, mapFrom a p l = some b → ∀ x ∈ l, ∀ i : Int, x.lba ≤ i → i < x.lba + x.len → (cellsX l)[(i - a).toNat]? = some (cellAt x i)
  | [], _, _, _, _, x, hx => by cases hx
  | y :: l, a, b, p, h, x, hx => by
    intro i i1 i2
    have hm := mapFrom_mem h x hx
    simp only [mapFrom] at h
    split at h
    · rename_i hc
      have hy := extOk_iff.1 hc.1
      rw [cellsX, List.flatMap_cons]
      rcases List.mem_cons.1 hx with rfl | hx
      · rw [List.getElem?_append_left (by rw [xCells_length]; omega)]
        have : (i - a).toNat < x.len.toNat := by omega
        simp only [xCells, List.getElem?_map, List.getElem?_range this, Option.map_some, Option.some.injEq]
        congr 1
        omega
      · have hm2 := mapFrom_mem h x hx
        rw [List.getElem?_append_right (by rw [xCells_length]; omega), xCells_length]
        have := mapFrom_cells h x hx i i1 i2
        rw [cellsX] at this
        rw [← this]
        congr 1
        omega
    · cases h
theorem mapFrom_cover : ∀ {l : List Xt} {a b : Int} {p : Option Xt}, mapFrom a p l = some b → ∀ i : Int, a ≤ i → i < b → ∃ x ∈ l, x.lba ≤ i ∧ i < x.lba + x.len
  | [], a, b, _, h, i, h1, h2 => by simp only [mapFrom, Option.some.injEq] at h; omega
  | y :: l, a, b, p, h, i, h1, h2 => by
    simp only [mapFrom] at h
    split at h
    · rename_i hc
      by_cases hi : i < a + y.len
      · exact ⟨y, List.mem_cons_self .., by omega, by omega⟩
      · obtain ⟨x, hx, h3⟩ := mapFrom_cover h i (by omega) h2
        exact ⟨x, List.mem_cons_of_mem _ hx, h3⟩
    · cases h
theorem mapFrom_clen : ∀ {l : List Xt} {a b : Int} {p : Option Xt}, mapFrom a p l = some b → ((cellsX l).length : Int) = b - a
  | [], a, b, _, h => by simp only [mapFrom, Option.some.injEq] at h; simp [cellsX]; omega
  | y :: l, a, b, p, h => by
    simp only [mapFrom] at h
    split at h
    · rename_i hc
      have hy := extOk_iff.1 hc.1
      have := mapFrom_clen h
      rw [cellsX, List.flatMap_cons, List.length_append, xCells_length]
      rw [cellsX] at this
      omega
    · cases h
theorem mapOk_cells {n : Int} {l : List Xt} (h : mapOk n l = true) : ((cellsX l).length : Int) = n := by
  simp only [mapOk, Bool.and_eq_true, decide_eq_true_eq] at h
  have := mapFrom_clen h.2
  omega
/-- Is each block of a generation that is not above one as in the other map? -/
def keptC (n : Nat) (a b : List Ce) (g : Int) : Bool := (List.range n).all fun i => !(decide ((b.getD i Ce.zero).gen ≤ g) && decide (a.getD i Ce.zero ≠ b.getD i Ce.zero))
theorem keptX_cells {n : Int} {was l : List Xt} (hw : mapOk n was = true) (hl : mapOk n l = true) (g : Int) : keptX was l g = keptC n.toNat (cellsX was) (cellsX l) g := by
  have hn := mapOk_le hw
  simp only [mapOk, Bool.and_eq_true, decide_eq_true_eq] at hw hl
  rw [Bool.eq_iff_iff]
  simp only [keptX, keptC, List.all_eq_true, List.mem_range, Bool.or_eq_true, decide_eq_true_eq, Bool.not_eq_true', Bool.and_eq_false_iff, decide_eq_false_iff_not]
  constructor
  · intro h i hi
    obtain ⟨x, hx, x1, x2⟩ := mapFrom_cover hl.2 i (by omega) (by omega)
    obtain ⟨y, hy, y1, y2⟩ := mapFrom_cover hw.2 i (by omega) (by omega)
    have cx := mapFrom_cells hl.2 x hx i x1 x2
    have cy := mapFrom_cells hw.2 y hy i y1 y2
    have hi0 : ((i : Int) - 0).toNat = i := by omega
    rw [hi0] at cx cy
    have c1 : (cellsX l).getD i Ce.zero = cellAt x i := by rw [List.getD_eq_getElem?_getD, cx]; rfl
    have c2 : (cellsX was).getD i Ce.zero = cellAt y i := by rw [List.getD_eq_getElem?_getD, cy]; rfl
    rw [c1, c2]
    rcases h x hx with h | h
    · exact .inl (by show ¬ x.gen ≤ g; omega)
    · refine .inr (fun hne => hne ?_)
      exact ((keptOne_iff (mapFrom_mem hl.2 x hx).1 (mapFrom_mem hw.2 y hy).1).1 (h y hy) i x1 x2 y1 y2).symm
  · intro h x hx
    by_cases hg : g < x.gen
    · exact .inl hg
    · refine .inr fun y hy => (keptOne_iff (mapFrom_mem hl.2 x hx).1 (mapFrom_mem hw.2 y hy).1).2 fun i x1 x2 y1 y2 => ?_
      have hmx := mapFrom_mem hl.2 x hx
      obtain ⟨k, rfl⟩ : ∃ k : Nat, i = k := ⟨i.toNat, by omega⟩
      have cx := mapFrom_cells hl.2 x hx k x1 x2
      have cy := mapFrom_cells hw.2 y hy k y1 y2
      have hi0 : ((k : Int) - 0).toNat = k := by omega
      rw [hi0] at cx cy
      have c1 : (cellsX l).getD k Ce.zero = cellAt x k := by rw [List.getD_eq_getElem?_getD, cx]; rfl
      have c2 : (cellsX was).getD k Ce.zero = cellAt y k := by rw [List.getD_eq_getElem?_getD, cy]; rfl
      have := h k (by omega)
      rw [c1, c2] at this
      rcases this with h | h
      · exact absurd (show (cellAt x k).gen ≤ g by show x.gen ≤ g; omega) h
      · exact (Classical.not_not.1 h).symm
end Go.Av.Pl

namespace Go.Av
open Enc (enc dec)
open Cel (cs dc)
open Go.Proofs Pl

/-- A block, as cells. -/
def ceV (c : Ce) : List V := .val (.int .i64 c.kind) :: .val (.int .i64 c.gen) :: bytV c.data
def ceOk (c : Ce) : Prop := c.data.length = 32 ∧ 0 ≤ c.kind ∧ c.kind ≤ 2 ∧ 0 ≤ c.gen ∧ c.gen ≤ 2147483647
theorem ceV_length {c : Ce} (h : c.data.length = 32) : (ceV c).length = 34 := by simp [ceV, bytV_length, h]
theorem ceV_take {c : Ce} (h : c.data.length = 32) : (ceV c).take 34 = ceV c := List.take_of_length_le (by rw [ceV_length h]; omega)
theorem ceV_obj (c : Ce) : isObj (ceV c) = false := rfl
theorem ceV_gen (c : Ce) : (ceV c)[1]? = some (.val (.int .i64 c.gen)) := rfl
theorem ceV_one (c : Ce) : ((ceV c).all V.one) = true := by simp [ceV, bytV]
theorem ceV_set (c : Ce) (j : Nat) (b : UInt8) (hj : j < c.data.length) : (ceV c).take (2 + j) ++ V.val (.int .u8 b.toNat) :: (ceV c).drop (2 + j + 1) = ceV ⟨c.kind, c.gen, c.data.set j b⟩ := by
  rw [show 2 + j = j + 2 by omega, show j + 2 + 1 = (j + 1) + 2 by omega]
  simp only [ceV, List.take_succ_cons, List.drop_succ_cons, List.cons_append]
  rw [bytV_set _ _ _ hj]
/-- Blocks, as a box holds them. -/
def cesV (l : List Ce) : List V := (l.map ceV).flatten
theorem cesV_length : ∀ {l : List Ce}, (∀ c ∈ l, c.data.length = 32) → (cesV l).length = l.length * 34
  | [], _ => rfl
  | c :: l, h => by
    have := cesV_length (l := l) fun c hc => h c (List.mem_cons_of_mem _ hc)
    simp only [cesV, List.map_cons, List.flatten_cons, List.length_append, ceV_length (h c (List.mem_cons_self ..))] at this ⊢
    rw [this, List.length_cons, Nat.add_mul]
    omega
theorem cesV_set : ∀ {l : List Ce}, (∀ c ∈ l, c.data.length = 32) → ∀ (k : Nat) (c : Ce), k < l.length → (cesV l).take (k * 34) ++ (ceV c ++ (cesV l).drop (k * 34 + 34)) = cesV (l.set k c)
  | [], _, k, c, hk => by simp at hk
  | d :: l, h, 0, c, hk => by
    have hd := ceV_length (h d (List.mem_cons_self ..))
    simp only [cesV, List.map_cons, List.flatten_cons, Nat.zero_mul, List.take_zero, List.nil_append, Nat.zero_add, List.set_cons_zero]
    rw [List.drop_left' hd]
  | d :: l, h, k + 1, c, hk => by
    have hd := ceV_length (h d (List.mem_cons_self ..))
    have ih := cesV_set (l := l) (fun c hc => h c (List.mem_cons_of_mem _ hc)) k c (by simpa using hk)
    simp only [cesV, List.map_cons, List.flatten_cons, List.set_cons_succ] at ih ⊢
    rw [Nat.add_mul, Nat.one_mul, Nat.add_comm (k * 34) 34, ← hd, List.take_length_add_append, List.append_assoc, List.append_cancel_left_eq, ← ih, hd, Nat.add_assoc, ← hd, List.drop_append]
    congr 2
    simp
theorem cesV_chunk {l : List Ce} (h : ∀ c ∈ l, c.data.length = 32) : chunkV 34 l.length (cesV l) = l.map ceV := by
  have := chunkV_of (sz := 34) (l.map ceV) (fun e he => by obtain ⟨b, hb, rfl⟩ := List.mem_map.1 he; exact ceV_length (h b hb)) []
  simpa [cesV] using this
theorem cesV_obj (l : List Ce) : isObj (cesV l) = false := by
  cases l with
  | nil => rfl
  | cons c l => rfl
theorem cellAt_len {x : Xt} (hx : extOk x = true) {i : Int} (h0 : x.lba ≤ i) (h1 : i < x.lba + x.len) : (cellAt x i).data.length = 32 := by
  have := bytesX_length hx
  simp only [cellAt, List.length_take, List.length_drop]
  omega
theorem cellAt_ok {x : Xt} (hx : extOk x = true) {i : Int} (h0 : x.lba ≤ i) (h1 : i < x.lba + x.len) : ceOk (cellAt x i) := by
  have h := extOk_iff.1 hx
  exact ⟨cellAt_len hx h0 h1, h.2.2.2.2.1, h.2.2.2.2.2.1, h.2.2.2.2.2.2.1, h.2.2.2.2.2.2.2.1⟩
theorem xCells_ok {x : Xt} (hx : extOk x = true) : ∀ c ∈ xCells x, ceOk c := fun c hc => by
  obtain ⟨k, hk, rfl⟩ := List.mem_map.1 hc
  rw [List.mem_range] at hk
  exact cellAt_ok hx (by omega) (by omega)
theorem cells_ok {l : List Xt} (h : ∀ x ∈ l, extOk x = true) : ∀ c ∈ cellsX l, ceOk c := fun c hc => by
  obtain ⟨x, hx, hc⟩ := List.mem_flatMap.1 hc
  exact xCells_ok (h x hx) c hc
theorem mapFrom_at : ∀ {l : List Xt} {a b : Int} {p : Option Xt}, mapFrom a p l = some b → ∀ {i : Nat} {x : Xt}, l[i]? = some x → x.lba = a + (cellsX (l.take i)).length
  | [], _, _, _, _, i, x, hx => by simp at hx
  | y :: l, a, b, p, h, i, x, hx => by
    simp only [mapFrom] at h
    split at h
    · rename_i hc
      have hy := extOk_iff.1 hc.1
      cases i with
      | zero => simp at hx; subst hx; simp [cellsX, hc.2.1]
      | succ i =>
        have := mapFrom_at h (i := i) (x := x) (by simpa using hx)
        rw [List.take_succ_cons, cellsX, List.flatMap_cons, List.length_append, xCells_length]
        rw [cellsX] at this
        omega
    · cases h
/-- What is there so far. -/
def sofar (n : Nat) (l : List Ce) : List Ce := l ++ List.replicate (n - l.length) Ce.zero
theorem sofar_set {n : Nat} {l : List Ce} (h : l.length < n) (c : Ce) : (sofar n l).set l.length c = sofar n (l ++ [c]) := by
  obtain ⟨d, hd⟩ : ∃ d, n - l.length = d + 1 := ⟨n - l.length - 1, by omega⟩
  have e : n - (l.length + 1) = d := by omega
  simp only [sofar, List.length_append, List.length_cons, List.length_nil, Nat.zero_add, hd, e]
  rw [List.set_append_right _ _ (Nat.le_refl _), Nat.sub_self, List.replicate_succ, List.set_cons_zero, List.append_assoc]
  rfl
theorem sofar_length {n : Nat} {l : List Ce} (h : l.length ≤ n) : (sofar n l).length = n := by simp [sofar]; omega
theorem sofar_ok {n : Nat} {l : List Ce} (h : ∀ c ∈ l, c.data.length = 32) : ∀ c ∈ sofar n l, c.data.length = 32 := fun c hc => by
  rcases List.mem_append.1 hc with hc | hc
  · exact h c hc
  · rw [(List.mem_replicate.1 hc).2]; simp [Ce.zero]

@[simp] def sp_rBytes (x : Xt) : Option (V × List Tip) := some (.row 0 1 ((bytesX x).map cs), [(5, 1, (bytesX x).length)])
theorem sp_rBytes_ok : EOk Try.prog n_r07_Bytes (sp1 sp_rBytes) := sp1_ok fun x r h => by cases h; exact c_r07_Bytes x
def D44 : Orc := Orc.nil.add n_r07_Bytes (sp1 sp_rBytes)
theorem D44_ok : OOk Try.prog D44 := OOk.nil.add sp_rBytes_ok
/-- The loop over a block's bytes. -/
def CellN (n : Int) (l : List Xt) (x : Xt) (i k : Nat) (out : List Ce) (j : Nat) (s : Nat → V) (m : Mem) : Prop :=
  ∃ (t o p q : Nat), q + j = 32 ∧ s 0 = .val (.int .i64 n) ∧ s 1 = .lit 5 (l.map cs) ∧ s 5 = .ref (.sli 0 34 n.toNat) o ∧ s 6 = .val (.int .i64 i) ∧ s 7 = .row t 1 ((bytesX x).map cs) ∧ s 8 = .val (.int .i64 k) ∧ s 9 = .ptr p 0 ∧ s 10 = .val (.int .i64 q) ∧
    o ≠ p ∧ m.boxes[o]? = some (cesV out) ∧ m.boxes[p]? = some (ceV ⟨x.kind, x.gen, ((bytesX x).drop (k * 32)).take q ++ List.replicate (32 - q) 0⟩)
/-- The loop over an extent's blocks. -/
def CellK (n : Int) (l : List Xt) (x : Xt) (i : Nat) (j : Nat) (s : Nat → V) (m : Mem) : Prop :=
  ∃ (t o k : Nat), k + j = x.len.toNat ∧ s 0 = .val (.int .i64 n) ∧ s 1 = .lit 5 (l.map cs) ∧ s 5 = .ref (.sli 0 34 n.toNat) o ∧ s 6 = .val (.int .i64 i) ∧ s 7 = .row t 1 ((bytesX x).map cs) ∧ s 8 = .val (.int .i64 k) ∧
    m.boxes[o]? = some (cesV (sofar n.toNat (cellsX (l.take i) ++ (xCells x).take k)))
/-- The loop over the extents. -/
def CellI (n : Int) (l : List Xt) (j : Nat) (s : Nat → V) (m : Mem) : Prop :=
  ∃ (o i : Nat), i + j = l.length ∧ s 0 = .val (.int .i64 n) ∧ s 1 = .lit 5 (l.map cs) ∧ s 5 = .ref (.sli 0 34 n.toNat) o ∧ s 6 = .val (.int .i64 i) ∧
    m.boxes[o]? = some (cesV (sofar n.toNat (cellsX (l.take i))))
theorem cleanX_all {xs : List (List V)} (h : ∀ e ∈ xs, cleanL e = true) : cleanX xs = true := by
  induction xs with
  | nil => rfl
  | cons e l ih => simp [cleanX, h e (List.mem_cons_self ..), ih fun e he => h e (List.mem_cons_of_mem _ he)]
theorem bytV_clean (l : List UInt8) : cleanL (bytV l) = true := by
  induction l with
  | nil => rfl
  | cons b l ih => rw [bytV, List.map_cons, cleanL]; simp [V.isClean]; exact ih
theorem ceV_clean (c : Ce) : cleanL (ceV c) = true := by simp [ceV, cleanL, V.isClean, bytV_clean]
theorem ces_clean (l : List Ce) : cleanX (l.map ceV) = true := cleanX_all fun e he => by
  obtain ⟨c, _, rfl⟩ := List.mem_map.1 he
  exact ceV_clean c
theorem cesV_zero (n : Nat) : cesV (sofar n []) = (List.replicate n (ceV Ce.zero)).flatten := by simp [cesV, sofar]
theorem fill_set {A : List UInt8} {q : Nat} {y : UInt8} (hy : A[q]? = some y) (hq : q < 32) : (A.take q ++ List.replicate (32 - q) 0).set q y = A.take (q + 1) ++ List.replicate (32 - (q + 1)) 0 := by
  have hl := lt_of_some hy
  have hq1 : (A.take q).length = q := by simp; omega
  obtain ⟨e, he⟩ : ∃ e, 32 - q = e + 1 := ⟨31 - q, by omega⟩
  have e2 : 32 - (q + 1) = e := by omega
  rw [List.set_append_right _ _ (by omega), hq1, Nat.sub_self, he, e2, List.replicate_succ, List.set_cons_zero, List.take_add_one, hy, List.append_assoc]
  rfl
set_option maxRecDepth 8000 in
theorem c_r08_Cells (n : Int) (l : List Xt) (hl : l.length ≤ 2 ^ 40) (hok : mapOk n l = true) : Pure Try.prog n_r08_Cells [enc n, enc l] (.lit 34 ((cellsX l).map ceV)) [] := by
  refine Pure.ofC D44_ok hm F_r08_Cells_ok (by simp [F_r08_Cells]) (by simp [V.res, V.res1, ces_clean]) ?_
  have hn := mapOk_le hok
  have hmf := hok
  simp only [mapOk, Bool.and_eq_true, decide_eq_true_eq] at hmf
  have hcl := mapOk_cells hok
  have hall := mapFrom_mem hmf.2
  simp [F_r08_Cells]
  refine ⟨by omega, ?_⟩
  refine wp_loop (CellI n l) l.length (IW.of ⟨0, 0, by omega, by simp, by simp, by simp, by simp, ?_⟩) fun j s m ⟨o, i, hik, h0, h1, h5, h6, ho⟩ => ?_
  · simp
    exact (cesV_zero n.toNat).symm
  by_cases hi : i < l.length
  · have hg : l[i]? = some l[i] := List.getElem?_eq_getElem hi
    have w1 := IntWalk.i64_in ((i : Int) + 1) (by omega)
    obtain ⟨x, hxe⟩ : ∃ x, x = l[i] := ⟨_, rfl⟩
    have hxl : x ∈ l := hxe ▸ List.getElem_mem hi
    obtain ⟨hx, hx1, hx2⟩ := hall x hxl
    have hxb := extOk_iff.1 hx
    have hat := mapFrom_at hmf.2 (i := i) (x := x) (by rw [hg, hxe])
    have hbl := bytesX_length hx
    have hq : ((bytesX x).length : Int).tdiv 32 = x.len := by rw [hbl, Int.mul_tdiv_cancel _ (by decide)]
    have hd : (l.take i).length = i := by simp; omega
    have hok1 : ∀ c ∈ cellsX (l.take i), ceOk c := cells_ok fun y hy => (hall y (List.mem_of_mem_take hy)).1
    simp [F_r08_Cells_L2, D44, h0, h1, h5, h6, hi, hg, ← hxe]
    refine wp_loop (CellK n l x i) x.len.toNat (IW.of ⟨m.tips.length, o, 0, by omega, by simpa using h0, by simpa using h1, by simpa using h5, by simpa using h6, by simp, by simp, by simpa using ho⟩) fun j' s m ⟨t, o, k, hjk, h0, h1, h5, h6, h7, h8, ho⟩ => ?_
    by_cases hk : (k : Int) < x.len
    · have w2 := IntWalk.i64_in ((k : Int) + 1) (by omega)
      have w3 := IntWalk.i64_in (x.lba + k) (by omega)
      have w4 := IntWalk.i64_in x.len (by omega)
      have hlk : ¬ n ≤ x.lba + k := by omega
      have hol : o < m.boxes.length := lt_of_some ho
      have f1 : ∀ (b : List (List V)), (m.boxes ++ b)[o]? = m.boxes[o]? := fun b => List.getElem?_append_left hol
      simp [F_r08_Cells_L1, D44, h0, h1, h5, h6, h7, h8, hq, hk, hi, hg, ← hxe, w3, w4, hlk]
      refine wp_loop (CellN n l x i k (sofar n.toNat (cellsX (l.take i) ++ (xCells x).take k))) 32 (IW.of ⟨t, o, m.boxes.length, 0, by omega, by simpa using h0, by simpa using h1, by simpa using h5, by simpa using h6, by simpa using h7, by simpa using h8, by simp, by simp, by omega, by simpa [f1] using ho, ?_⟩) fun j2 s m ⟨t, o, p, q, hjq, h0, h1, h5, h6, h7, h8, h9, h10, hop, ho, hp⟩ => ?_
      · simp
        rfl
      by_cases hq2 : q < 32
      · have hq3 : (q : Int) < 32 := by omega
        have w5 := IntWalk.i64_in (32 * (k : Int)) (by omega)
        have w6 := IntWalk.i64_in (32 * (k : Int) + (q : Int)) (by omega)
        have w7 : (32 * (k : Int) + (q : Int)).toNat = k * 32 + q := by omega
        have w8 := IntWalk.i64_in ((q : Int) + 1) (by omega)
        have w9 : (0 : Int) ≤ 32 * (k : Int) + (q : Int) := by omega
        obtain ⟨y, hy⟩ : ∃ y, (bytesX x)[k * 32 + q]? = some y := ⟨_, List.getElem?_eq_getElem (by omega)⟩
        have hy2 : ((bytesX x).drop (k * 32))[q]? = some y := by rw [List.getElem?_drop]; exact hy
        have hfs := fill_set hy2 hq2
        have hdl : (((bytesX x).drop (k * 32)).take q ++ List.replicate (32 - q) (0 : UInt8)).length = 32 := by simp; omega
        obtain ⟨c, hc⟩ : ∃ c : Ce, c = ⟨x.kind, x.gen, ((bytesX x).drop (k * 32)).take q ++ List.replicate (32 - q) 0⟩ := ⟨_, rfl⟩
        rw [← hc] at hp
        have hcd : c.data.length = 32 := by rw [hc]; exact hdl
        have hcs := ceV_set c q y (by omega)
        have hcl2 := ceV_length hcd
        have hob := ceV_obj c
        have hpl : p < m.boxes.length := lt_of_some hp
        simp [F_r08_Cells_L0, D44, h0, h1, h5, h6, h7, h8, h9, h10, hq2, hq3, ho, hp, w5, w6, w7, w8, w9, hy, hcs, hcl2, hob]
        refine ⟨by omega, j2 - 1, by omega, IW.of (show CellN n l x i k _ _ _ _ from ⟨t, o, p, q + 1, by omega, by simpa using h0, by simpa using h1, by simpa using h5, by simpa using h6, by simpa using h7, by simpa using h8, by simpa using h9, by simp, hop, ?_, ?_⟩)⟩
        · simp [List.getElem?_set_ne (Ne.symm hop), ho]
        · simp only [List.getElem?_set_self hpl]
          rw [hc, ← hfs]
      · obtain rfl : q = 32 := by omega
        have hce : (⟨x.kind, x.gen, ((bytesX x).drop (k * 32)).take 32 ++ List.replicate (32 - 32) 0⟩ : Ce) = cellAt x (x.lba + k) := by
          have : (x.lba + (k : Int) - x.lba).toNat = k := by omega
          simp [cellAt, this]
        rw [hce] at hp
        obtain ⟨c, hc⟩ : ∃ c : Ce, c = cellAt x (x.lba + k) := ⟨_, rfl⟩
        rw [← hc] at hp
        have hcd : c.data.length = 32 := by rw [hc]; exact cellAt_len hx (by omega) (by omega)
        have hcl2 := ceV_length hcd
        have htk := ceV_take hcd
        have hob := ceV_obj c
        have hce1 := ceV_one c
        obtain ⟨A, hA⟩ : ∃ A, A = cellsX (l.take i) ++ (xCells x).take k := ⟨_, rfl⟩
        have hAl : A.length = (cellsX (l.take i)).length + k := by rw [hA]; simp [xCells_length]; omega
        have hAd : ∀ c ∈ A, c.data.length = 32 := fun c hc => by
          rw [hA] at hc
          rcases List.mem_append.1 hc with hc | hc
          · exact (hok1 c hc).1
          · exact (xCells_ok hx c (List.mem_of_mem_take hc)).1
        rw [← hA] at ho
        have hAn : A.length < n.toNat := by omega
        have hol2 := cesV_length (sofar_ok (n := n.toNat) hAd)
        rw [sofar_length (by omega)] at hol2
        have hst := cesV_set (sofar_ok (n := n.toNat) hAd) A.length c (by rw [sofar_length (by omega)]; omega)
        rw [sofar_set hAn] at hst
        have w5 : (x.lba + (k : Int)).toNat = A.length := by omega
        have w6 : (0 : Int) ≤ x.lba + k := by omega
        have w7 : x.lba + (k : Int) < n.toNat := by omega
        have w8 : x.lba + (k : Int) < n := by omega
        have hoo := cesV_obj (sofar n.toNat A)
        have hpl : p < m.boxes.length := lt_of_some hp
        have hol := lt_of_some ho
        simp [F_r08_Cells_L0, D44, h0, h1, h5, h6, h7, h8, h9, h10, ho, hp, hi, hg, ← hxe, w2, w3, w5, w6, w7, w8, htk, hcl2, hob, hce1, hol2, hst, hoo]
        refine ⟨by omega, by omega, j' - 1, by omega, IW.of (show CellK n l x i _ _ _ from ⟨t, o, k + 1, by omega, by simpa using h0, by simpa using h1, by simpa using h5, by simpa using h6, by simpa using h7, by simp, ?_⟩)⟩
        simp only [List.getElem?_set_self hol]
        have hxk : (xCells x).take (k + 1) = (xCells x).take k ++ [c] := by
          have hg2 : (xCells x)[k]? = some c := by
            have : k < x.len.toNat := by omega
            rw [hc]
            simp [xCells, List.getElem?_range this]
          rw [List.take_add_one, hg2]
          rfl
        rw [hxk, ← List.append_assoc, ← hA]
    · have w4 := IntWalk.i64_in x.len (by omega)
      have hkl : k = x.len.toNat := by omega
      simp [F_r08_Cells_L1, D44, h0, h1, h5, h6, h7, h8, hq, hk, w1, w4]
      refine ⟨j - 1, by omega, IW.of (show CellI n l _ _ _ from ⟨o, i + 1, by omega, by simpa using h0, by simpa using h1, by simpa using h5, by simp, ?_⟩)⟩
      have ht1 : l.take (i + 1) = l.take i ++ [x] := by rw [List.take_add_one, hg, hxe]; rfl
      have hxk : (xCells x).take k = xCells x := List.take_of_length_le (by rw [xCells_length]; omega)
      rw [ho, hxk, ht1, cellsX, cellsX, List.flatMap_append]
      simp
  · have hil : i = l.length := by omega
    rw [hil, List.take_length] at ho
    have e : sofar n.toNat (cellsX l) = cellsX l := by simp [sofar]; omega
    have hlen : ∀ c ∈ cellsX l, c.data.length = 32 := fun c hc => (cells_ok (fun y hy => (hall y hy).1) c hc).1
    have hch := cesV_chunk hlen
    rw [e] at ho
    have e2 : n.toNat = (cellsX l).length := by omega
    rw [e2] at h5
    simp [F_r08_Cells_L2, F_r08_Cells, h0, h1, h5, h6, hi, ho, cesV_obj, cesV_length hlen, hch, ces_clean]
end Go.Av

namespace Go.Av
open Enc (enc dec)
open Cel (cs dc)
open Go.Proofs Pl

def D47 : Orc := Orc.nil.add n_r08_Check (sp2 sp_mapOk)
theorem D47_ok : OOk Try.prog D47 := OOk.nil.add sp_rmapOk_ok
def RUptoI (n : Int) (l : List Xt) (g : Int) (k : Nat) (s : Nat → V) (m : Mem) : Prop :=
  ∃ i : Nat, i + k = l.length ∧ anyGt g l = anyGt g (l.drop i) ∧ s 0 = .val (.int .i64 n) ∧ s 1 = .lit 5 (l.map cs) ∧ s 2 = .val (.int .i64 g) ∧ s 7 = .val (.bool (mapOk n l)) ∧ s 8 = .val (.int .i64 i)
theorem c_r11_upto (n : Int) (l : List Xt) (g : Int) (hl : l.length ≤ 2 ^ 40) : Pure Try.prog n_r11_upto [enc n, enc l, enc g] (enc (uptoOk n l g)) [] := by
  refine Pure.ofC D47_ok hm F_r11_upto_ok (by simp [F_r11_upto]) rfl ?_
  have b1 : l.length ≤ 1099511627776 := by omega
  simp [F_r11_upto, D47, b1]
  refine wp_loop (RUptoI n l g) l.length (IW.of ⟨0, by omega, by simp, by simp, by simp, by simp, by simp, by simp⟩) fun k s m ⟨i, hik, hany, h0, h1, h2, h7, h8⟩ => ?_
  by_cases hi : i < l.length
  · have hg : l[i]? = some l[i] := List.getElem?_eq_getElem hi
    have w1 := IntWalk.i64_in ((i : Int) + 1) (by omega)
    rw [List.drop_eq_getElem_cons hi] at hany
    have ha2 : anyGt g (l[i] :: l.drop (i + 1)) = (decide (g < l[i].gen) || anyGt g (l.drop (i + 1))) := rfl
    rw [ha2] at hany
    by_cases hx : g < l[i].gen
    · have e : uptoOk n l g = false := by rw [uptoOk, hany]; simp [hx]
      simp [F_r11_upto_L0, D47, h0, h1, h2, h7, h8, hi, hg, hx, e]
    · simp [F_r11_upto_L0, D47, h0, h1, h2, h7, h8, hi, hg, hx, w1]
      refine ⟨k - 1, by omega, IW.of (show RUptoI n l g _ _ _ from ⟨i + 1, by omega, ?_, by simpa using h0, by simpa using h1, by simpa using h2, by simpa using h7, by simp⟩)⟩
      rw [hany]
      simp [hx]
  · have hil : i = l.length := by omega
    rw [hil, List.drop_length] at hany
    have e : uptoOk n l g = mapOk n l := by rw [uptoOk, hany]; simp [anyGt]
    simp [F_r11_upto_L0, F_r11_upto, D47, h0, h1, h2, h7, h8, hi, e]

/-- A block's numbers. -/
def ceI (c : Ce) : List Int := c.kind :: c.gen :: c.data.map fun b => (b.toNat : Int)
theorem ints_u8 : ∀ (d : List UInt8), intsOf (List.replicate d.length .u8) (bytV d) = some (d.map fun b => (b.toNat : Int))
  | [] => rfl
  | b :: d => by
    have hb := b.toNat_lt
    have hw : (Lit.int .u8 (b.toNat : Int)).wf = true := by
      simp only [Lit.wf, Bool.and_eq_true, decide_eq_true_eq]
      exact ⟨by show (0 : Int) ≤ _; omega, by show _ ≤ (255 : Int); omega⟩
    have ih := ints_u8 d
    rw [bytV] at ih
    rw [List.length_cons, List.replicate_succ, bytV, List.map_cons, intsOf, if_pos ⟨rfl, hw⟩, ih]
    rfl
theorem ceV_ints (c : Ce) (h : ceOk c) : intsOf [.i64, .i64, .u8, .u8, .u8, .u8, .u8, .u8, .u8, .u8, .u8, .u8, .u8, .u8, .u8, .u8, .u8, .u8, .u8, .u8, .u8, .u8, .u8, .u8, .u8, .u8, .u8, .u8, .u8, .u8, .u8, .u8, .u8, .u8] (ceV c) = some (ceI c) := by
  obtain ⟨h1, h2, h3, h4, h5⟩ := h
  have hw : ∀ n : Int, 0 ≤ n → n ≤ 2147483647 → (Lit.int .i64 n).wf = true := fun n h0 h1 => by
    simp only [Lit.wf, Bool.and_eq_true, decide_eq_true_eq]
    exact ⟨by show (-9223372036854775808 : Int) ≤ _; omega, by show _ ≤ (9223372036854775807 : Int); omega⟩
  have h8 := ints_u8 c.data
  rw [h1] at h8
  show intsOf (.i64 :: .i64 :: List.replicate 32 .u8) _ = _
  rw [ceV, intsOf, if_pos ⟨rfl, hw _ h2 (by omega)⟩, intsOf, if_pos ⟨rfl, hw _ h4 h5⟩, h8]
  rfl
theorem ceI_inj {a b : Ce} : ceI a = ceI b ↔ a = b := by
  constructor
  · intro h
    obtain ⟨a1, a2, a3⟩ := a
    obtain ⟨b1, b2, b3⟩ := b
    simp only [ceI, List.cons.injEq] at h
    obtain ⟨rfl, rfl, h⟩ := h
    have : a3 = b3 := by
      have hinj : ∀ (l r : List UInt8), (l.map fun b => (b.toNat : Int)) = (r.map fun b => (b.toNat : Int)) → l = r := by
        intro l
        induction l with
        | nil => intro r h; cases r with
          | nil => rfl
          | cons => simp at h
        | cons x l ih => intro r h; cases r with
          | nil => simp at h
          | cons y r =>
            simp only [List.map_cons, List.cons.injEq] at h
            have : x = y := UInt8.toNat_inj.1 (Int.ofNat.inj h.1)
            rw [this, ih r h.2]
      exact hinj _ _ h
    rw [this]
  · rintro rfl; rfl
@[simp] def sp_cells (n : Int) (l : List Xt) : Option (V × List Tip) := if l.length ≤ 2 ^ 40 ∧ mapOk n l = true then some (.lit 34 ((cellsX l).map ceV), []) else none
theorem sp_cells_ok : EOk Try.prog n_r08_Cells (sp2 sp_cells) := sp2_ok fun n l r h => by
  simp only [sp_cells] at h
  split at h <;> cases h
  rename_i h
  exact c_r08_Cells n l h.1 h.2
def D45 : Orc := Orc.nil.add n_r08_Cells (sp2 sp_cells)
theorem D45_ok : OOk Try.prog D45 := OOk.nil.add sp_cells_ok
def RKeptI (n : Int) (A B : List Ce) (g : Int) (k : Nat) (s : Nat → V) (m : Mem) : Prop :=
  ∃ i : Nat, i + k = n.toNat ∧ keptC i A B g = true ∧ s 0 = .val (.int .i64 n) ∧ s 3 = .val (.int .i64 g) ∧ s 9 = .lit 34 (A.map ceV) ∧ s 10 = .lit 34 (B.map ceV) ∧ s 11 = .val (.int .i64 i)
theorem keptC_succ (i : Nat) (A B : List Ce) (g : Int) : keptC (i + 1) A B g = (keptC i A B g && !(decide ((B.getD i Ce.zero).gen ≤ g) && decide (A.getD i Ce.zero ≠ B.getD i Ce.zero))) := by
  simp [keptC, List.range_succ, List.all_append]
theorem keptC_stop {i n : Nat} {A B : List Ce} {g : Int} (hi : i < n) (h : keptC (i + 1) A B g = false) : keptC n A B g = false := by
  simp only [keptC, List.all_eq_false, List.mem_range] at h ⊢
  obtain ⟨j, hj, h⟩ := h
  exact ⟨j, by omega, h⟩
set_option maxRecDepth 8000 in
theorem c_r11_kept (n : Int) (was l : List Xt) (g : Int) (hw : was.length ≤ 2 ^ 40) (hl : l.length ≤ 2 ^ 40) (h1 : mapOk n was = true) (h2 : mapOk n l = true) : Pure Try.prog n_r11_kept [enc n, enc was, enc l, enc g] (enc (keptX was l g)) [] := by
  refine Pure.ofC D45_ok hm F_r11_kept_ok (by simp [F_r11_kept]) rfl ?_
  have b1 : was.length ≤ 1099511627776 := by omega
  have b2 : l.length ≤ 1099511627776 := by omega
  have hn := mapOk_le h1
  have hke := keptX_cells h1 h2 g
  have hAl := mapOk_cells h1
  have hBl := mapOk_cells h2
  have hmf1 := h1
  have hmf2 := h2
  simp only [mapOk, Bool.and_eq_true, decide_eq_true_eq] at hmf1 hmf2
  have hAo : ∀ c ∈ cellsX was, ceOk c := cells_ok fun x hx => (mapFrom_mem hmf1.2 x hx).1
  have hBo : ∀ c ∈ cellsX l, ceOk c := cells_ok fun x hx => (mapFrom_mem hmf2.2 x hx).1
  simp [F_r11_kept, D45, b1, b2, h1, h2]
  obtain ⟨A, hA⟩ : ∃ A, A = cellsX was := ⟨_, rfl⟩
  obtain ⟨B, hB⟩ : ∃ B, B = cellsX l := ⟨_, rfl⟩
  rw [← hA] at hAl hAo hke
  rw [← hB] at hBl hBo hke
  refine wp_loop (RKeptI n A B g) n.toNat (IW.of ⟨0, by omega, by simp [keptC], by simp, by simp, by simp [hA], by simp [hB], by simp⟩) fun k s m ⟨i, hik, hkc, s0, s3, s9, s10, s11⟩ => ?_
  by_cases hi : (i : Int) < n
  · have w1 := IntWalk.i64_in ((i : Int) + 1) (by omega)
    obtain ⟨a, ha⟩ : ∃ a, A[i]? = some a := ⟨_, List.getElem?_eq_getElem (by omega)⟩
    obtain ⟨b, hb⟩ : ∃ b, B[i]? = some b := ⟨_, List.getElem?_eq_getElem (by omega)⟩
    have hao := hAo a (List.mem_of_getElem? ha)
    have hbo := hBo b (List.mem_of_getElem? hb)
    have a1 := ceV_length hao.1
    have a2 := ceV_take hao.1
    have a3 := ceV_ints a hao
    have b3 := ceV_length hbo.1
    have b4 := ceV_take hbo.1
    have b5 := ceV_ints b hbo
    have b6 := ceV_gen b
    have b7 : ∀ h, (ceV b)[1]'h = .val (.int .i64 b.gen) := fun _ => rfl
    have hs := keptC_succ i A B g
    rw [hkc, List.getD_eq_getElem?_getD, List.getD_eq_getElem?_getD, ha, hb] at hs
    simp only [Option.getD_some, Bool.true_and] at hs
    have hin : i < n.toNat := by omega
    by_cases hg : b.gen ≤ g
    · by_cases hab : a = b
      · have e : keptC (i + 1) A B g = true := by rw [hs]; simp [hab]
        simp [F_r11_kept_L0, D45, s0, s3, s9, s10, s11, hi, ha, hb, hg, a1, a2, a3, b3, b4, b5, b6, b7, ceI_inj, hab, w1]
        exact ⟨k - 1, by omega, IW.of (show RKeptI n A B g _ _ _ from ⟨i + 1, by omega, e, by simpa using s0, by simpa using s3, by simpa using s9, by simpa using s10, by simp⟩)⟩
      · have e : keptC n.toNat A B g = false := keptC_stop hin (by rw [hs]; simp [hab, hg])
        rw [e] at hke
        simp [F_r11_kept_L0, D45, s0, s3, s9, s10, s11, hi, ha, hb, hg, a1, a2, a3, b3, b4, b5, b6, b7, ceI_inj, hab, hke]
    · have e : keptC (i + 1) A B g = true := by rw [hs]; simp [hg]
      simp [F_r11_kept_L0, D45, s0, s3, s9, s10, s11, hi, ha, hb, hg, b3, b6, b7, w1]
      exact ⟨k - 1, by omega, IW.of (show RKeptI n A B g _ _ _ from ⟨i + 1, by omega, e, by simpa using s0, by simpa using s3, by simpa using s9, by simpa using s10, by simp⟩)⟩
  · have hin : i = n.toNat := by omega
    rw [hin] at hkc
    rw [hkc] at hke
    simp [F_r11_kept_L0, F_r11_kept, D45, s0, s3, s9, s10, s11, hi, hke]

@[simp] def sp_rupto (n : Int) (l : List Xt) (g : Int) : Option (V × List Tip) := if l.length ≤ 2 ^ 40 then some (enc (uptoOk n l g), []) else none
@[simp] def sp_rkept (n : Int) (a b : List Xt) (g : Int) : Option (V × List Tip) := if a.length ≤ 2 ^ 40 ∧ b.length ≤ 2 ^ 40 ∧ mapOk n a = true ∧ mapOk n b = true then some (enc (keptX a b g), []) else none
def D46 : Orc := (Orc.nil.add n_r11_upto (sp3 sp_rupto)).add n_r11_kept (sp4 sp_rkept)
theorem D46_ok : OOk Try.prog D46 := by
  refine (OOk.nil.add (sp3_ok fun n l g r h => ?_)).add (sp4_ok fun n a b g r h => ?_)
  · simp only [sp_rupto] at h
    split at h <;> cases h
    exact c_r11_upto n l g (by assumption)
  · simp only [sp_rkept] at h
    split at h <;> cases h
    rename_i h
    exact c_r11_kept n a b g h.1 h.2.1 h.2.2.1 h.2.2.2
theorem keptX_nil (l : List Xt) (g : Int) : keptX [] l g = true := by simp [keptX]
theorem upto_map {n : Int} {l : List Xt} {g : Int} (h : uptoOk n l g = true) : mapOk n l = true := by
  simp only [uptoOk, Bool.and_eq_true] at h
  exact h.1
def RCheckI (q : Sta) (k : Nat) (s : Nat → V) (m : Mem) : Prop :=
  ∃ (i o : Nat) (w : Pt), i + k = q.pts.length ∧ s 1 = .ptr o 0 ∧ s 4 = .val (.int .i64 w.id) ∧ s 5 = .val (.int .i64 w.gen) ∧ s 6 = .val (.int .i64 i) ∧ m.boxes[o]? = some (cs q) ∧
    (i = 0 → w = Pt.zero) ∧ (0 < i → q.pts[i - 1]? = some w ∧ mapOk q.blocks w.map = true) ∧ ptsOk q Pt.zero q.pts = ptsOk q w (q.pts.drop i) ∧ lastPt Pt.zero q.pts = lastPt w (q.pts.drop i)
set_option maxHeartbeats 1000000 in
set_option maxRecDepth 8000 in
theorem c_r11_Check (q : Sta) (hq : staLen q) : Pure Try.prog n_r11_Check [enc q] (enc (staE q)) [] := by
  obtain ⟨hq1, hq2, hq3, hq4⟩ := hq
  have b1 : q.map.length ≤ 1099511627776 := by omega
  refine Pure.ofC D46_ok hm F_r11_Check_ok (by simp [F_r11_Check]) rfl ?_
  have e4 : ((4 : Int) < q.pts.length) ↔ ¬ q.pts.length ≤ 4 := by omega
  have e5 : ((4000 : Int) < q.staged.length) ↔ ¬ q.staged.length ≤ 4000 := by omega
  cases hmay : staMay q with
  | false =>
    have e : staE q = 110 := by simp [staE, staOk, hmay]
    by_cases c1 : ¬ uptoOk q.blocks q.map q.gen = true
    · simp [F_r11_Check, D46, b1, c1, e]
    replace c1 := Decidable.not_not.1 c1
    by_cases c2 : q.gen < 1
    · simp [F_r11_Check, D46, b1, c1, c2, e]
    by_cases c3 : 2147483648 ≤ q.gen
    · simp [F_r11_Check, D46, b1, c1, c2, c3, e]
    by_cases c4 : ¬ q.pts.length ≤ 4
    · simp [F_r11_Check, D46, b1, e4, c1, c2, c3, c4, e]
    replace c4 := Decidable.not_not.1 c4
    by_cases c5 : q.last < 0
    · simp [F_r11_Check, D46, b1, e4, c1, c2, c3, c4, c5, e]
    by_cases c6 : 2147483648 ≤ q.last
    · simp [F_r11_Check, D46, b1, e4, c1, c2, c3, c4, c5, c6, e]
    by_cases c7 : ¬ q.staged.length ≤ 4000
    · simp [F_r11_Check, D46, b1, e4, e5, c1, c2, c3, c4, c5, c6, c7, e]
    exfalso
    replace c7 := Decidable.not_not.1 c7
    simp [staMay, c1, c4, c7] at hmay
    omega
  | true =>
    have hmay' := hmay
    simp only [staMay, Bool.and_eq_true, decide_eq_true_eq] at hmay'
    obtain ⟨⟨⟨⟨c1, c2⟩, c4⟩, c5⟩, c7⟩ := hmay'
    have d2 : ¬ q.gen < 1 := by omega
    have d3 : ¬ 2147483648 ≤ q.gen := by omega
    have d5 : ¬ q.last < 0 := by omega
    have d6 : ¬ 2147483648 ≤ q.last := by omega
    have hqm := upto_map c1
    have hso : staOk q = (ptsOk q Pt.zero q.pts && keptX (lastPt Pt.zero q.pts).map q.map (lastPt Pt.zero q.pts).gen) := by rw [staOk, hmay, Bool.true_and]
    simp [F_r11_Check, D46, b1, e4, e5, c1, d2, d3, c4, d5, d6, c7]
    refine wp_loop (RCheckI q) q.pts.length (IW.of ⟨0, 0, Pt.zero, by omega, by simp, by simp [Pt.zero], by simp [Pt.zero], by simp, by simp, fun _ => rfl, fun h => absurd h (by omega), by simp, by simp⟩) fun k s m ⟨i, o, w, hik, h1, h4, h5, h6, ho, hi0, hi1, hpts, hlast⟩ => ?_
    have hol : o < m.boxes.length := lt_of_some ho
    have f1 : ∀ (b : List (List V)), (m.boxes ++ b)[o]? = m.boxes[o]? := fun b => List.getElem?_append_left hol
    simp only [cs_sta] at ho
    by_cases hi : i < q.pts.length
    · have hg : q.pts[i]? = some q.pts[i] := List.getElem?_eq_getElem hi
      have w1 := IntWalk.i64_in ((i : Int) + 1) (by omega)
      have hpl := hq3 q.pts[i] (List.getElem_mem hi)
      rw [List.drop_eq_getElem_cons hi, ptsOk] at hpts
      rw [List.drop_eq_getElem_cons hi, lastPt] at hlast
      obtain ⟨p, hpe⟩ : ∃ p, p = q.pts[i] := ⟨_, rfl⟩
      rw [← hpe] at hpts hlast hpl
      have b3 : p.map.length ≤ 1099511627776 := by omega
      by_cases hall : uptoOk q.blocks p.map p.gen = true ∧ w.id < p.id ∧ p.id ≤ q.last ∧ w.gen < p.gen ∧ p.gen < q.gen
      · obtain ⟨u1, u2, u3, u4, u5⟩ := hall
        have n2 : ¬ p.id ≤ w.id := by omega
        have n3 : ¬ q.last < p.id := by omega
        have n4 : ¬ p.gen ≤ w.gen := by omega
        have n5 : ¬ q.gen ≤ p.gen := by omega
        have hpm := upto_map u1
        have hpt : ptOk q w p = keptX w.map p.map w.gen := by simp [ptOk, u1, u2, u3, u4, u5]
        have leaf : ∀ (s' : Nat → V) (m' : Mem), keptX w.map p.map w.gen = true → s' 1 = .ptr o 0 → s' 4 = .val (.int .i64 p.id) → s' 5 = .val (.int .i64 p.gen) → s' 6 = .val (.int .i64 ((i : Int) + 1)) → m'.boxes[o]? = some (cs q) → ∃ j, j < k ∧ IW (RCheckI q j) s' m' := by
          intro s' m' k0 k1 k4 k5 k6 ko
          refine ⟨k - 1, by omega, IW.of (show RCheckI q _ _ _ from ⟨i + 1, o, p, by omega, k1, k4, k5, by simpa using k6, ko, fun h => absurd h (by omega), fun _ => ⟨by simp [hg, hpe], hpm⟩, ?_, hlast⟩)⟩
          rw [hpts, hpt, k0, Bool.true_and]
        by_cases h00 : i = 0
        · have hw := hi0 h00
          have h0i : ¬ (0 : Int) < i := by omega
          have h0k : ¬ 0 < i := by omega
          have hk : keptX w.map p.map w.gen = true := by rw [hw]; exact keptX_nil _ _
          simp [F_r11_Check_L0, D46, h1, h4, h5, h6, hi, hg, ← hpe, f1, ho, b3, u1, n2, n3, n4, n5, h0i, h0k, w1]
          exact leaf _ _ hk (by simpa using h1) (by simp) (by simp) (by simp) (by simpa [f1] using ho)
        · have h0i : (0 : Int) < i := by omega
          have h0k : 0 < i := by omega
          obtain ⟨hgw, hwm⟩ := hi1 (by omega)
          have w3 := IntWalk.i64_in ((i : Int) - 1) (by omega)
          have w4 : ((i : Int) - 1).toNat = i - 1 := by omega
          have w5 : (0 : Int) ≤ (i : Int) - 1 := by omega
          have w6 : (1 : Int) ≤ (i : Int) := by omega
          have hwl := hq3 w (List.mem_of_getElem? hgw)
          have b4 : w.map.length ≤ 1099511627776 := by omega
          cases hk : keptX w.map p.map w.gen with
          | true =>
            simp [F_r11_Check_L0, D46, h1, h4, h5, h6, hi, hg, ← hpe, f1, ho, b3, b4, u1, n2, n3, n4, n5, h0i, h0k, h00, w1, w3, w4, w5, w6, hgw, hwm, hpm, hk]
            exact leaf _ _ hk (by simpa using h1) (by simp) (by simp) (by simp) (by simpa [f1] using ho)
          | false =>
            have e : staE q = 110 := by simp [staE, hso, hpts, hpt, hk]
            simp [F_r11_Check_L0, D46, h1, h4, h5, h6, hi, hg, ← hpe, f1, ho, b3, b4, u1, n2, n3, n4, n5, h0i, h0k, h00, w1, w3, w4, w5, w6, hgw, hwm, hpm, hk, e]
      · have hpo : ptOk q w p = false := by
          cases h : ptOk q w p with
          | false => rfl
          | true =>
            simp only [ptOk, Bool.and_eq_true, decide_eq_true_eq] at h
            exact absurd ⟨h.1.1.1.1.1, h.1.1.1.1.2, h.1.1.1.2, h.1.1.2, h.1.2⟩ hall
        have e : staE q = 110 := by simp [staE, hso, hpts, hpo]
        by_cases u1 : ¬ uptoOk q.blocks p.map p.gen = true
        · simp [F_r11_Check_L0, D46, h1, h4, h5, h6, hi, hg, ← hpe, f1, ho, b3, u1, e]
        replace u1 := Decidable.not_not.1 u1
        by_cases u2 : p.id ≤ w.id
        · simp [F_r11_Check_L0, D46, h1, h4, h5, h6, hi, hg, ← hpe, f1, ho, b3, u1, u2, e]
        by_cases u3 : q.last < p.id
        · simp [F_r11_Check_L0, D46, h1, h4, h5, h6, hi, hg, ← hpe, f1, ho, b3, u1, u2, u3, e]
        by_cases u4 : p.gen ≤ w.gen
        · simp [F_r11_Check_L0, D46, h1, h4, h5, h6, hi, hg, ← hpe, f1, ho, b3, u1, u2, u3, u4, e]
        by_cases u5 : q.gen ≤ p.gen
        · simp [F_r11_Check_L0, D46, h1, h4, h5, h6, hi, hg, ← hpe, f1, ho, b3, u1, u2, u3, u4, u5, e]
        exact absurd ⟨u1, by omega, by omega, by omega, by omega⟩ hall
    · have hil : i = q.pts.length := by omega
      rw [hil, List.drop_length] at hpts hlast
      simp only [ptsOk, lastPt] at hpts hlast
      rw [hpts, hlast, Bool.true_and] at hso
      by_cases h00 : i = 0
      · have hw := hi0 h00
        have h0i : ¬ (0 : Int) < q.pts.length := by omega
        have hpn : q.pts = [] := List.length_eq_zero_iff.1 (by omega)
        rw [hw] at hso
        have e : staE q = 0 := by
          rw [staE, hso, if_pos]
          exact keptX_nil _ _
        simp [F_r11_Check_L0, F_r11_Check, D46, h1, h4, h5, h6, hi, ho, hpn, e]
      · obtain ⟨hgw, hwm⟩ := hi1 (by omega)
        rw [hil] at hgw
        have h0i : (0 : Int) < q.pts.length := by omega
        have h0n : 0 < q.pts.length := by omega
        have w3 := IntWalk.i64_in ((q.pts.length : Int) - 1) (by omega)
        have w4 : ((q.pts.length : Int) - 1).toNat = q.pts.length - 1 := by omega
        have w5 : (0 : Int) ≤ (q.pts.length : Int) - 1 := by omega
        have w6 : (1 : Int) ≤ (q.pts.length : Int) := by omega
        have hwl := hq3 w (List.mem_of_getElem? hgw)
        have b4 : w.map.length ≤ 1099511627776 := by omega
        cases hk : keptX w.map q.map w.gen with
        | true =>
          have e : staE q = 0 := by simp [staE, hso, hk]
          simp [F_r11_Check_L0, F_r11_Check, D46, h1, h4, h5, h6, hi, ho, h0i, h0n, w3, w4, w5, w6, hgw, hwm, hqm, b1, b4, hk, e]
        | false =>
          have e : staE q = 110 := by simp [staE, hso, hk]
          simp [F_r11_Check_L0, F_r11_Check, D46, h1, h4, h5, h6, hi, ho, h0i, h0n, w3, w4, w5, w6, hgw, hwm, hqm, b1, b4, hk, e]
end Go.Av
