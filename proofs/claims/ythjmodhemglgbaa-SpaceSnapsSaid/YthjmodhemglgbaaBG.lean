/-
  DvVl: Contracts of package change: a change's bytes.
  DvVm: Contracts: a state behind a change.
  DvVn: Contracts: what changes do to a state: apply; a state behind any change.
  DvVo: Contracts: a state behind any change: what it is, and its error.
  DvVp: Contract: state.Do.
  SnP: Numbers and compact codes of functions.
  ToHa: Contracts of the laws' own functions: small states.
  DvVq: Contracts: few changes; what a snapshot, and a change, take, for any blocks.
  SnZ: Contracts of package snap: what is read: its closures.
  ToA: Contracts of package snap: what is read: numbers, and maps.
  ToB: Contracts of package snap: what is read: a map.
  ToC: Contracts of package snap: Read.
  ToFa: Contracts: slices.Backward.
  ToD: Contracts: slices.Chunk, snap.parts, snap.Records.
  ToE: Contracts: snap.Records.
  DvVr: The plain law: how many bytes, and records, a snapshot has, and a change that fits.
  DvVs: The law SpaceSnaps: the function's contract.
  AvOp: Arguments, as a row reads them, as plain values of Lean; behind the call they read as they did.
  SnOp: What the rows hand in: numbers, and bytes.
  ToPa: What the rows hand in, as plain values: extents, checkpoints, states.
  DvVt: What the row hands in: a change.
-/
import Derived.Test.YthjmodhemglgbaaBF
import Derived.Test.YthjmodhemglgbaaRows
import Derived.Deep.Slices
import Derived.ChangeSame
import Derived.Carry
import Derived.OpenShut
set_option linter.unusedSimpArgs false
set_option linter.unusedVariables false

namespace Go.Av
open Enc (enc dec)
open Cel (cs dc)
open Go.Proofs Pl

theorem f_bbbwh : formOk ⟨#[98, 98, 98, 119, 104]⟩ = true := by decide
def hdC (c : Ch) : List UInt8 := leB c.kind.toNat 1 ++ (leB c.lba.toNat 1 ++ (leB c.n.toNat 1 ++ (leB c.id.toNat 4 ++ leB c.data.length 2)))
theorem hdC_length (c : Ch) : (hdC c).length = 9 := by simp [hdC, leB_length]
structure ChFine (c : Ch) : Prop where
  k : 1 ≤ c.kind ∧ c.kind ≤ 8
  l : 0 ≤ c.lba ∧ c.lba ≤ 64
  n : 0 ≤ c.n ∧ c.n ≤ 64
  i : 0 ≤ c.id ∧ c.id ≤ 2147483647
  d : c.data.length ≤ 2048
  f : c.list = [] ∨ (c.kind = 8 ∧ folX c.list = true)
theorem chOk_fine {c : Ch} (h : chOk c = true) : ChFine c := by
  simp only [chOk, Bool.and_eq_true, Bool.or_eq_true, decide_eq_true_eq] at h
  obtain ⟨hk, ⟨⟨hb, hi⟩, hd⟩, hf⟩ := h
  have hb' : 0 ≤ c.lba ∧ c.lba ≤ 64 ∧ 0 ≤ c.n ∧ c.n ≤ 64 := by
    unfold chBs at hb
    split at hb
    · simp only [decide_eq_true_eq] at hb; omega
    · simp only [decide_eq_true_eq] at hb; omega
  refine ⟨hk, ⟨hb'.1, hb'.2.1⟩, hb'.2.2, ?_, ?_, ?_⟩
  · unfold chIs at hi
    split at hi
    · simp only [decide_eq_true_eq] at hi; omega
    · simp only [decide_eq_true_eq] at hi; omega
  · unfold chD at hd
    split at hd
    · simp only [decide_eq_true_eq] at hd; omega
    · split at hd
      · simp only [decide_eq_true_eq] at hd; omega
      · simp only [decide_eq_true_eq] at hd; omega
  · rcases hf with hf | hf
    · exact .inl (List.length_eq_zero_iff.1 hf)
    · exact .inr hf
theorem folG_all : ∀ {l : List Xt} {a : Int}, folG a l = true → l.all extOk = true
  | [], _, _ => rfl
  | x :: l, a, h => by
    simp only [folG, Bool.and_eq_true] at h
    simp only [List.all_cons, h.1.1, folG_all h.2, Bool.and_self]
theorem folX_wr {l : List Xt} (h : folX l = true) : wrOk l = true := by
  simp only [folX, Bool.and_eq_true, decide_eq_true_eq] at h
  simp only [wrOk, Bool.and_eq_true, decide_eq_true_eq]
  exact ⟨h.2, folG_all h.1⟩
theorem pack_ch {c : Ch} (h : ChFine c) : packS [98, 98, 98, 119, 104] [c.kind.toNat, c.lba.toNat, c.n.toNat, c.id.toNat, c.data.length] = some (hdC c) := by
  obtain ⟨k, l, n, i, d, f⟩ := h
  have m1 : mayB c.kind.toNat 1 = true := by simp [mayB]; omega
  have m2 : mayB c.lba.toNat 1 = true := by simp [mayB]; omega
  have m3 : mayB c.n.toNat 1 = true := by simp [mayB]; omega
  have m4 : mayB c.id.toNat 4 = true := by simp [mayB]; omega
  have m5 : mayB c.data.length 2 = true := by simp [mayB]; omega
  simp [packS, sizeL, m1, m2, m3, m4, m5, hdC]
theorem wrB_len {l : List Xt} (h : wrOk l = true) : (wrB l).length ≤ 140000 := by
  simp only [wrOk, Bool.and_eq_true, decide_eq_true_eq] at h
  have key : ∀ l : List Xt, l.all extOk = true → (l.flatMap wr1).length ≤ 2055 * l.length := by
    intro l
    induction l with
    | nil => intro _; simp
    | cons x l ih =>
      intro h
      simp only [List.all_cons, Bool.and_eq_true] at h
      have h1 := wr1_length h.1
      have h2 := ih h.2
      rw [List.flatMap_cons, List.length_append, List.length_cons]
      omega
  have := key l h.2
  simp only [wrB, List.length_cons]
  omega
/-- A change's bytes. -/
def chW (c : Ch) : List UInt8 := if chOk c = true then hdC c ++ (c.data ++ (if c.kind = 8 then wrB c.list else [])) else []
def chE (c : Ch) : Int := if chOk c = true then 0 else 100
def DvlO : Orc := ((Orc.nil.add n_change_Check (sp1 fun c : Ch => if c.list.length ≤ 2 ^ 40 then some (enc (chOk c), []) else none)).add n_le_Pack (sp2 sp_pack)).add n_extent_Write (sp1 fun l : List Xt => if l.length ≤ 2 ^ 20 then some (.tuple [.row 0 1 ((writeB l).map cs), enc (writeE l)], [(5, 1, (writeB l).length)]) else none)
theorem sp_chCheck_ok : EOk Try.prog n_change_Check (sp1 fun c : Ch => if c.list.length ≤ 2 ^ 40 then some (enc (chOk c), []) else none) := sp1_ok fun c r h => by
  split at h <;> cases h
  exact c_ch_Check c (by assumption)
theorem DvlO_ok : OOk Try.prog DvlO := (((OOk.nil.add sp_chCheck_ok)).add sp_pack_ok).add (sp1_ok fun l r h => by
  split at h <;> cases h
  exact c_ext_Write l (by assumption))
theorem c_ch_Write (c : Ch) (hl : c.list.length ≤ 2 ^ 40) : Pure Try.prog n_change_Write [enc c] (.tuple [.row 0 1 ((chW c).map cs), enc (chE c)]) [(5, 1, (chW c).length)] := by
  refine Pure.ofR DvlO_ok hm F_change_Write_ok (by simp [F_change_Write]) (by simp [V.res, V.res1]) ?_
  simp only [Nat.reducePow] at hl
  obtain ⟨k, lba, n, id, data, list⟩ := c
  simp only at hl
  cases hok : chOk ⟨k, lba, n, id, data, list⟩ with
  | false => simp [F_change_Write, DvlO, hl, hok, chW, chE]
  | true =>
    have hf := chOk_fine hok
    have hp := pack_ch hf
    have h9 := hdC_length ⟨k, lba, n, id, data, list⟩
    obtain ⟨f1, f2, f3, f4, f5, f6⟩ := hf
    simp only at f1 f2 f3 f4 f5 f6 hp
    have w1 := IntWalk.u64_in k (by omega)
    have w2 := IntWalk.u64_in lba (by omega)
    have w3 := IntWalk.u64_in n (by omega)
    have w4 := IntWalk.u64_in id (by omega)
    have w5 := IntWalk.u64_in (data.length : Int) (by omega)
    have hb1 : packB [98, 98, 98, 119, 104] [k.toNat, lba.toNat, n.toNat, id.toNat, data.length] = hdC ⟨k, lba, n, id, data, list⟩ := by simp [packB, hp]
    have hb2 : packE [98, 98, 98, 119, 104] [k.toNat, lba.toNat, n.toNat, id.toNat, data.length] = 0 := by simp [packE, hp]
    by_cases h8 : k = 8
    · subst h8
      have hw : wrOk list = true := by
        rcases f6 with f6 | f6
        · subst f6; rfl
        · exact folX_wr f6.2
      have hw1 : writeB list = wrB list := by simp [writeB, hw]
      have hw2 : writeE list = 0 := by simp [writeE, hw]
      have hwl : list.length ≤ 64 := by simp only [wrOk, Bool.and_eq_true, decide_eq_true_eq] at hw; exact hw.1
      have hl20 : list.length ≤ 1048576 := by omega
      have hwB := wrB_len hw
      simp at hb1 hb2
      simp [F_change_Write, DvlO, hl, hok, chW, chE, f_bbbwh, w1, w2, w3, w4, w5, hb1, hb2, hw1, hw2, hl20]
      exact ⟨by omega, by omega, by omega, by omega, by omega⟩
    · simp [F_change_Write, DvlO, hl, hok, chW, chE, f_bbbwh, w1, w2, w3, w4, w5, hb1, hb2, h8]
      omega
end Go.Av

namespace Go.Av
open Enc (enc dec)
open Cel (cs dc)
open Go.Proofs Pl

def doesS : List (Int × V) := mpPut (mpPut (mpPut (mpPut (mpPut (mpPut (mpPut (mpPut [] 1 (.func n_volume_write [])) 2 (.func n_volume_zero [])) 3 (.func n_volume_trim [])) 4 (.func n_volume_point [])) 5 (.func n_volume_drop [])) 6 (.func n_volume_stage [])) 7 (.func n_volume_abort [])) 8 (.func n_volume_apply [])
def sp_doesS : List V → Mem → Option (V × Mem)
  | [], m => some (.ref .map m.boxes.length, ⟨m.boxes ++ [mpV doesS], m.tips⟩)
  | _, _ => none
set_option maxRecDepth 4000 in
theorem sp_doesS_ok : EOkL Try.prog n_state_does sp_doesS := by
  intro args m v m' h
  unfold sp_doesS at h
  split at h
  · cases h
    refine Loc.ofX OOk.nil hm F_state_does_ok (by simp [F_state_does]) ?_
    simp [F_state_does, doesS]
  · cases h
def sp_Copy : List V → Mem → Option (V × Mem)
  | [v], m => (dec v : Option Sta).bind fun q => if staOk q = true then some (.agg (cpC q m.tips.length (m.boxes.length + 2)), cpM q m) else none
  | _, _ => none
theorem sp_Copy_ok : EOkL Try.prog n_state_Copy sp_Copy := by
  intro args m v m' h
  unfold sp_Copy at h
  split at h
  · simp only [Option.bind_eq_some_iff] at h
    obtain ⟨q, hq, h⟩ := h
    split at h
    · rename_i hok
      cases h
      exact (c_Copy q m hok).wk (wk_dec wk_nil hq)
    · cases h
  · cases h
/-- One call, at one memory. -/
noncomputable def spAt (A : List V) (M0 : Mem) (r : V) (M1 : Mem) : List V → Mem → Option (V × Mem) := fun a m => by
  classical exact if a = A ∧ m = M0 then some (r, M1) else none
theorem spAt_eq (A : List V) (M0 : Mem) (r : V) (M1 : Mem) : spAt A M0 r M1 A M0 = some (r, M1) := if_pos ⟨rfl, rfl⟩
theorem spW {A a : List V} {M0 m M1 : Mem} {r : V} {F : V → Mem → Prop} (ha : a = A) (h0 : m = M0) (h : F r M1) : goWp (spAt A M0 r M1 a m) F := by
  subst ha h0
  rw [spAt_eq]
  exact h
theorem spAt_ok {P : Program} {f : FuncId} {A : List V} {M0 : Mem} {r : V} {M1 : Mem} (h : Loc P f A M0 r M1) : EOkL P f (spAt A M0 r M1) := by
  intro args m v m' hh
  unfold spAt at hh
  split at hh
  · rename_i hc
    obtain ⟨rfl, rfl⟩ := hc
    cases hh
    exact h
  · cases hh
def zeroSta : List V := [.val (.int .i64 0), .val (.int .i64 0), .lit 5 [], .lit 3 [], .val (.int .i64 0), .lit 1 []]
/-- The box of the state that is changed. -/
def boxV (q : Sta) : Nat := if q.pts = [] then 5 else 6
def memV (q : Sta) (c : Ch) : Mem := ⟨[cs q, cs c, zeroSta, cpC q 0 5, cpC q 0 5] ++ (if q.pts = [] then [] else [(q.pts.map cs).flatten]) ++ [cpC q 0 5, mpV doesS], [(174, 5, q.map.length), (5, 1, q.staged.length)]⟩
noncomputable def DdoO (fid : FuncId) (q : Sta) (c : Ch) (r : V) (M1 : Mem) : Orc := (((((Orc.nil.add n_state_Check (sp1 sp_stCheck)).add n_change_Check (sp1 fun c : Ch => if c.list.length ≤ 2 ^ 40 then some (enc (chOk c), []) else none)).addL n_state_Copy sp_Copy).addL n_state_does sp_doesS).addL fid (spAt [.ptr (boxV q) 0, enc c] (memV q c) r M1))
theorem DdoO_ok {fid : FuncId} {q : Sta} {c : Ch} {r : V} {M1 : Mem} (h : Loc Try.prog fid [.ptr (boxV q) 0, enc c] (memV q c) r M1) : OOk Try.prog (DdoO fid q c r M1) :=
  (((((OOk.nil.add sp_stCheck_ok).add sp_chCheck_ok).addL sp_Copy_ok).addL sp_doesS_ok).addL (spAt_ok h))
@[simp] theorem unref1_val (k : Nat) (m : Mem) (x : Value) : unref1 k m (.val x) = .val x := rfl
@[simp] theorem unref1_row (k : Nat) (m : Mem) (t sz : Nat) (xs : List (List V)) : unref1 k m (.row t sz xs) = .row t sz xs := rfl
@[simp] theorem unref1_full (k : Nat) (m : Mem) (sz : Nat) (xs : List (List V)) : unref1 k m (.full sz xs) = .full sz xs := rfl
theorem pts_top (l : List Pt) : ((l.map cs).flatten).map V.top1 = (l.map cs).flatten := by
  refine Eq.trans (List.map_congr_left (g := id) fun v hv => ?_) (List.map_id _)
  obtain ⟨e, he, hv⟩ := List.mem_flatten.1 hv
  obtain ⟨u, _, rfl⟩ := List.mem_map.1 he
  simp at hv
  rcases hv with rfl | rfl | rfl <;> rfl
theorem unref_pts (m : Mem) (l : List Pt) (b lc n : Nat) (hn : n = l.length) (hb : m.boxes[b]? = some (l.map cs).flatten) : unref1 0 m (.buf 0 3 n lc b) = .lit 3 (l.map cs) := by
  subst hn
  have hck := chunk_cs l
  have hfl := flat_cs l
  simp only [sz_pt] at hck hfl
  have ho : isObj (l.map cs).flatten = false := by
    cases l with
    | nil => rfl
    | cons x l => exact isObj_long (by rw [hfl, List.length_cons]; omega)
  simp only [unref1, hb]
  rw [if_pos ⟨Nat.zero_le _, ho, by omega⟩, List.drop_zero, pts_top, hck]
theorem c_Do0 (q q' : Sta) (c : Ch) (hq : staOk q = true) (hc : chOk c = true) (hl : c.list.length ≤ 2 ^ 40) (fid : FuncId) (hf : ¬ 34 = fid ∧ ¬ 97 = fid ∧ ¬ 98 = fid ∧ ¬ 99 = fid) (hk : mpAt doesS c.kind = some (.func fid [])) (M1 : Mem) (hL : Loc Try.prog fid [.ptr (boxV q) 0, enc c] (memV q c) (.val (.int .i64 0)) M1)
    (b g la : Int) (cm cp ct : V) (hV : M1.boxes[boxV q]? = some (stC b g cm cp la ct)) (h2 : M1.boxes[2]? = some zeroSta) (h1 : cm.one = true ∧ cp.one = true ∧ ct.one = true) (hw : wkL ((stC b g cm cp la ct).map (unref1 0 { M1 with boxes := M1.boxes.set 2 (stC b g cm cp la ct) })) (cs q')) :
    Pure Try.prog n_state_Do [enc q, enc c] (.tuple [enc q', enc (0 : Int)]) [] := by
  refine Pure.ofU (DdoO_ok hL) hm F_state_Do_ok (by simp [F_state_Do]) ?_ (by simp [Enc.cl])
  obtain ⟨q1, q2, q3, q4, q5, q6, q7, q8⟩ := staOk_fine hq
  have e0 : staE q = 0 := by simp [staE, hq]
  have q1l := mapOk_len q1
  have l1 : q.map.length ≤ 1073741824 := by omega
  have l2 : q.pts.length ≤ 1073741824 := by omega
  have l3 : ∀ p ∈ q.pts, p.map.length ≤ 1073741824 := fun p hp => by have := mapOk_len (q8 p hp).1; omega
  have l4 : q.staged.length ≤ 1073741824 := by omega
  simp only [Nat.reducePow] at hl
  obtain ⟨b0, g0, mp, pts, la0, st⟩ := q
  obtain ⟨k, lba, n, id, data, list⟩ := c
  simp only at hq hc hl hk q1 q2 q3 q4 q5 q6 q7 q8 e0 q1l l1 l2 l3 l4
  obtain ⟨hf1, hf2, hf3, hf4⟩ := hf
  by_cases h0 : pts = []
  · subst h0
    simp [F_state_Do, DdoO, e0, l1, l4, hc, hl, hf1, hf2, hf3, hf4, sp_Copy, hq, sp_doesS, cpM, cpC, stC, ptsV, decX, hk, zeroSta]
    refine spW (by simp [boxV]) (by simp [memV, zeroSta, cpC, stC, ptsV]) ?_
    have hV' : M1.boxes[5]? = some [.val (.int .i64 b), .val (.int .i64 g), cm, cp, .val (.int .i64 la), ct] := by simpa [boxV, stC] using hV
    have h2' : M1.boxes[2]? = some zeroSta := h2
    simp only [zeroSta] at h2'
    have hs : ∀ X : List V, (M1.boxes.set 2 X)[2]? = some X := fun X => List.getElem?_set_self (lt_of_some h2)
    simp [hV', h2', hs, h1, unref, unrefA]
    simpa [stC] using hw
  · simp [F_state_Do, DdoO, e0, l1, l2, l4, hc, hl, hf1, hf2, hf3, hf4, sp_Copy, hq, sp_doesS, cpM, cpC, stC, ptsV, decX_map, hk, zeroSta, h0]
    refine ⟨l3, spW (by simp [boxV, h0]) (by simp [memV, zeroSta, cpC, stC, ptsV, h0]) ?_⟩
    have hV' : M1.boxes[6]? = some [.val (.int .i64 b), .val (.int .i64 g), cm, cp, .val (.int .i64 la), ct] := by simpa [boxV, stC, h0] using hV
    have h2' : M1.boxes[2]? = some zeroSta := h2
    simp only [zeroSta] at h2'
    have hs : ∀ X : List V, (M1.boxes.set 2 X)[2]? = some X := fun X => List.getElem?_set_self (lt_of_some h2)
    simp [hV', h2', hs, h1, unref, unrefA]
    simpa [stC] using hw
theorem c_DoE (q : Sta) (c : Ch) (hq : staOk q = true) (hc : chOk c = true) (hl : c.list.length ≤ 2 ^ 40) (fid : FuncId) (hf : ¬ 34 = fid ∧ ¬ 97 = fid ∧ ¬ 98 = fid ∧ ¬ 99 = fid) (hk : mpAt doesS c.kind = some (.func fid [])) (M1 : Mem) (e : Int) (he : ¬ e = 0) (hL : Loc Try.prog fid [.ptr (boxV q) 0, enc c] (memV q c) (.val (.int .i64 e)) M1)
    (hs0 : M1.boxes[0]? = some (cs q)) (h2 : M1.boxes[2]? = some zeroSta) :
    Pure Try.prog n_state_Do [enc q, enc c] (.tuple [enc q, enc e]) [] := by
  refine Pure.ofU (DdoO_ok hL) hm F_state_Do_ok (by simp [F_state_Do]) ?_ (by simp [Enc.cl])
  obtain ⟨q1, q2, q3, q4, q5, q6, q7, q8⟩ := staOk_fine hq
  have e0 : staE q = 0 := by simp [staE, hq]
  have q1l := mapOk_len q1
  have l1 : q.map.length ≤ 1073741824 := by omega
  have l2 : q.pts.length ≤ 1073741824 := by omega
  have l3 : ∀ p ∈ q.pts, p.map.length ≤ 1073741824 := fun p hp => by have := mapOk_len (q8 p hp).1; omega
  have l4 : q.staged.length ≤ 1073741824 := by omega
  simp only [Nat.reducePow] at hl
  obtain ⟨b0, g0, mp, pts, la0, st⟩ := q
  obtain ⟨k, lba, n, id, data, list⟩ := c
  simp only at hq hc hl hk q1 q2 q3 q4 q5 q6 q7 q8 e0 q1l l1 l2 l3 l4
  obtain ⟨hf1, hf2, hf3, hf4⟩ := hf
  simp only [zeroSta] at h2
  have hs0' : M1.boxes[0]? = some [.val (.int .i64 b0), .val (.int .i64 g0), .lit 5 (mp.map cs), .lit 3 (pts.map cs), .val (.int .i64 la0), .lit 1 (st.map cs)] := hs0
  have z2 := lt_of_some h2
  have ha : ∀ ex : List (List V), (M1.boxes ++ ex)[2]? = some [.val (.int .i64 0), .val (.int .i64 0), .lit 5 [], .lit 3 [], .val (.int .i64 0), .lit 1 []] := fun ex => by rw [List.getElem?_append_left z2, h2]
  have hb : ∀ (ex : List (List V)) (X : List V), (M1.boxes ++ ex).set 2 X = M1.boxes.set 2 X ++ ex := fun ex X => List.set_append_left 2 X z2
  have hd : ∀ (ex : List (List V)) (X : List V), (M1.boxes.set 2 X ++ ex)[2]? = some X := fun ex X => by rw [List.getElem?_append_left (by simpa using z2), List.getElem?_set_self z2]
  have hg : ∀ (X x y z : List V), (M1.boxes.set 2 X ++ [x, y, z])[M1.boxes.length + 2]? = some z := fun X x y z => by
    rw [List.getElem?_append_right (by simp)]
    simp
  by_cases h0 : pts = []
  · subst h0
    simp [F_state_Do, DdoO, e0, l1, l4, hc, hl, hf1, hf2, hf3, hf4, sp_Copy, hq, sp_doesS, cpM, cpC, stC, ptsV, decX, hk, zeroSta]
    refine spW (by simp [boxV]) (by simp [memV, zeroSta, cpC, stC, ptsV]) ?_
    simp [hs0', h2, he, decX, hq, hf1, hf2, hf3, hf4, sp_Copy, cpM, cpC, stC, ptsV, ha, hb, hd, unref, unrefA]
  · simp [F_state_Do, DdoO, e0, l1, l2, l4, hc, hl, hf1, hf2, hf3, hf4, sp_Copy, hq, sp_doesS, cpM, cpC, stC, ptsV, decX_map, hk, zeroSta, h0]
    refine ⟨l3, spW (by simp [boxV, h0]) (by simp [memV, zeroSta, cpC, stC, ptsV, h0]) ?_⟩
    simp [hs0', h2, he, decX_map, hq, hf1, hf2, hf3, hf4, sp_Copy, cpM, cpC, stC, ptsV, h0, ha, hb, hd, unref, unrefA, -getElem?_pos]
    rw [unref_pts _ pts _ _ _ rfl (hg _ _ _ _)]
    exact ⟨rfl, rfl⟩
end Go.Av

namespace Go.Av
open Enc (enc dec)
open Cel (cs dc)
open Go.Proofs Pl

/-- Behind the extents, in apply. -/
def apM (m : Mem) (p : Nat) (b g la : Int) (cp ct : V) (R : List Xt) (c : Ch) : Mem := ⟨m.boxes.set p (stC b g (.row m.tips.length 5 (R.map cs)) cp la ct) ++ [cs c], m.tips ++ [(174, 5, R.length)]⟩
theorem c_vapplyA (m : Mem) (p : Nat) (b g la : Int) (cm cp ct : V) (M : List Xt) (c : Ch) (hp : m.boxes[p]? = some (stC b g cm cp la ct)) (hM : dec cm = some M) (hMl : M.length ≤ 2 ^ 40) (hx : xtS c.list) (he : ¬ (layR b M (c.list.map (setG g))).2 = 0) :
    Loc Try.prog n_volume_apply [.ptr p 0, enc c] m (.val (.int .i64 (layR b M (c.list.map (setG g))).2)) { m with boxes := m.boxes ++ [cs c] } := by
  have hpl : p < m.boxes.length := lt_of_some hp
  simp only [Nat.reducePow] at hMl
  obtain ⟨f1, f2, f3, f4, f5, f6, f7⟩ := box_facts hpl
  have hp' : m.boxes[p]? = some [.val (.int .i64 b), .val (.int .i64 g), cm, cp, .val (.int .i64 la), ct] := hp
  refine Loc.ofX (OOk.nil.addL sp_vlay_ok) hm F_volume_apply_ok (by simp [F_volume_apply]) ?_
  simp [F_volume_apply, sp_vlay, decX_map, f1, f2, hp', hM, hMl, hx, he]
theorem c_vapplyB (m m2 : Mem) (p : Nat) (b g la : Int) (cm cp ct : V) (M : List Xt) (c : Ch) (hp : m.boxes[p]? = some (stC b g cm cp la ct)) (hM : dec cm = some M) (hMl : M.length ≤ 2 ^ 40) (hx : xtS c.list) (he : (layR b M (c.list.map (setG g))).2 = 0) (e : Int) (he2 : ¬ e = 0)
    (hpt : Loc Try.prog n_volume_point [.ptr p 0, enc c] (apM m p b g la cp ct (layR b M (c.list.map (setG g))).1 c) (.val (.int .i64 e)) m2) :
    Loc Try.prog n_volume_apply [.ptr p 0, enc c] m (.val (.int .i64 e)) m2 := by
  have hpl : p < m.boxes.length := lt_of_some hp
  simp only [Nat.reducePow] at hMl
  obtain ⟨f1, f2, f3, f4, f5, f6, f7⟩ := box_facts hpl
  have hp' : m.boxes[p]? = some [.val (.int .i64 b), .val (.int .i64 g), cm, cp, .val (.int .i64 la), ct] := hp
  refine Loc.ofX ((OOk.nil.addL sp_vlay_ok).addL (spAt_ok hpt)) hm F_volume_apply_ok (by simp [F_volume_apply]) ?_
  obtain ⟨k, lba, n, id, data, list⟩ := c
  simp only at hx he hpt
  simp [F_volume_apply, sp_vlay, decX_map, f1, f2, hp', hM, hMl, hx, he]
  refine spW (by simp) (by simp [apM, stC]) ?_
  simp [he2]
theorem c_vapplyC (m m2 m3 : Mem) (p : Nat) (b g la : Int) (cm cp ct : V) (M : List Xt) (c : Ch) (hp : m.boxes[p]? = some (stC b g cm cp la ct)) (hM : dec cm = some M) (hMl : M.length ≤ 2 ^ 40) (hx : xtS c.list) (he : (layR b M (c.list.map (setG g))).2 = 0)
    (hpt : Loc Try.prog n_volume_point [.ptr p 0, enc c] (apM m p b g la cp ct (layR b M (c.list.map (setG g))).1 c) (.val (.int .i64 0)) m2) (hc2 : m2.boxes[m.boxes.length]? = some (cs c)) (hab : Loc Try.prog n_volume_abort [.ptr p 0, enc c] m2 (.val (.int .i64 0)) m3) :
    Loc Try.prog n_volume_apply [.ptr p 0, enc c] m (.val (.int .i64 0)) m3 := by
  have hpl : p < m.boxes.length := lt_of_some hp
  simp only [Nat.reducePow] at hMl
  obtain ⟨f1, f2, f3, f4, f5, f6, f7⟩ := box_facts hpl
  have hp' : m.boxes[p]? = some [.val (.int .i64 b), .val (.int .i64 g), cm, cp, .val (.int .i64 la), ct] := hp
  refine Loc.ofX (((OOk.nil.addL sp_vlay_ok).addL (spAt_ok hpt)).addL (spAt_ok hab)) hm F_volume_apply_ok (by simp [F_volume_apply]) ?_
  obtain ⟨k, lba, n, id, data, list⟩ := c
  simp only at hx he hpt
  simp at hc2
  simp [F_volume_apply, sp_vlay, decX_map, f1, f2, hp', hM, hMl, hx, he]
  refine spW (by simp) (by simp [apM, stC]) ?_
  simp [hc2]
  refine spW (by simp) rfl ?_
  simp
end Go.Av

namespace Go.Av.Pl
def pointX (q : Sta) (id : Int) : Sta × Int := if Go.Av.pointE q.gen q.last q.pts.length id = 0 then (⟨q.blocks, q.gen + 1, q.map, q.pts ++ [⟨id, q.gen, q.map⟩], id, q.staged⟩, 0) else (q, Go.Av.pointE q.gen q.last q.pts.length id)
def layS (q : Sta) (over : List Xt) : Sta × Int := if (layR q.blocks q.map (over.map (Go.Av.setG q.gen))).2 = 0 then (⟨q.blocks, q.gen, (layR q.blocks q.map (over.map (Go.Av.setG q.gen))).1, q.pts, q.last, q.staged⟩, 0) else (q, (layR q.blocks q.map (over.map (Go.Av.setG q.gen))).2)
def dropX (q : Sta) (id : Int) : Sta × Int := if idAt q.pts id < 0 then (q, 111) else (⟨q.blocks, q.gen, q.map, q.pts.take (idAt q.pts id).toNat ++ q.pts.drop ((idAt q.pts id).toNat + 1), q.last, q.staged⟩, 0)
def stageX (q : Sta) (d : List UInt8) : Sta × Int := if 4000 < (q.staged.length : Int) + d.length then (q, 113) else (⟨q.blocks, q.gen, q.map, q.pts, q.last, q.staged ++ d⟩, 0)
def abortX (q : Sta) : Sta := ⟨q.blocks, q.gen, q.map, q.pts, q.last, []⟩
def applyX (q : Sta) (c : Ch) : Sta × Int := if (layS q c.list).2 = 0 then (if (pointX (layS q c.list).1 c.id).2 = 0 then (abortX (pointX (layS q c.list).1 c.id).1, 0) else (q, (pointX (layS q c.list).1 c.id).2)) else (q, (layS q c.list).2)
def chX (q : Sta) (c : Ch) : Sta × Int :=
  if c.kind = 1 then layS q [⟨c.lba, c.n, 2, 0, c.data⟩] else if c.kind = 2 then layS q [⟨c.lba, c.n, 1, 0, []⟩] else if c.kind = 3 then layS q [⟨c.lba, c.n, 0, 0, []⟩] else
  if c.kind = 4 then pointX q c.id else if c.kind = 5 then dropX q c.id else if c.kind = 6 then stageX q c.data else if c.kind = 7 then (abortX q, 0) else applyX q c
/-- A state behind a change, and its error. -/
def doX (q : Sta) (c : Ch) : Sta × Int := if staOk q = false then (Sta.zero, 110) else if chOk c = false then (q, 100) else chX q c
end Go.Av.Pl
namespace Go.Av
open Enc (enc dec)
open Cel (cs dc)
open Go.Proofs Pl

theorem memV_p (q : Sta) (c : Ch) : (memV q c).boxes[boxV q]? = some (stC q.blocks q.gen (.row 0 5 (q.map.map cs)) (ptsV q.pts 5) q.last (.row 1 1 (q.staged.map cs))) := by
  by_cases h0 : q.pts = [] <;> simp [memV, boxV, h0, cpC]
theorem memV_0 (q : Sta) (c : Ch) : (memV q c).boxes[0]? = some (cs q) := rfl
theorem memV_2 (q : Sta) (c : Ch) : (memV q c).boxes[2]? = some zeroSta := rfl
theorem memV_5 (q : Sta) (c : Ch) (h0 : q.pts ≠ []) : (memV q c).boxes[5]? = some (q.pts.map cs).flatten := by simp [memV, h0]
theorem memV_t1 (q : Sta) (c : Ch) : (memV q c).tips[1]? = some (5, 1, q.staged.length) := rfl
theorem boxV_ne (q : Sta) : boxV q ≠ 0 ∧ boxV q ≠ 2 ∧ (q.pts ≠ [] → boxV q ≠ 5) := by
  unfold boxV
  split
  · rename_i h; exact ⟨by omega, by omega, fun h' => absurd h h'⟩
  · exact ⟨by omega, by omega, fun _ => by omega⟩
theorem hw_of {M2 : Mem} {b g la : Int} {cp ct : V} {mp : List Xt} {pts : List Pt} {st : List UInt8} {t1 : Nat} (hcp : (pts = [] ∧ cp = .full 3 []) ∨ ∃ n lc w, cp = .buf 0 3 n lc w ∧ n = pts.length ∧ M2.boxes[w]? = some (pts.map cs).flatten) (hct : (∃ t2, ct = .row t2 1 (st.map cs)) ∨ (st = [] ∧ ct = .val (.slice none 0 0))) :
    wkL ((stC b g (.row t1 5 (mp.map cs)) cp la ct).map (unref1 0 M2)) (cs (⟨b, g, mp, pts, la, st⟩ : Sta)) := by
  refine ⟨rfl, rfl, ⟨rfl, rfl⟩, ?_, rfl, ?_, trivial⟩
  · rcases hcp with ⟨rfl, rfl⟩ | ⟨n, lc, w, rfl, hn, hw⟩
    · exact ⟨rfl, rfl⟩
    · rw [unref_pts _ _ _ _ _ hn hw]
      exact ⟨rfl, rfl⟩
  · rcases hct with ⟨t2, rfl⟩ | ⟨rfl, rfl⟩
    · exact ⟨rfl, rfl⟩
    · rfl
theorem pts_hcp {q : Sta} {M2 : Mem} (h5 : q.pts ≠ [] → M2.boxes[5]? = some (q.pts.map cs).flatten) : (q.pts = [] ∧ ptsV q.pts 5 = .full 3 []) ∨ ∃ n lc w, ptsV q.pts 5 = .buf 0 3 n lc w ∧ n = q.pts.length ∧ M2.boxes[w]? = some (q.pts.map cs).flatten := by
  by_cases h0 : q.pts = []
  · exact .inl ⟨h0, by simp [ptsV, h0]⟩
  · exact .inr ⟨q.pts.length, q.pts.length, 5, by simp [ptsV, h0], rfl, h5 h0⟩
theorem ptsV_one (l : List Pt) (k : Nat) : (ptsV l k).one = true := by unfold ptsV; split <;> rfl
/-- Extents that are laid. -/
theorem c_DoLay (q : Sta) (c : Ch) (over : List Xt) (hq : staOk q = true) (hc : chOk c = true) (hl : c.list.length ≤ 2 ^ 40) (fid : FuncId) (hf : ¬ 34 = fid ∧ ¬ 97 = fid ∧ ¬ 98 = fid ∧ ¬ 99 = fid) (hk : mpAt doesS c.kind = some (.func fid []))
    (hL : Loc Try.prog fid [.ptr (boxV q) 0, enc c] (memV q c) (.val (.int .i64 (layR q.blocks q.map (over.map (setG q.gen))).2)) (layM (memV q c) (boxV q) q.blocks q.gen q.last (ptsV q.pts 5) (.row 1 1 (q.staged.map cs)) (layR q.blocks q.map (over.map (setG q.gen))))) :
    Pure Try.prog n_state_Do [enc q, enc c] (.tuple [enc (layS q over).1, enc (layS q over).2]) [] := by
  obtain ⟨n0, n2, n5⟩ := boxV_ne q
  have hp := memV_p q c
  unfold layS
  by_cases he : (layR q.blocks q.map (over.map (setG q.gen))).2 = 0
  · rw [if_pos he]
    rw [he] at hL
    unfold layM at hL
    rw [if_pos he] at hL
    refine c_Do0 q _ c hq hc hl fid hf hk _ hL _ _ _ _ _ _ (List.getElem?_set_self (lt_of_some hp)) ?_ ⟨rfl, ptsV_one _ _, rfl⟩ (hw_of (pts_hcp fun h0 => ?_) (.inl ⟨1, rfl⟩))
    · exact (List.getElem?_set_ne n2).trans (memV_2 q c)
    · show (((memV q c).boxes.set _ _).set 2 _)[5]? = _
      rw [List.getElem?_set_ne (by omega), List.getElem?_set_ne (n5 h0)]
      exact memV_5 q c h0
  · rw [if_neg he]
    unfold layM at hL
    rw [if_neg he] at hL
    exact c_DoE q c hq hc hl fid hf hk _ _ he hL (memV_0 q c) (memV_2 q c)
theorem cntP_pts (l : List Pt) (k : Nat) : cntP (ptsV l k) = some l.length := by
  unfold ptsV
  split
  · rename_i h; subst h; rfl
  · rfl
theorem flat_snoc (l : List Pt) (p : Pt) : ((l ++ [p]).map cs).flatten = (l.map cs).flatten ++ [.val (.int .i64 p.id), .val (.int .i64 p.gen), .lit 5 (p.map.map cs)] := by simp
/-- A checkpoint that is made, in a box of a state's. -/
theorem c_pointAt (m : Mem) (p t : Nat) (q : Sta) (c : Ch) (ct : V) (w : Nat) (hp : m.boxes[p]? = some (stC q.blocks q.gen (.row t 5 (q.map.map cs)) (ptsV q.pts w) q.last ct)) (hw : q.pts ≠ [] → m.boxes[w]? = some (q.pts.map cs).flatten) (hwp : q.pts ≠ [] → w ≠ p) (hg : 0 ≤ q.gen ∧ q.gen ≤ 2147483647) (hm : xtS q.map) (hl : q.pts.length ≤ 2 ^ 20) (he : pointE q.gen q.last q.pts.length c.id = 0) :
    ∃ M1, Loc Try.prog n_volume_point [.ptr p 0, enc c] m (.val (.int .i64 0)) M1 ∧ M1.boxes[p]? = some (stC q.blocks (q.gen + 1) (.row t 5 (q.map.map cs)) (.buf 0 3 (q.pts.length + 1) (q.pts.length + 1) (m.boxes.length + 1)) c.id ct) ∧
      M1.boxes[m.boxes.length + 1]? = some ((q.pts ++ [(⟨c.id, q.gen, q.map⟩ : Pt)]).map cs).flatten ∧ (∀ i, i < m.boxes.length → i ≠ p → (q.pts ≠ [] → i ≠ w) → M1.boxes[i]? = m.boxes[i]?) ∧ M1.tips = m.tips := by
  have hpl := lt_of_some hp
  unfold pointE at he
  have h1 : ¬ c.id ≤ q.last := fun h => by rw [if_pos h] at he; cases he
  rw [if_neg h1] at he
  have h2 : ¬ (q.pts.length = 4 ∨ q.gen = 2147483647) := fun h => by rw [if_pos h] at he; cases he
  by_cases h0 : q.pts = []
  · have hP : ptsV q.pts w = .full 3 [] := by simp [ptsV, h0]
    rw [hP] at hp
    refine ⟨_, c_vpointF m p q.blocks q.gen q.last (.row t 5 (q.map.map cs)) ct q.map c hp (by simp [decX_map]) hm h1 (fun h => h2 (.inr h)) hg.2 hg.1, ?_, ?_, fun i hi hip _ => ?_, rfl⟩
    · show (m.boxes.set p _ ++ _)[p]? = _
      rw [List.getElem?_append_left (by simpa using hpl), List.getElem?_set_self hpl, h0]
      rfl
    · show (m.boxes.set p _ ++ _)[_]? = _
      rw [List.getElem?_append_right (by simp), h0]
      simp
    · show (m.boxes.set p _ ++ _)[i]? = _
      rw [List.getElem?_append_left (by simpa using hi), List.getElem?_set_ne (Ne.symm hip)]
  · have hP : ptsV q.pts w = .buf 0 3 q.pts.length q.pts.length w := by simp [ptsV, h0]
    rw [hP] at hp
    have hfl := flat_cs q.pts
    simp only [sz_pt] at hfl
    refine ⟨_, c_vpointB m p w q.pts.length q.pts.length q.blocks q.gen q.last (.row t 5 (q.map.map cs)) ct q.map (q.pts.map cs).flatten c hp (hw h0) hfl (isObj_long (by rw [hfl]; have := List.length_pos_iff.2 h0; omega)) hl (hwp h0) (by simp [decX_map]) hm h1 (fun h => h2 (.inl h)) (fun h => h2 (.inr h)) hg.2 hg.1, ?_, ?_, fun i hi hip hiw => ?_, rfl⟩
    · show ((m.boxes.set w deadC).set p _ ++ _)[p]? = _
      rw [List.getElem?_append_left (by simpa using hpl), List.getElem?_set_self (by simpa using hpl)]
    · show ((m.boxes.set w deadC).set p _ ++ _)[_]? = _
      rw [List.getElem?_append_right (by simp), flat_snoc]
      simp
    · show ((m.boxes.set w deadC).set p _ ++ _)[i]? = _
      rw [List.getElem?_append_left (by simpa using hi), List.getElem?_set_ne (Ne.symm hip), List.getElem?_set_ne (Ne.symm (hiw h0))]
theorem doesS_at (k : Int) (fid : FuncId) (h : (k = 1 ∧ fid = n_volume_write) ∨ (k = 2 ∧ fid = n_volume_zero) ∨ (k = 3 ∧ fid = n_volume_trim) ∨ (k = 4 ∧ fid = n_volume_point) ∨ (k = 5 ∧ fid = n_volume_drop) ∨ (k = 6 ∧ fid = n_volume_stage) ∨ (k = 7 ∧ fid = n_volume_abort) ∨ (k = 8 ∧ fid = n_volume_apply)) : mpAt doesS k = some (.func fid []) ∧ (¬ 34 = fid ∧ ¬ 97 = fid ∧ ¬ 98 = fid ∧ ¬ 99 = fid) := by
  rcases h with ⟨rfl, rfl⟩ | ⟨rfl, rfl⟩ | ⟨rfl, rfl⟩ | ⟨rfl, rfl⟩ | ⟨rfl, rfl⟩ | ⟨rfl, rfl⟩ | ⟨rfl, rfl⟩ | ⟨rfl, rfl⟩ <;> simp [doesS]
theorem c_DoPoint (q : Sta) (c : Ch) (hq : staOk q = true) (hc : chOk c = true) (hl : c.list.length ≤ 2 ^ 40) (hk4 : c.kind = 4) : Pure Try.prog n_state_Do [enc q, enc c] (.tuple [enc (pointX q c.id).1, enc (pointX q c.id).2]) [] := by
  obtain ⟨n0, n2, n5⟩ := boxV_ne q
  have hp := memV_p q c
  obtain ⟨hk, hf⟩ := doesS_at c.kind n_volume_point (by simp [hk4])
  obtain ⟨q1, q2, q3, q4, q5, q6, q7, q8⟩ := staOk_fine hq
  have hx := xtS_ok (Nat.le_trans (mapOk_len q1) (by decide)) (mapOk_all q1)
  unfold pointX
  by_cases he : pointE q.gen q.last q.pts.length c.id = 0
  · rw [if_pos he]
    obtain ⟨M1, hL, h1, h2, h3, h4⟩ := c_pointAt (memV q c) (boxV q) 0 q c _ 5 hp (memV_5 q c) (fun h => Ne.symm (n5 h)) ⟨by omega, q3⟩ hx (by omega) he
    have hlen : 6 ≤ (memV q c).boxes.length := by by_cases h0 : q.pts = [] <;> simp [memV, h0]
    refine c_Do0 q _ c hq hc hl _ hf hk M1 hL _ _ _ _ _ _ h1 ((h3 2 (by omega) (Ne.symm n2) (fun _ => by omega)).trans (memV_2 q c)) ⟨rfl, rfl, rfl⟩ (hw_of (.inr ⟨_, _, _, rfl, by simp, ?_⟩) (.inl ⟨1, rfl⟩))
    show (M1.boxes.set 2 _)[_]? = _
    rw [List.getElem?_set_ne (by omega)]
    exact h2
  · rw [if_neg he]
    exact c_DoE q c hq hc hl _ hf hk _ _ he (c_vpointN _ _ _ _ _ _ _ _ _ c hp (cntP_pts _ _) he) (memV_0 q c) (memV_2 q c)
theorem c_DoDrop (q : Sta) (c : Ch) (hq : staOk q = true) (hc : chOk c = true) (hl : c.list.length ≤ 2 ^ 40) (hk5 : c.kind = 5) : Pure Try.prog n_state_Do [enc q, enc c] (.tuple [enc (dropX q c.id).1, enc (dropX q c.id).2]) [] := by
  obtain ⟨n0, n2, n5⟩ := boxV_ne q
  have hp := memV_p q c
  have hpl := lt_of_some hp
  obtain ⟨hk, hf⟩ := doesS_at c.kind n_volume_drop (by simp [hk5])
  obtain ⟨q1, q2, q3, q4, q5, q6, q7, q8⟩ := staOk_fine hq
  have hfl := flat_cs q.pts
  have hck := chunk_cs q.pts
  simp only [sz_pt] at hfl hck
  have hde : decX (chunkV 3 q.pts.length (q.pts.map cs).flatten) = some q.pts := by rw [hck]; exact decX_map _
  have hP : rdP (memV q c) (ptsV q.pts 5) = some q.pts := by
    by_cases h0 : q.pts = []
    · rw [h0]; rfl
    · have e : ptsV q.pts 5 = .buf 0 3 q.pts.length q.pts.length 5 := by simp [ptsV, h0]
      rw [e]
      simp only [rdP, memV_5 q c h0, Option.bind_some]
      rw [if_pos ⟨hfl, by omega⟩, hde]
  unfold dropX
  by_cases hi : idAt q.pts c.id < 0
  · rw [if_pos hi]
    exact c_DoE q c hq hc hl _ hf hk _ 111 (by decide) (c_vdropN _ _ _ _ _ _ _ _ q.pts c hp hP hi) (memV_0 q c) (memV_2 q c)
  · rw [if_neg hi]
    obtain ⟨i, hii⟩ : ∃ i : Nat, idAt q.pts c.id = i := ⟨(idAt q.pts c.id).toNat, by omega⟩
    have hin : i < q.pts.length := by
      unfold idAt at hii
      split at hii
      · rename_i j hj
        have := (List.findIdx?_eq_some_iff_getElem.1 hj).1
        omega
      · omega
    have h0 : q.pts ≠ [] := fun h => by rw [h] at hin; simp at hin
    have e : ptsV q.pts 5 = .buf 0 3 q.pts.length q.pts.length 5 := by simp [ptsV, h0]
    rw [e] at hp
    have hL := c_vdropY (memV q c) (boxV q) 5 q.pts.length q.pts.length i q.blocks q.gen q.last (.row 0 5 (q.map.map cs)) (.row 1 1 (q.staged.map cs)) (q.pts.map cs).flatten q.pts c hp (memV_5 q c h0) hfl (by omega) hde hii hin (Ne.symm (n5 h0))
    have h5l := lt_of_some (memV_5 q c h0)
    have hs : ∀ e ∈ q.pts.map cs, e.length = 3 := fun e he => by obtain ⟨u, _, rfl⟩ := List.mem_map.1 he; rfl
    have hcut : (q.pts.map cs).flatten.take (i * 3) ++ (q.pts.map cs).flatten.drop ((i + 1) * 3) = ((q.pts.take i ++ q.pts.drop (i + 1)).map cs).flatten := by
      rw [← flatten_take hs, ← flatten_drop hs, ← List.map_take, ← List.map_drop, List.map_append, List.flatten_append]
    rw [hcut] at hL
    rw [hii, Int.toNat_natCast]
    refine c_Do0 q _ c hq hc hl _ hf hk _ hL _ _ _ _ _ _ (List.getElem?_set_self (by simpa using hpl)) ?_ ⟨rfl, rfl, rfl⟩ (hw_of (.inr ⟨_, _, _, rfl, ?_, ?_⟩) (.inl ⟨1, rfl⟩))
    · show (((memV q c).boxes.set 5 _).set _ _)[2]? = _
      rw [List.getElem?_set_ne n2, List.getElem?_set_ne (by omega)]
      exact memV_2 q c
    · simp
      omega
    · show ((((memV q c).boxes.set 5 _).set _ _).set 2 _)[5]? = _
      rw [List.getElem?_set_ne (by omega), List.getElem?_set_ne (n5 h0), List.getElem?_set_self h5l]
theorem c_DoStage (q : Sta) (c : Ch) (hq : staOk q = true) (hc : chOk c = true) (hl : c.list.length ≤ 2 ^ 40) (hk6 : c.kind = 6) : Pure Try.prog n_state_Do [enc q, enc c] (.tuple [enc (stageX q c.data).1, enc (stageX q c.data).2]) [] := by
  obtain ⟨n0, n2, n5⟩ := boxV_ne q
  have hp := memV_p q c
  obtain ⟨hk, hf⟩ := doesS_at c.kind n_volume_stage (by simp [hk6])
  obtain ⟨q1, q2, q3, q4, q5, q6, q7, q8⟩ := staOk_fine hq
  have hd := (chOk_fine hc).d
  have hL := c_vstage (memV q c) (boxV q) 1 q.blocks q.gen q.last _ _ q.staged c hp (memV_t1 q c) (by omega) (by omega)
  unfold stageX
  by_cases h1 : 4000 < (q.staged.length : Int) + c.data.length
  · rw [if_pos h1]
    rw [if_pos h1, if_pos h1] at hL
    exact c_DoE q c hq hc hl _ hf hk _ 113 (by decide) hL (memV_0 q c) (memV_2 q c)
  · rw [if_neg h1]
    rw [if_neg h1, if_neg h1] at hL
    refine c_Do0 q _ c hq hc hl _ hf hk _ hL _ _ _ _ _ _ (List.getElem?_set_self (lt_of_some hp)) ((List.getElem?_set_ne n2).trans (memV_2 q c)) ⟨rfl, ptsV_one _ _, rfl⟩ (hw_of (pts_hcp fun h0 => ?_) (.inl ⟨1, rfl⟩))
    show (((memV q c).boxes.set _ _).set 2 _)[5]? = _
    rw [List.getElem?_set_ne (by omega), List.getElem?_set_ne (n5 h0)]
    exact memV_5 q c h0
theorem c_DoAbort (q : Sta) (c : Ch) (hq : staOk q = true) (hc : chOk c = true) (hl : c.list.length ≤ 2 ^ 40) (hk7 : c.kind = 7) : Pure Try.prog n_state_Do [enc q, enc c] (.tuple [enc (abortX q), enc (0 : Int)]) [] := by
  obtain ⟨n0, n2, n5⟩ := boxV_ne q
  have hp := memV_p q c
  obtain ⟨hk, hf⟩ := doesS_at c.kind n_volume_abort (by simp [hk7])
  have hL := c_vabort (memV q c) (boxV q) q.blocks q.gen q.last _ _ _ c hp
  refine c_Do0 q _ c hq hc hl _ hf hk _ hL _ _ _ _ _ _ (List.getElem?_set_self (lt_of_some hp)) ((List.getElem?_set_ne n2).trans (memV_2 q c)) ⟨rfl, ptsV_one _ _, rfl⟩ (hw_of (pts_hcp fun h0 => ?_) (.inr ⟨rfl, rfl⟩))
  show (((memV q c).boxes.set _ _).set 2 _)[5]? = _
  rw [List.getElem?_set_ne (by omega), List.getElem?_set_ne (n5 h0)]
  exact memV_5 q c h0
end Go.Av

namespace Go.Av
open Enc (enc dec)
open Cel (cs dc)
open Go.Proofs Pl

theorem layGo_xtS (n : Int) (l0 : List Xt) (h0 : xtS l0) : ∀ (over out : List Xt), xtS out → xtS (layGo n l0 out over).1
  | [], out, h => h
  | x :: r, out, h => by
    unfold layGo
    by_cases h1 : mapOk n out = false
    · rw [if_pos h1]; exact h0
    · rw [if_neg h1]
      have h1' : mapOk n out = true := by simpa using h1
      by_cases h2 : putOk n out x = true
      · rw [if_pos h2]
        refine layGo_xtS n l0 h0 r _ (xtS_ok ?_ (outsX_ok _ (partsX_ok ?_ _ _)))
        · have a1 := outsX_len (partsX x false out)
          have a2 := partsX_len x false out
          have a3 := mapOk_len h1'
          omega
        · simp only [putOk, Bool.and_eq_true] at h2; exact h2.1
      · rw [if_neg h2]; exact h0
theorem layR_xtS {n : Int} {l : List Xt} (over : List Xt) (h : mapOk n l = true) : xtS (layR n l over).1 := by
  have hx := xtS_ok (Nat.le_trans (mapOk_len h) (by decide)) (mapOk_all h)
  unfold layR
  rw [if_neg (by simp [h])]
  exact layGo_xtS n l hx over l hx
theorem folX_xtS {l : List Xt} (h : folX l = true) : xtS l := by
  have hw := folX_wr h
  simp only [wrOk, Bool.and_eq_true, decide_eq_true_eq, List.all_eq_true] at hw
  exact xtS_ok (Nat.le_trans hw.1 (by decide)) hw.2
theorem c_DoApply (q : Sta) (c : Ch) (hq : staOk q = true) (hc : chOk c = true) (hl : c.list.length ≤ 2 ^ 40) (hk8 : c.kind = 8) : Pure Try.prog n_state_Do [enc q, enc c] (.tuple [enc (applyX q c).1, enc (applyX q c).2]) [] := by
  obtain ⟨n0, n2, n5⟩ := boxV_ne q
  have hp := memV_p q c
  have hpl := lt_of_some hp
  obtain ⟨hk, hf⟩ := doesS_at c.kind n_volume_apply (by simp [hk8])
  obtain ⟨q1, q2, q3, q4, q5, q6, q7, q8⟩ := staOk_fine hq
  have hml := mapOk_len q1
  have hxl : xtS c.list := by
    rcases (chOk_fine hc).f with h | h
    · rw [h]; exact ⟨by simp, fun x hx => by cases hx⟩
    · exact folX_xtS h.2
  have hlen : 6 ≤ (memV q c).boxes.length := by by_cases h0 : q.pts = [] <;> simp [memV, h0]
  have hM : (dec (.row 0 5 (q.map.map cs) : V) : Option (List Xt)) = some q.map := by simp [decX_map]
  unfold applyX
  by_cases he : (layR q.blocks q.map (c.list.map (setG q.gen))).2 = 0
  · have e1 : layS q c.list = (⟨q.blocks, q.gen, (layR q.blocks q.map (c.list.map (setG q.gen))).1, q.pts, q.last, q.staged⟩, 0) := by unfold layS; rw [if_pos he]
    rw [e1, if_pos rfl]
    have hxR := layR_xtS (c.list.map (setG q.gen)) q1
    generalize hR : (layR q.blocks q.map (c.list.map (setG q.gen))).1 = R at *
    have a0 : ∀ i, i < (memV q c).boxes.length → i ≠ boxV q → (apM (memV q c) (boxV q) q.blocks q.gen q.last (ptsV q.pts 5) (.row 1 1 (q.staged.map cs)) R c).boxes[i]? = (memV q c).boxes[i]? := fun i hi hip => by
      show ((memV q c).boxes.set _ _ ++ _)[i]? = _
      rw [List.getElem?_append_left (by simpa using hi), List.getElem?_set_ne (Ne.symm hip)]
    have ap : (apM (memV q c) (boxV q) q.blocks q.gen q.last (ptsV q.pts 5) (.row 1 1 (q.staged.map cs)) R c).boxes[boxV q]? = some (stC q.blocks q.gen (.row 2 5 (R.map cs)) (ptsV q.pts 5) q.last (.row 1 1 (q.staged.map cs))) := by
      show ((memV q c).boxes.set _ _ ++ _)[_]? = _
      rw [List.getElem?_append_left (by simpa using hpl), List.getElem?_set_self hpl]
      rfl
    have ac : (apM (memV q c) (boxV q) q.blocks q.gen q.last (ptsV q.pts 5) (.row 1 1 (q.staged.map cs)) R c).boxes[(memV q c).boxes.length]? = some (cs c) := by
      show ((memV q c).boxes.set _ _ ++ _)[_]? = _
      rw [List.getElem?_append_right (by simp)]
      simp
    have al : (apM (memV q c) (boxV q) q.blocks q.gen q.last (ptsV q.pts 5) (.row 1 1 (q.staged.map cs)) R c).boxes.length = (memV q c).boxes.length + 1 := by simp [apM]
    have a5 : q.pts ≠ [] → (apM (memV q c) (boxV q) q.blocks q.gen q.last (ptsV q.pts 5) (.row 1 1 (q.staged.map cs)) R c).boxes[5]? = some (q.pts.map cs).flatten := fun h0 => (a0 5 (by omega) (Ne.symm (n5 h0))).trans (memV_5 q c h0)
    unfold pointX
    by_cases hpe : pointE q.gen q.last q.pts.length c.id = 0
    · rw [if_pos hpe, if_pos rfl]
      obtain ⟨M1, hL, h1, h2, h3, h4⟩ := c_pointAt (apM (memV q c) (boxV q) q.blocks q.gen q.last (ptsV q.pts 5) (.row 1 1 (q.staged.map cs)) R c) (boxV q) 2 ⟨q.blocks, q.gen, R, q.pts, q.last, q.staged⟩ c _ 5 ap a5 (fun h => Ne.symm (n5 h)) ⟨show 0 ≤ q.gen by omega, q3⟩ hxR (show q.pts.length ≤ 2 ^ 20 by omega) hpe
      have hab := c_vabort M1 (boxV q) q.blocks (q.gen + 1) c.id _ _ _ c h1
      rw [al] at h1 h2 h3 hab
      have hapl := c_vapplyC (memV q c) M1 _ (boxV q) q.blocks q.gen q.last _ _ _ q.map c hp hM (by omega) hxl he (by rw [hR]; exact hL) ((h3 _ (by omega) (by omega) (fun _ => by omega)).trans ac) hab
      have h1l := lt_of_some h1
      refine c_Do0 q _ c hq hc hl _ hf hk _ hapl _ _ _ _ _ _ (List.getElem?_set_self h1l) ?_ ⟨rfl, rfl, rfl⟩ (hw_of (.inr ⟨_, _, _, rfl, by simp, ?_⟩) (.inr ⟨rfl, rfl⟩))
      · show (M1.boxes.set _ _)[2]? = _
        rw [List.getElem?_set_ne n2]
        exact (h3 2 (by omega) (Ne.symm n2) (fun _ => by omega)).trans ((a0 2 (by omega) (Ne.symm n2)).trans (memV_2 q c))
      · show ((M1.boxes.set _ _).set 2 _)[_]? = _
        rw [List.getElem?_set_ne (by omega), List.getElem?_set_ne (by omega)]
        exact h2
    · rw [if_neg hpe, if_neg hpe]
      have hapl := c_vapplyB (memV q c) _ (boxV q) q.blocks q.gen q.last _ _ _ q.map c hp hM (by omega) hxl he _ hpe (by rw [hR]; exact c_vpointN _ _ _ _ _ _ _ _ _ c ap (cntP_pts _ _) hpe)
      exact c_DoE q c hq hc hl _ hf hk _ _ hpe hapl ((a0 0 (by omega) (Ne.symm n0)).trans (memV_0 q c)) ((a0 2 (by omega) (Ne.symm n2)).trans (memV_2 q c))
  · have e1 : layS q c.list = (q, (layR q.blocks q.map (c.list.map (setG q.gen))).2) := by unfold layS; rw [if_neg he]
    rw [e1, if_neg he]
    have hapl := c_vapplyA (memV q c) (boxV q) q.blocks q.gen q.last _ _ _ q.map c hp hM (by omega) hxl he
    exact c_DoE q c hq hc hl _ hf hk _ _ he hapl ((List.getElem?_append_left (by omega)).trans (memV_0 q c)) ((List.getElem?_append_left (by omega)).trans (memV_2 q c))
def DvpO : Orc := ((Orc.nil.add n_state_Check (sp1 sp_stCheck)).add n_change_Check (sp1 fun c : Ch => if c.list.length ≤ 2 ^ 40 then some (enc (chOk c), []) else none)).addL n_state_Copy sp_Copy
theorem DvpO_ok : OOk Try.prog DvpO := ((OOk.nil.add sp_stCheck_ok).add sp_chCheck_ok).addL sp_Copy_ok
theorem c_Do (q : Sta) (c : Ch) (hq : staLen q) (hl : c.list.length ≤ 2 ^ 40) : Pure Try.prog n_state_Do [enc q, enc c] (.tuple [enc (doX q c).1, enc (doX q c).2]) [] := by
  obtain ⟨g1, g2, g3, g4⟩ := hq
  unfold doX
  cases hok : staOk q with
  | false =>
    rw [if_pos rfl]
    have e : staE q = 110 := by simp [staE, hok]
    refine Pure.ofC DvpO_ok hm F_state_Do_ok (by simp [F_state_Do]) (by simp [V.res, V.res1]) ?_
    simp only [Nat.reducePow] at g1 g2 g3 g4
    simp [F_state_Do, DvpO, g1, g2, g4, e, Sta.zero]
    try exact g3
  | true =>
    rw [if_neg (by simp)]
    cases hcok : chOk c with
    | false =>
      rw [if_pos rfl]
      have e : staE q = 0 := by simp [staE, hok]
      refine Pure.ofU DvpO_ok hm F_state_Do_ok (by simp [F_state_Do]) ?_ (by simp [Enc.cl])
      simp only [Nat.reducePow] at g1 g2 g3 g4 hl
      obtain ⟨b0, g0, mp, pts, la0, st⟩ := q
      obtain ⟨k, lba, n, id, data, list⟩ := c
      simp only at hok hcok g1 g2 g3 g4 hl e
      by_cases h0 : pts = []
      · subst h0
        simp [F_state_Do, DvpO, g1, g4, e, hl, hcok, sp_Copy, hok, decX, cpM, cpC, stC, ptsV, unref, unrefA]
      · simp [F_state_Do, DvpO, g1, g2, g4, e, hl, hcok, sp_Copy, hok, decX_map, cpM, cpC, stC, ptsV, unref, unrefA, h0]
        refine ⟨g3, ?_⟩
        rw [unref_pts _ pts _ _ _ rfl rfl]
        exact ⟨rfl, rfl⟩
    | true =>
      rw [if_neg (by simp)]
      have hk := (chOk_fine hcok).k
      unfold chX
      have hd : ∀ x : Int, c.kind = x → (c.kind = 1) = (x = 1) := fun x h => by rw [h]
      by_cases h1 : c.kind = 1
      · rw [if_pos h1]
        obtain ⟨a1, a2⟩ := doesS_at c.kind n_volume_write (by simp [h1])
        obtain ⟨q1, _⟩ := staOk_fine hok
        have hml := mapOk_len q1
        exact c_DoLay q c [⟨c.lba, c.n, 2, 0, c.data⟩] hok hcok hl _ a2 a1 (c_vwrite _ _ _ _ _ _ _ _ q.map c (memV_p q c) (by simp [decX_map]) (by omega) (by have := (chOk_fine hcok).d; omega))
      · rw [if_neg h1]
        by_cases h2 : c.kind = 2
        · rw [if_pos h2]
          obtain ⟨a1, a2⟩ := doesS_at c.kind n_volume_zero (by simp [h2])
          obtain ⟨q1, _⟩ := staOk_fine hok
          have hml := mapOk_len q1
          exact c_DoLay q c [⟨c.lba, c.n, 1, 0, []⟩] hok hcok hl _ a2 a1 (c_vzero _ _ _ _ _ _ _ _ q.map c (memV_p q c) (by simp [decX_map]) (by omega))
        · rw [if_neg h2]
          by_cases h3 : c.kind = 3
          · rw [if_pos h3]
            obtain ⟨a1, a2⟩ := doesS_at c.kind n_volume_trim (by simp [h3])
            obtain ⟨q1, _⟩ := staOk_fine hok
            have hml := mapOk_len q1
            exact c_DoLay q c [⟨c.lba, c.n, 0, 0, []⟩] hok hcok hl _ a2 a1 (c_vtrim _ _ _ _ _ _ _ _ q.map c (memV_p q c) (by simp [decX_map]) (by omega))
          · rw [if_neg h3]
            by_cases h4 : c.kind = 4
            · rw [if_pos h4]; exact c_DoPoint q c hok hcok hl h4
            · rw [if_neg h4]
              by_cases h5 : c.kind = 5
              · rw [if_pos h5]; exact c_DoDrop q c hok hcok hl h5
              · rw [if_neg h5]
                by_cases h6 : c.kind = 6
                · rw [if_pos h6]; exact c_DoStage q c hok hcok hl h6
                · rw [if_neg h6]
                  by_cases h7 : c.kind = 7
                  · rw [if_pos h7]; exact c_DoAbort q c hok hcok hl h7
                  · rw [if_neg h7]; exact c_DoApply q c hok hcok hl (by omega)
end Go.Av

namespace Go.Av
open Go.Proofs

@[simp] abbrev n_r08_Cells : FuncId := 173
@[simp] abbrev n_w12_SnapTurns : FuncId := 8
end Go.Av

namespace Go.Av
open Enc (enc dec)
open Cel (cs dc)
open Go.Proofs Pl

/-- Few extents, of few bytes. -/
def few7 (l : List Xt) : Bool := decide (l.length ≤ 70) && l.all fun x => decide (x.data.length ≤ 3000)
def few11 (q : Sta) : Bool := decide (q.pts.length ≤ 10) && decide (q.staged.length ≤ 6000) && few7 q.map && q.pts.all fun p => few7 p.map
def Few7I (l : List Xt) (k : Nat) (s : Nat → V) (m : Mem) : Prop :=
  ∃ i : Nat, i + k = l.length ∧ s 0 = .lit 5 (l.map cs) ∧ s 3 = .val (.int .i64 i) ∧ (l.take i).all (fun x => decide (x.data.length ≤ 3000)) = true
theorem c_few7 (l : List Xt) (hl : l.length ≤ 9223372036854775807) : Pure Try.prog n_w07_Few [enc l] (enc (few7 l)) [] := by
  refine Pure.ofC OOk.nil hm F_w07_Few_ok (by simp [F_w07_Few]) rfl ?_
  have w1 := IntWalk.i64_in (l.length : Int) (by omega)
  by_cases h : l.length ≤ 70
  · have h2 : ¬ (70 : Int) < l.length := by omega
    simp [F_w07_Few, w1, h2, few7, h]
    refine wp_loop (Few7I l) l.length (IW.of ⟨0, by omega, by simp, by simp, by simp⟩) fun k s m ⟨i, hik, s0, s3, ht⟩ => ?_
    by_cases hi : i < l.length
    · have w3 := IntWalk.i64_in ((i : Int) + 1) (by omega)
      have hsn : l.take (i + 1) = l.take i ++ [l[i]] := by rw [List.take_add_one, List.getElem?_eq_getElem hi]; rfl
      by_cases hd : l[i].data.length ≤ 3000
      · have hd2 : ¬ (3000 : Int) < l[i].data.length := by omega
        simp [F_w07_Few_L0, s0, s3, w1, hi, hd, hd2, w3]
        refine ⟨k - 1, by omega, IW.of ⟨i + 1, by omega, by simp [s0], by simp, ?_⟩⟩
        rw [hsn, List.all_append, ht]
        simp [hd]
      · have hd2 : (3000 : Int) < l[i].data.length := by omega
        simp [F_w07_Few_L0, s0, s3, w1, hi, hd, hd2]
        exact ⟨l[i], List.getElem_mem hi, by omega⟩
    · simp [F_w07_Few_L0, s0, s3, w1, hi]
      rw [List.take_of_length_le (by omega)] at ht
      simpa using ht
  · have h2 : (70 : Int) < l.length := by omega
    simp [F_w07_Few, w1, h2, few7, h]
@[simp] def sp_few7 (l : List Xt) : Option (V × List Tip) := if l.length ≤ 9223372036854775807 then some (enc (few7 l), []) else none
theorem sp_few7_ok : EOk Try.prog n_w07_Few (sp1 sp_few7) := sp1_ok fun l r h => by
  simp only [sp_few7] at h
  split at h <;> cases h
  exact c_few7 l (by assumption)
def D40 : Orc := Orc.nil.add n_w07_Few (sp1 sp_few7)
theorem D40_ok : OOk Try.prog D40 := OOk.nil.add sp_few7_ok
/-- What is always so of a state that was handed in. -/
def staBig (q : Sta) : Prop := q.map.length ≤ 9223372036854775807 ∧ q.pts.length ≤ 9223372036854775807 ∧ (∀ p ∈ q.pts, p.map.length ≤ 9223372036854775807) ∧ q.staged.length ≤ 9223372036854775807
def Few11I (q : Sta) (k : Nat) (s : Nat → V) (m : Mem) : Prop :=
  ∃ i : Nat, i + k = q.pts.length ∧ s 1 = .ptr 0 0 ∧ s 3 = .val (.int .i64 i) ∧ (q.pts.take i).all (fun p => few7 p.map) = true ∧ m = ⟨[cs q], []⟩
theorem c_few11 (q : Sta) (hq : staBig q) : Pure Try.prog n_w11_Few [enc q] (enc (few11 q)) [] := by
  refine Pure.ofC D40_ok hm F_w11_Few_ok (by simp [F_w11_Few]) rfl ?_
  obtain ⟨g1, g2, g3, g4⟩ := hq
  have g1' : q.map.length ≤ 9223372036854775807 := g1
  have w1 := IntWalk.i64_in (q.pts.length : Int) (by omega)
  have w2 := IntWalk.i64_in (q.staged.length : Int) (by omega)
  by_cases h1 : q.pts.length ≤ 10
  · have h1' : ¬ (10 : Int) < q.pts.length := by omega
    by_cases h2 : q.staged.length ≤ 6000
    · have h2' : ¬ (6000 : Int) < q.staged.length := by omega
      cases h3 : few7 q.map with
      | false => simp [F_w11_Few, D40, w1, w2, h1, h1', h2, h2', h3, g1', few11]
      | true =>
        simp [F_w11_Few, D40, w1, w2, h1, h1', h2, h2', h3, g1', few11]
        refine wp_loop (Few11I q) q.pts.length (IW.of ⟨0, by omega, by simp, by simp, by simp, by simp⟩) fun k s m ⟨i, hik, s1, s3, ht, hm⟩ => ?_
        subst hm
        by_cases hi : i < q.pts.length
        · have w3 := IntWalk.i64_in ((i : Int) + 1) (by omega)
          have hsn : q.pts.take (i + 1) = q.pts.take i ++ [q.pts[i]] := by rw [List.take_add_one, List.getElem?_eq_getElem hi]; rfl
          have g5 : q.pts[i].map.length ≤ 9223372036854775807 := g3 _ (List.getElem_mem hi)
          cases hd : few7 q.pts[i].map with
          | true =>
            simp [F_w11_Few_L0, D40, s1, s3, w1, hi, hd, w3, g5]
            refine ⟨k - 1, by omega, IW.of ⟨i + 1, by omega, by simp [s1], by simp, ?_, rfl⟩⟩
            rw [hsn, List.all_append, ht]
            simp [hd]
          | false =>
            simp [F_w11_Few_L0, D40, s1, s3, w1, hi, hd, g5]
            exact ⟨q.pts[i], List.getElem_mem hi, hd⟩
        · simp [F_w11_Few_L0, s1, s3, w1, hi]
          rw [List.take_of_length_le (by omega)] at ht
          simpa using ht
    · have h2' : (6000 : Int) < q.staged.length := by omega
      simp [F_w11_Few, D40, w1, w2, h1, h1', h2, h2', few11]
  · have h1' : (10 : Int) < q.pts.length := by omega
    simp [F_w11_Few, D40, w1, h1, h1', few11]
theorem few11_len {q : Sta} (h : few11 q = true) : staLen q := by
  simp only [few11, few7, Bool.and_eq_true, decide_eq_true_eq, List.all_eq_true] at h
  obtain ⟨⟨⟨h1, h2⟩, h3, _⟩, h4⟩ := h
  exact ⟨by omega, by omega, fun p hp => by have := (h4 p hp).1; omega, by omega⟩
theorem staLen' {q : Sta} (h : staLen q) : q.map.length ≤ 1073741824 ∧ q.pts.length ≤ 1073741824 ∧ (∀ p : Pt, p ∈ q.pts → p.map.length ≤ 1073741824) ∧ q.staged.length ≤ 1073741824 := h
@[simp] def sp_few11 (q : Sta) : Option (V × List Tip) := if q.map.length ≤ 9223372036854775807 ∧ q.pts.length ≤ 9223372036854775807 ∧ (∀ p ∈ q.pts, p.map.length ≤ 9223372036854775807) ∧ q.staged.length ≤ 9223372036854775807 then some (enc (few11 q), []) else none
theorem sp_few11_ok : EOk Try.prog n_w11_Few (sp1 sp_few11) := sp1_ok fun q r h => by
  simp only [sp_few11] at h
  split at h <;> cases h
  exact c_few11 q (by assumption)
end Go.Av

namespace Go.Av
open Enc (enc dec)
open Cel (cs dc)
open Go.Proofs Pl

def few10 (c : Ch) : Bool := decide (c.data.length ≤ 5000) && few7 c.list
theorem c_few10 (c : Ch) (hd : c.data.length ≤ 9223372036854775807) (hl : c.list.length ≤ 9223372036854775807) : Pure Try.prog n_w10_Few [enc c] (enc (few10 c)) [] := by
  refine Pure.ofC D40_ok hm F_w10_Few_ok (by simp [F_w10_Few]) rfl ?_
  obtain ⟨k, lba, n, id, data, list⟩ := c
  simp only at hd hl
  by_cases h : data.length ≤ 5000
  · have h2 : ¬ (5000 : Int) < data.length := by omega
    cases h3 : few7 list <;> simp [F_w10_Few, D40, h2, few10, h, hl, h3]
  · have h2 : (5000 : Int) < data.length := by omega
    have h3 : ¬ (data.length : Int) ≤ 5000 := by omega
    simp [F_w10_Few, D40, h3, few10, h]
@[simp] def sp_few10 (c : Ch) : Option (V × List Tip) := if c.data.length ≤ 9223372036854775807 ∧ c.list.length ≤ 9223372036854775807 then some (enc (few10 c), []) else none
theorem sp_few10_ok : EOk Try.prog n_w10_Few (sp1 sp_few10) := sp1_ok fun c r h => by
  simp only [sp_few10] at h
  split at h <;> cases h
  rename_i h
  exact c_few10 c h.1 h.2
/-- A snapshot's bytes, records that are parts; a change's bytes. -/
def snpB (b : Int) : Int := 4063 + b * 195
def snpP (b : Int) : Int := (snpB b + 4095) / 4096
def chgB (b : Int) : Int := max (10 + b * 39) 1009
theorem c_spMapped (b : Int) (hb : 1 ≤ b ∧ b ≤ 64) : Pure Try.prog n_space_mapped [enc b] (enc (3 + b * 39)) [] := by
  refine Pure.ofC OOk.nil hm F_space_mapped_ok (by simp [F_space_mapped]) rfl ?_
  have w1 := IntWalk.i64_in (b * 39) (by omega)
  have w2 := IntWalk.i64_in (3 + b * 39) (by omega)
  simp [F_space_mapped, w1, w2]
@[simp] def sp_spMapped (b : Int) : Option (V × List Tip) := if 1 ≤ b ∧ b ≤ 64 then some (enc (3 + b * 39), []) else none
theorem sp_spMapped_ok : EOk Try.prog n_space_mapped (sp1 sp_spMapped) := sp1_ok fun b r h => by
  simp only [sp_spMapped] at h
  split at h <;> cases h
  exact c_spMapped b (by assumption)
def DvqO : Orc := Dp2.add n_space_mapped (sp1 sp_spMapped)
theorem DvqO_ok : OOk Try.prog DvqO := Dp2_ok.add sp_spMapped_ok
theorem c_spSnap (b : Int) (hb : 1 ≤ b ∧ b ≤ 64) : Pure Try.prog n_space_Snap [enc b] (.tuple [enc (snpB b + snpP b * 20 + 22), enc (snpP b + 1)]) [] := by
  refine Pure.ofC DvqO_ok hm F_space_Snap_ok (by simp [F_space_Snap]) (by simp [V.res, V.res1]) ?_
  have hs : someZ b = true := by simp [someZ]; omega
  have e1 : recSz 0 = 20 := by decide
  have e2 : recSz 2 = 22 := by decide
  have hp : 0 ≤ snpP b ∧ snpP b ≤ 10 := by unfold snpP snpB; omega
  have ed : (4063 + b * 195 + 4095).tdiv 4096 = snpP b := by rw [Int.tdiv_eq_ediv_of_nonneg (by omega)]; rfl
  have w1 := IntWalk.i64_in (4016 + (3 + b * 39)) (by omega)
  have w2 := IntWalk.i64_in (8 + (3 + b * 39)) (by omega)
  have w3 := IntWalk.i64_in (4 * (8 + (3 + b * 39))) (by omega)
  have e4 : 4016 + (3 + b * 39) + 4 * (8 + (3 + b * 39)) = 4063 + b * 195 := by omega
  have w4' := IntWalk.i64_in (4063 + b * 195) (by omega)
  have w5 := IntWalk.i64_in (4063 + b * 195 + 4096) (by omega)
  have w6 := IntWalk.i64_in (4063 + b * 195 + 4095) (by omega)
  have e5 : 4063 + b * 195 + 4096 - 1 = 4063 + b * 195 + 4095 := by omega
  have w7 := IntWalk.i64_in (snpP b) (by omega)
  have w8 := IntWalk.i64_in (snpP b * 20) (by omega)
  have w9 := IntWalk.i64_in (4063 + b * 195 + snpP b * 20) (by omega)
  have w10 := IntWalk.i64_in (4063 + b * 195 + snpP b * 20 + 22) (by omega)
  have w11 := IntWalk.i64_in (snpP b + 1) (by omega)
  simp [F_space_Snap, DvqO, Dp2, Dp1, hs, e1, e2, w1, w2, w3, e4, w4', w5, e5, w6, ed, w7, w8, w9, w10, w11, snpB]
  exact hb
@[simp] def sp_spSnap (b : Int) : Option (V × List Tip) := if 1 ≤ b ∧ b ≤ 64 then some (.tuple [enc (snpB b + snpP b * 20 + 22), enc (snpP b + 1)], []) else none
theorem sp_spSnap_ok : EOk Try.prog n_space_Snap (sp1 sp_spSnap) := sp1_ok fun b r h => by
  simp only [sp_spSnap] at h
  split at h <;> cases h
  exact c_spSnap b (by assumption)
theorem c_spChange (b : Int) (hb : 1 ≤ b ∧ b ≤ 64) : Pure Try.prog n_space_Change [enc b] (enc (20 + chgB b)) [] := by
  refine Pure.ofC Dp2_ok hm F_space_Change_ok (by simp [F_space_Change]) rfl ?_
  have hs : someZ b = true := by simp [someZ]; omega
  have w1 := IntWalk.i64_in (b * 39) (by omega)
  have w2 := IntWalk.i64_in (10 + b * 39) (by omega)
  have e : recSz (max (10 + b * 39) 1009) = 20 + max (10 + b * 39) 1009 := by
    unfold recSz
    rw [if_neg (by omega)]
    omega
  simp [F_space_Change, Dp2, Dp1, hs, w1, w2, e, chgB]
@[simp] def sp_spChange (b : Int) : Option (V × List Tip) := if 1 ≤ b ∧ b ≤ 64 then some (enc (20 + chgB b), []) else none
theorem sp_spChange_ok : EOk Try.prog n_space_Change (sp1 sp_spChange) := sp1_ok fun b r h => by
  simp only [sp_spChange] at h
  split at h <;> cases h
  exact c_spChange b (by assumption)
end Go.Av

namespace Go.Av
open Enc (enc dec)
open Cel (cs dc)
open Go.Proofs Pl

/-- The text that is still to be read. -/
def txtV : V → Option (List UInt8)
  | .lit 1 xs => decX xs
  | .row _ 1 xs => decX xs
  | _ => none
@[simp] theorem txtV_lit (l : List UInt8) : txtV (.lit 1 (l.map cs)) = some l := decX_map l
@[simp] theorem txtV_row (t : Nat) (l : List UInt8) : txtV (.row t 1 (l.map cs)) = some l := decX_map l
/-- The text's box behind so many bytes. -/
def numV (v : V) (w : Bool) (l : List UInt8) (n : Int) : V := if w = true ∨ (l.length : Int) < n then v else .lit 1 ((l.drop n.toNat).map cs)
/-- The bytes that are cut. -/
def cutL (w : Bool) (l : List UInt8) (n : Int) : List UInt8 := if w = true ∨ (l.length : Int) < n then [] else l.take n.toNat
def cutW (w : Bool) (l : List UInt8) (n : Int) : Bool := w || decide ((l.length : Int) < n)
end Go.Av

namespace Go.Av
open Enc (enc dec)
open Cel (cs dc)
open Go.Proofs Pl

/-- Is it wrong, behind so many bytes more that are read by a form? -/
def numW (w : Bool) (l : List UInt8) (f : List UInt8) (n : Int) : Bool := cutW w l n || decide (unpackE f (cutL w l n) ≠ 0)
def numL (w : Bool) (l : List UInt8) (f : List UInt8) (n : Int) : List Nat := if numW w l f n = true then List.replicate f.length 0 else unpackN f (cutL w l n)
/-- What is still to be read behind so many bytes. -/
def numR (w : Bool) (l : List UInt8) (n : Int) : List UInt8 := if w = true ∨ (l.length : Int) < n then l else l.drop n.toNat
@[simp] def sp_xread (b : List UInt8) : Option (V × List Tip) := if b.length ≤ 2 ^ 40 then some (.tuple [.row 0 5 ((readL b).map cs), enc (readE b)], [(174, 5, (readL b).length)]) else none
end Go.Av

namespace Go.Av
open Enc (enc dec)
open Cel (cs dc)
open Go.Proofs Pl

/-- How many bytes a map has; its bytes; it. -/
def mpN (w : Bool) (l : List UInt8) : Nat := (numL w l [104] 2).headD 0
def mpT (w : Bool) (l : List UInt8) : List UInt8 := cutL (numW w l [104] 2) (numR w l 2) (mpN w l)
def mpL (w : Bool) (l : List UInt8) : List Xt := readL (mpT w l)
def mpW (w : Bool) (l : List UInt8) : Bool := cutW (numW w l [104] 2) (numR w l 2) (mpN w l) || decide (readE (mpT w l) ≠ 0)
def mpTV (v : V) (w : Bool) (l : List UInt8) : V := numV (numV v w l 2) (numW w l [104] 2) (numR w l 2) (mpN w l)
def mapM (m : Mem) : Option (List Xt × Mem) := match m.boxes with
  | b0 :: [v] :: [.val (.bool w)] :: [.func 80 [.ptr 2 0, .ptr 1 0]] :: [.func 81 [.ptr 3 0, .ptr 2 0]] :: bx => (txtV v).bind fun l => if l.length ≤ 2 ^ 40 then
      some (mpL w l, ⟨b0 :: [mpTV v w l] :: [.val (.bool (mpW w l))] :: [.func 80 [.ptr 2 0, .ptr 1 0]] :: [.func 81 [.ptr 3 0, .ptr 2 0]] :: bx, m.tips⟩) else none
  | _ => none
end Go.Av

namespace Go.Av
open Enc (enc dec)
open Cel (cs dc)
open Go.Proofs Pl

@[simp] def sp_open (b : List UInt8) : Option (V × List Tip) := if b.length ≤ 2 ^ 40 then some (.tuple [.row 0 1 ((openT b).map cs), enc (openE b)], [(5, 1, (openT b).length)]) else none
end Go.Av

namespace Go.Av.Pl
structure Fnd where
  rcd : Rec
  zone : Int
  at_ : Int
deriving DecidableEq
end Go.Av.Pl
namespace Go.Av
open Enc (enc dec)
open Cel (cs dc)
open Go.Proofs Pl

instance : Cel Fnd where
  sz := 5
  cs x := [enc x.rcd.kind, enc x.rcd.seq, enc x.rcd.body, enc x.zone, enc x.at_]
  dc l := match l with
    | [a, b, c, d, e] => (dec a).bind fun a => (dec b).bind fun b => (dec c).bind fun c => (dec d).bind fun d => (dec e).bind fun e => some ⟨⟨a, b, c⟩, d, e⟩
    | _ => none
  len _ := rfl
  ok l x h := by
    split at h
    · simp only [Option.bind_eq_some_iff] at h
      obtain ⟨a, ha, b, hb, c, hc, d, hd, e, he, h⟩ := h
      cases h
      exact wk_dec (wk_dec (wk_dec (wk_dec (wk_dec wk_nil he) hd) hc) hb) ha
    · cases h
  cl x := by simp [clean_cs]
  de x := by simp [decX_map]
instance : Enc Fnd := encC
@[simp] theorem sz_fnd : Cel.sz Fnd = 5 := rfl
@[simp] theorem cs_fnd (x : Fnd) : cs x = [.val (.int .i64 x.rcd.kind), .val (.int .i64 x.rcd.seq), .lit 1 (x.rcd.body.map cs), .val (.int .i64 x.zone), .val (.int .i64 x.at_)] := rfl
@[simp] theorem enc_fnd (x : Fnd) : (enc x : V) = .agg [.val (.int .i64 x.rcd.kind), .val (.int .i64 x.rcd.seq), .lit 1 (x.rcd.body.map cs), .val (.int .i64 x.zone), .val (.int .i64 x.at_)] := rfl
@[simp] theorem dc_fnd (a b c d e : V) : (dc [a, b, c, d, e] : Option Fnd) = (dec a).bind fun a => (dec b).bind fun b => (dec c).bind fun c => (dec d).bind fun d => (dec e).bind fun e => some ⟨⟨a, b, c⟩, d, e⟩ := rfl
@[simp] theorem dec_fnd (l : List V) : (dec (.agg l) : Option Fnd) = dc l := rfl

/-- An iterator that runs to its end, over a list. -/
theorem YRun.list {α : Type} {Y : YRel} {L : Nat} {K : Mem → Prop} (arg : α → List V) (S : List α → Mem) (all : List α)
    (hstep : ∀ acc x r, all = acc ++ x :: r → Y L (arg x) (S acc) (.val (.bool true)) (S (acc ++ [x]))) (hK : ∀ acc x r, all = acc ++ x :: r → K (S (acc ++ [x]))) : YRun Y L K (all.map arg) (S []) (S all) := by
  have key : ∀ rest acc, all = acc ++ rest → YRun Y L K (rest.map arg) (S acc) (S all) := by
    intro rest
    induction rest with
    | nil => intro acc h; rw [h, List.append_nil]; exact .done
    | cons x r ih => intro acc h; exact .next (hstep acc x r h) (hK acc x r h) (ih (acc ++ [x]) (by simp [h]))
  exact key all [] rfl
/-- An iterator that looks for one. -/
theorem YRun.find {α β : Type} {Y : YRel} {L : Nat} {K : Mem → Prop} (arg : α → List V) (g : α → Option β) (m0 : Mem) (m1 : β → Mem) (hK : K m0) : ∀ (all : List α), (∀ x ∈ all, Y L (arg x) m0 (.val (.bool (g x).isNone)) ((g x).elim m0 m1)) →
    YRun Y L K (all.map arg) m0 ((all.findSome? g).elim m0 m1)
  | [], _ => .done
  | x :: r, h1 => by
    have h := h1 x (List.mem_cons_self ..)
    rw [List.findSome?_cons]
    cases hg : g x with
    | none =>
      rw [hg] at h
      exact .next h hK (YRun.find arg g m0 m1 hK r (fun x hx => h1 x (List.mem_cons_of_mem _ hx)))
    | some y =>
      rw [hg] at h
      exact .stop h
end Go.Av

namespace Go.Av
open Enc (enc dec)
open Cel (cs dc)
open Go.Proofs Pl

/-- Bytes, cut in pieces of so many. -/
def chunksF (n : Nat) : Nat → List UInt8 → List (List UInt8)
  | 0, _ => []
  | k + 1, l => if l = [] then [] else l.take n :: chunksF n k (l.drop n)
def chunks (n : Nat) (l : List UInt8) : List (List UInt8) := chunksF n l.length l
theorem chunksF_fuel (n : Nat) (hn : 0 < n) : ∀ (k j : Nat) (l : List UInt8), l.length ≤ k → l.length ≤ j → chunksF n k l = chunksF n j l
  | 0, j, l, h, _ => by
    have : l = [] := List.length_eq_zero_iff.1 (by omega)
    subst this
    cases j <;> simp [chunksF]
  | k + 1, 0, l, _, h => by
    have : l = [] := List.length_eq_zero_iff.1 (by omega)
    subst this
    simp [chunksF]
  | k + 1, j + 1, l, h1, h2 => by
    rw [chunksF, chunksF]
    split
    · rfl
    · rename_i hl
      have : 0 < l.length := List.length_pos_iff.2 hl
      rw [chunksF_fuel n hn k j (l.drop n) (by simp; omega) (by simp; omega)]
theorem chunks_cons {n : Nat} (hn : 0 < n) {l : List UInt8} (h : l ≠ []) : chunks n l = l.take n :: chunks n (l.drop n) := by
  have hp : 0 < l.length := List.length_pos_iff.2 h
  obtain ⟨k, hk⟩ : ∃ k, l.length = k + 1 := ⟨l.length - 1, by omega⟩
  rw [chunks, hk, chunksF, if_neg h, chunks, chunksF_fuel n hn k (l.drop n).length (l.drop n) (by simp; omega) (Nat.le_refl _)]
/-- The iterator's boxes. -/
def ChunkK (a b : Nat) (l : List UInt8) (n : Nat) (m : Mem) : Prop := m.boxes[a]? = some [.lit 1 (l.map cs)] ∧ m.boxes[b]? = some [.val (.int .i64 n)]
def ChunkI (Y : YRel) (L a b : Nat) (l : List UInt8) (n : Nat) (m1 : Mem) (k : Nat) (s : Nat → V) (m : Mem) : Prop :=
  ∃ i : Nat, i + k = l.length + n ∧ s 0 = .yld L ∧ s 1 = .ptr a 0 ∧ s 2 = .ptr b 0 ∧ s 4 = .val (.int .i64 i) ∧ ChunkK a b l n m ∧ YRun Y L (ChunkK a b l n) ((chunks n (l.drop i)).map fun c => [.full 1 (c.map cs)]) m m1
theorem c_chunk1 (Y : YRel) (L a b : Nat) (l : List UInt8) (n : Nat) (hn : 0 < n) (hn2 : n ≤ 2 ^ 40) (hl : l.length ≤ 2 ^ 40) (m m1 : Mem) (hK : ChunkK a b l n m)
    (h : YRun Y L (ChunkK a b l n) ((chunks n l).map fun c => [.full 1 (c.map cs)]) m m1) :
    LocY Try.prog Y n_slices_Chunk_byte_1 [.yld L, .ptr a 0, .ptr b 0] m (.tuple []) m1 := by
  refine LocY.ofX OOk.nil hm F_slices_Chunk_byte_1_ok (by simp [F_slices_Chunk_byte_1]) ?_
  simp [F_slices_Chunk_byte_1]
  refine wp_loop (ChunkI Y L a b l n m1) (l.length + n) (IW.of ⟨0, by omega, by simp, by simp, by simp, by simp, hK, h⟩) fun k s m ⟨i, hik, s0, s1, s2, s4, ⟨k1, k2⟩, hr⟩ => ?_
  have w1 := IntWalk.i64_in (l.length : Int) (by omega)
  by_cases hi : i < l.length
  · have hne : l.drop i ≠ [] := by
      intro e
      have := congrArg List.length e
      simp at this
      omega
    rw [chunks_cons hn hne, List.map_cons] at hr
    have w2 := IntWalk.i64_in (((l.length - i : Nat) : Int)) (by omega)
    have w3 := IntWalk.i64_in ((i : Int) + min (n : Int) ((l.length - i : Nat) : Int)) (by omega)
    have w4 := IntWalk.i64_in ((i : Int) + n) (by omega)
    have e1 : ((i : Int) + min (n : Int) ((l.length - i : Nat) : Int)).toNat = i + min n (l.length - i) := by omega
    have e2 : (((l.map cs).take (i + min n (l.length - i))).drop i : List (List V)) = ((l.drop i).take n).map cs := by
      rw [List.drop_take, List.map_take, List.map_drop]
      have : i + min n (l.length - i) - i = min n (l.length - i) := by omega
      rw [this]
      rcases Nat.le_total n (l.length - i) with h | h
      · rw [Nat.min_eq_left h]
      · rw [Nat.min_eq_right h, List.take_of_length_le (by simp), List.take_of_length_le (by simp; omega)]
    simp [F_slices_Chunk_byte_1_L0, s0, s1, s2, s4, k1, k2, hi, w2, w3, w4, mxOk]
    refine ⟨by omega, ⟨by omega, by omega⟩, ?_⟩
    rw [e1, e2]
    cases hr with
    | stop hy =>
      refine ⟨_, _, hy, ?_⟩
      simp
    | next hy hk h2 =>
      refine ⟨_, _, hy, ?_⟩
      simp [hk.2, s2, s4, w4]
      refine ⟨k - n, by omega, IW.of ⟨i + n, by omega, by simp [s0], by simp [s1], by simp [s2], by simp, hk, ?_⟩⟩
      rw [← List.drop_drop]
      exact h2
  · have he : l.drop i = [] := List.drop_eq_nil_of_le (by omega)
    rw [he] at hr
    have hm1 : m = m1 := by
      cases hr
      rfl
    simp [F_slices_Chunk_byte_1_L0, s0, s1, s2, s4, k1, k2, hi, w1]
    exact hm1
/-- The iterator itself. -/
def sp_chunk : List V → Mem → Option (V × Mem)
  | [v, u], m => (dec v : Option (List UInt8)).bind fun l => (dec u : Option Int).bind fun n => if 1 ≤ n then
      some (.func n_slices_Chunk_byte_1 [.ptr m.boxes.length 0, .ptr (m.boxes.length + 1) 0], ⟨m.boxes ++ [[.lit 1 (l.map cs)], [.val (.int .i64 n)]], m.tips⟩) else none
  | _, _ => none
theorem sp_chunk_ok : EOkL Try.prog n_slices_Chunk_byte sp_chunk := by
  intro args m v m' h
  unfold sp_chunk at h
  split at h
  · rename_i a u
    simp only [Option.bind_eq_some_iff] at h
    obtain ⟨l, hl, n, hn, h⟩ := h
    split at h
    · rename_i h1
      cases h
      refine Loc.wk (wk_dec (wk_dec wk_nil hn) hl) (Loc.ofX OOk.nil hm F_slices_Chunk_byte_ok (by simp [F_slices_Chunk_byte]) ?_)
      have h2 : ¬ n < 1 := by omega
      simp [F_slices_Chunk_byte, h2]
    · cases h
  · cases h
def D37 : Orc := Orc.nil.addL n_slices_Chunk_byte sp_chunk
theorem D37_ok : OOk Try.prog D37 := OOk.nil.addL sp_chunk_ok
def sp_parts : List V → Mem → Option (V × Mem)
  | [v], m => (dec v : Option (List UInt8)).bind fun l => 
      some (.func n_slices_Chunk_byte_1 [.ptr m.boxes.length 0, .ptr (m.boxes.length + 1) 0], ⟨m.boxes ++ [[.lit 1 (l.map cs)], [.val (.int .i64 4096)]], m.tips⟩)
  | _, _ => none
theorem sp_parts_ok : EOkL Try.prog n_snap_parts sp_parts := by
  intro args m v m' h
  unfold sp_parts at h
  split at h
  · rename_i a
    simp only [Option.bind_eq_some_iff] at h
    obtain ⟨l, hl, h⟩ := h
    cases h
    refine Loc.wk (wk_dec wk_nil hl) (Loc.ofX D37_ok hm F_snap_parts_ok (by simp [F_snap_parts]) ?_)
    simp [F_snap_parts, D37, sp_chunk]
  · cases h
end Go.Av

namespace Go.Av
open Enc (enc dec)
open Cel (cs dc)
open Go.Proofs Pl

theorem wk1_refl (e : V) : wk1 e e := by cases e <;> simp [wk1]
theorem wkL_refl : ∀ l : List V, wkL l l
  | [] => trivial
  | e :: l => ⟨wk1_refl e, wkL_refl l⟩
/-- A row and a plain value, where the row's elements may be weakened. -/
theorem Pure.ofRW {α : Type} [Cel α] {P : Program} {D : Orc} {own : Nat → Bool} {f : FuncId} {F : F} {args : List V} (hD : OOk P D) (hm : P.follows .mixedOrders = true) (hF : compF P own f = some F) (hn : args.length ≤ F.n) {l : List α} {e : V} {tip : Tip} (hc : e.isClean = true)
    (h : wp P noY D F.c (argS args) ⟨[], []⟩ (Fin F.rs fun v m => ∃ t, ((∃ xs, v = .tuple [.row t (Cel.sz α) xs, e] ∧ decX xs = some l) ∨ (v = .tuple [.val (.slice none 0 0), e] ∧ l = [])) ∧ m.tips[t]? = some tip)) : Pure P f args (.tuple [.row 0 (Cel.sz α) (l.map cs), e]) [tip] := by
  have hcl : callable P f = true := by
    unfold compF at hF
    split at hF
    · assumption
    · cases hF
  have hk : ∀ t, keepN [t] (.tuple [.row t (Cel.sz α) (l.map cs), e]) (.tuple [.row 0 (Cel.sz α) (l.map cs), e]) := by
    intro t
    refine ⟨⟨⟨rfl, rfl, rfl⟩, clean_cs l⟩, ?_, trivial⟩
    unfold keepN1
    split
    · simp [V.isClean] at hc
    · rename_i k
      exact ⟨wkL_refl k, by simpa [V.isClean] using hc⟩
    · exact ⟨wk1_refl e, hc⟩
  refine ⟨hcl, keepN_res (hk 0), fun I w vals hI hr => ?_⟩
  refine (calls_sound hm hF hn (Good.start hI) hr YOk.no (wp_sound hD _ h)).2.mono fun en w' ⟨x, M', v, m', he, hE, hg, hx, t, hv, ht⟩ => ?_
  refine ⟨x, M'.sel [t], he, hg.sel (by simp) (by simp [selTips, ht]), ?_⟩
  rcases hv with ⟨xs, rfl, hd⟩ | ⟨rfl, rfl⟩
  · refine keepN_rep (hk t) ?_
    obtain ⟨vs, rfl, y, r, hvs, h1, h2⟩ := hx
    exact ⟨vs, rfl, y, r, hvs, row_dec rfl hd h1, h2⟩
  · have h2 : keepN [t] (.tuple [.val (.slice none 0 0), e]) (.tuple [.row 0 (Cel.sz α) [], e]) := ⟨⟨⟨rfl, rfl⟩, rfl⟩, (hk t).2.1, trivial⟩
    exact keepN_rep h2 hx
/-- The records of parts, from a number on. -/
def partsR (seq : Int) : List (List UInt8) → List Rec
  | [] => []
  | c :: l => ⟨2, seq, c⟩ :: partsR (seq + 1) l
theorem partsR_append (seq : Int) (c : List UInt8) : ∀ l : List (List UInt8), partsR seq (l ++ [c]) = partsR seq l ++ [⟨2, seq + l.length, c⟩]
  | [] => by simp [partsR]
  | d :: l => by
    simp only [List.cons_append, partsR, partsR_append (seq + 1) c l, List.length_cons]
    have : seq + 1 + (l.length : Int) = seq + ((l.length + 1 : Nat) : Int) := by omega
    rw [this]
theorem partsR_length (seq : Int) : ∀ l : List (List UInt8), (partsR seq l).length = l.length
  | [] => rfl
  | _ :: l => by simp [partsR, partsR_length (seq + 1) l]
theorem chunksF_length (n : Nat) : ∀ (k : Nat) (l : List UInt8), (chunksF n k l).length ≤ k
  | 0, _ => by simp [chunksF]
  | k + 1, l => by
    rw [chunksF]
    split
    · simp
    · have := chunksF_length n k (l.drop n); simp; omega
theorem chunks_mem {n : Nat} {l : List UInt8} : ∀ c ∈ chunks n l, c.length ≤ l.length := by
  have key : ∀ (k : Nat) (l : List UInt8), ∀ c ∈ chunksF n k l, c.length ≤ l.length := by
    intro k
    induction k with
    | zero => intro l c h; simp [chunksF] at h
    | succ k ih =>
      intro l c h
      rw [chunksF] at h
      split at h
      · cases h
      · rcases List.mem_cons.1 h with rfl | h
        · simp; omega
        · have := ih _ _ h; simp at this; omega
  exact key _ _
def snapParts (q : Sta) : List (List UInt8) := chunks 4096 (snapB q)
def seqOk (seq : Int) : Bool := decide (0 ≤ seq ∧ seq ≤ 2305843009213693952)
/-- A snapshot's records. -/
def recsL (q : Sta) (seq : Int) : List Rec := if staOk q = true ∧ seqOk seq = true then partsR seq (snapParts q) ++ [⟨3, seq + (snapParts q).length, bytesPut [] (snapParts q).length 2⟩] else []
def recsE (q : Sta) (seq : Int) : Int := if staOk q = true then (if seqOk seq = true then errPut (snapParts q).length 2 else 120) else 110
@[simp] def sp_snapWrite (q : Sta) : Option (V × List Tip) := if q.map.length ≤ 2 ^ 30 ∧ q.pts.length ≤ 2 ^ 30 ∧ (∀ p ∈ q.pts, p.map.length ≤ 2 ^ 30) ∧ q.staged.length ≤ 2 ^ 30 then some (.tuple [.row 0 1 ((snapB q).map cs), enc (staE q)], [(5, 1, (snapB q).length)]) else none
theorem sp_snapWrite_ok : EOk Try.prog n_snap_Write (sp1 sp_snapWrite) := sp1_ok fun q r h => by
  simp only [sp_snapWrite] at h
  split at h <;> cases h
  exact c_snap_Write q (by assumption)
def D38 : Orc := (((Orc.nil.add n_snap_Write (sp1 sp_snapWrite)).add n_bytes_Clone (sp1 sp_clone)).add n_le_Put (sp3 sp_Put)).addL n_snap_parts sp_parts
theorem D38_ok : OOk Try.prog D38 := by
  refine (((OOk.nil.add sp_snapWrite_ok).add (sp1_ok fun l r h => ?_)).add (sp3_ok fun b v w r h => ?_)).addL sp_parts_ok
  · simp only [sp_clone] at h
    split at h <;> cases h
    exact c_clone l (by assumption)
  · simp only [sp_Put] at h
    split at h <;> cases h
    exact c_le_Put b v w (by assumption)
theorem snapB_length (q : Sta) : (snapB q).length ≤ 20000 := by
  unfold snapB
  split
  · rename_i h
    obtain ⟨f1, f2, f3, f4, f5, f6, f7, f8⟩ := staOk_fine h
    have h1 := mapB_length f1
    have h2 : ∀ l : List Pt, (∀ p ∈ l, ptFine q p) → (l.flatMap ptB).length ≤ 2510 * l.length := by
      intro l
      induction l with
      | nil => intro _; simp
      | cons p l ih =>
        intro hl
        have h3 := mapB_length (hl p (List.mem_cons_self ..)).1
        have h4 := ih fun p hp => hl p (List.mem_cons_of_mem _ hp)
        have h5 : (ptB p).length = 8 + (mapB p.map).length := by simp [ptB, leB_length]; omega
        rw [List.flatMap_cons, List.length_append, List.length_cons]
        omega
    have h6 := h2 q.pts f8
    have h7 : (sealS (bodyS q)).length = 16 + q.staged.length + (mapB q.map).length + (q.pts.flatMap ptB).length := by
      simp [sealS, bodyS, headB, leB_length]; omega
    omega
  · simp
def RecsM (q : Sta) (seq : Int) (acc : List (List UInt8)) : Mem :=
  ⟨[cs q, [.val (.int .i64 seq)], [.row 0 3 ((partsR seq acc).map cs)], [.lit 1 ((snapB q).map cs)], [.val (.int .i64 4096)], [St.ready.v], [St.ready.v]], [(36, 3, acc.length), (5, 1, (snapB q).length)]⟩
theorem c_snap_Records (q : Sta) (seq : Int) (hq : staLen q) : Pure Try.prog n_snap_Records [enc q, enc seq] (.tuple [.row 0 3 ((recsL q seq).map cs), enc (recsE q seq)]) [(36, 3, (recsL q seq).length)] := by
  have hq' := hq
  unfold staLen at hq'
  obtain ⟨g1, g2, g3, g4⟩ := hq
  have g1' : q.map.length ≤ 1073741824 := g1
  have g2' : q.pts.length ≤ 1073741824 := g2
  have g3' : ∀ p ∈ q.pts, p.map.length ≤ 1073741824 := g3
  have g4' : q.staged.length ≤ 1073741824 := g4
  refine Pure.ofRW (α := Rec) D38_ok hm F_snap_Records_ok (by simp [F_snap_Records]) rfl ?_
  have hsl := snapB_length q
  have hpl : (snapParts q).length ≤ 20000 := Nat.le_trans (chunksF_length _ _ _) hsl
  cases hok : staOk q with
  | false =>
    have e : staE q = 110 := by simp [staE, hok]
    simp [F_snap_Records, D38, g1', g2', g3', g4', e, recsL, recsE, hok]
    exact ⟨g3', 0, rfl⟩
  | true =>
    have e : staE q = 0 := by simp [staE, hok]
    cases hseq : seqOk seq with
    | false =>
      have h1 : seq < 0 ∨ (0 ≤ seq ∧ 2305843009213693952 < seq) := by
        simp [seqOk] at hseq; omega
      rcases h1 with h1 | ⟨h1, h2⟩
      · simp [F_snap_Records, D38, g1', g2', g3', g4', e, recsL, recsE, hok, hseq, h1]
        exact ⟨g3', 0, rfl⟩
      · have h3 : ¬ seq < 0 := by omega
        simp [F_snap_Records, D38, g1', g2', g3', g4', e, recsL, recsE, hok, hseq, h2, h3]
        exact ⟨g3', 0, rfl⟩
    | true =>
      have h1 : ¬ seq < 0 ∧ ¬ 2305843009213693952 < seq := by
        simp [seqOk] at hseq; omega
      simp [F_snap_Records, D38, g1', g2', g3', g4', e, recsL, recsE, hok, hseq, h1.1, h1.2, sp_parts]
      refine ⟨g3', ?_⟩
      refine ⟨_, _, .tuple [], RecsM q seq (snapParts q), .ready, by simp, c_chunk1 _ _ 3 4 (snapB q) 4096 (by decide) (by decide) (by omega) _ _ ⟨rfl, rfl⟩ ?run, by simp [RecsM, loopAt], by simp, ?fin⟩
      case run =>
        refine YRun.list (fun c => [.full 1 (c.map cs)]) (RecsM q seq) (snapParts q) ?_ ?_
        rotate_left
        · intro acc x r h
          exact ⟨rfl, rfl⟩
        intro acc x r h
        refine Or.inr ⟨rfl, ?_⟩
        have hal : acc.length ≤ 20000 := by
          have := congrArg List.length h
          simp at this
          omega
        have w1 := IntWalk.i64_in (acc.length : Int) (by omega)
        have w2 := IntWalk.i64_in (seq + (acc.length : Int)) (by omega)
        simp [roundW, putAll, St.of, St.cont, CutM, RecsM, loopAt, D38, partsR_append, partsR_length, w1, w2]
        exact ⟨by have := chunks_mem (n := 4096) (l := snapB q) x (by show x ∈ snapParts q; rw [h]; simp); omega, by omega⟩
      case fin =>
        have w1 := IntWalk.i64_in ((snapParts q).length : Int) (by omega)
        have w2 := IntWalk.i64_in (seq + ((snapParts q).length : Int)) (by omega)
        have w3 := IntWalk.u64_in ((snapParts q).length : Int) (by omega)
        rw [show St.ready.out = Exit.normal from rfl]
        simp [RecsM, D38, partsR_length, w1, w2, w3]
        exact ⟨by omega, 0, ⟨_, ⟨rfl, rfl⟩, by simp [decX_map]⟩, rfl⟩
end Go.Av

namespace Go.Av
open Enc (enc dec)
open Cel (cs dc)
open Go.Proofs Pl

theorem mapB_le {n : Int} {l : List Xt} (h : mapOk n l = true) : ((mapB l).length : Int) ≤ 3 + 39 * n := by
  simp only [mapOk, Bool.and_eq_true, decide_eq_true_eq] at h
  have h2 := (mapFrom_len h.2).2.1
  have h3 : (mapB l).length = 3 + (l.flatMap wr1).length := by simp [mapB, leB_length, wrB]; omega
  omega
theorem ptsB_le {q : Sta} : ∀ l : List Pt, (∀ p ∈ l, ptFine q p) → ((l.flatMap ptB).length : Int) ≤ (l.length : Int) * (11 + 39 * q.blocks)
  | [], _ => by simp
  | p :: l, h => by
    have h1 := mapB_le (h p (List.mem_cons_self ..)).1
    have h2 := ptsB_le l fun p hp => h p (List.mem_cons_of_mem _ hp)
    have h3 : (ptB p).length = 8 + (mapB p.map).length := by simp [ptB, leB_length]; omega
    rw [List.flatMap_cons, List.length_append, List.length_cons]
    have h4 : ((l.length + 1 : Nat) : Int) * (11 + 39 * q.blocks) = (l.length : Int) * (11 + 39 * q.blocks) + (11 + 39 * q.blocks) := by
      rw [Int.natCast_add, Int.add_mul, Int.natCast_one, Int.one_mul]
    omega
theorem snapB_le {q : Sta} (h : staOk q = true) : ((snapB q).length : Int) ≤ snpB q.blocks := by
  obtain ⟨f1, f2, f3, f4, f5, f6, f7, f8⟩ := staOk_fine h
  have hn := mapOk_le f1
  have h1 := mapB_le f1
  have h2 := ptsB_le q.pts f8
  have h3 : (q.pts.length : Int) * (11 + 39 * q.blocks) ≤ 4 * (11 + 39 * q.blocks) := Int.mul_le_mul_of_nonneg_right (by omega) (by omega)
  have h7 : (sealS (bodyS q)).length = 16 + q.staged.length + (mapB q.map).length + (q.pts.flatMap ptB).length := by
    simp [sealS, bodyS, headB, leB_length]; omega
  have h8 : snapB q = sealS (bodyS q) := by simp [snapB, h]
  rw [h8]
  unfold snpB
  omega
theorem chunksF_count : ∀ (k : Nat) (l : List UInt8), l.length ≤ k → (chunksF 4096 k l).length * 4096 < l.length + 4096
  | 0, l, _ => by simp [chunksF]
  | k + 1, l, h => by
    rw [chunksF]
    split
    · simp
    · rename_i hne
      have hl := List.length_pos_iff.2 hne
      have h2 := chunksF_count k (l.drop 4096) (by simp; omega)
      rw [List.length_cons]
      rw [List.length_drop] at h2
      generalize (chunksF 4096 k (l.drop 4096)).length = y at h2 ⊢
      generalize l.length = z at h2 hl h ⊢
      rcases Nat.le_total z 4096 with h5 | h5
      · rw [Nat.sub_eq_zero_of_le h5] at h2
        have : y = 0 := by omega
        subst this
        omega
      · rw [Nat.sub_add_cancel h5] at h2
        rw [Nat.add_mul, Nat.one_mul]
        exact Nat.add_lt_add_right h2 _
def sumR : List Rec → Int
  | [] => 0
  | r :: l => recSz r.body.length + sumR l
theorem sumR_snoc (r : Rec) : ∀ l : List Rec, sumR (l ++ [r]) = sumR l + recSz r.body.length
  | [] => by simp [sumR]
  | x :: l => by
    rw [List.cons_append, sumR, sumR, sumR_snoc r l]
    omega
theorem recSz_in (n : Nat) : 0 ≤ recSz n ∧ recSz n ≤ 4116 := by
  unfold recSz
  split <;> omega
theorem sumR_in : ∀ l : List Rec, 0 ≤ sumR l ∧ sumR l ≤ 4116 * (l.length : Int)
  | [] => by simp [sumR]
  | x :: l => by
    have h1 := sumR_in l
    have h2 := recSz_in x.body.length
    rw [sumR, List.length_cons]
    omega
theorem sumR_parts : ∀ (k : Nat) (l : List UInt8) (seq : Int), l.length ≤ k → sumR (partsR seq (chunksF 4096 k l)) = l.length + 20 * ((chunksF 4096 k l).length : Int)
  | 0, l, _, h => by
    have : l.length = 0 := by omega
    simp [chunksF, partsR, sumR, this]
  | k + 1, l, seq, h => by
    rw [chunksF]
    split
    · rename_i he
      simp [he, partsR, sumR]
    · rename_i hne
      have hl := List.length_pos_iff.2 hne
      have h2 := sumR_parts k (l.drop 4096) (seq + 1) (by simp; omega)
      rw [partsR, sumR, h2, List.length_cons, List.length_take, List.length_drop]
      simp only [recSz]
      rw [if_neg (by omega)]
      omega
theorem recs_few {q : Sta} (h : staOk q = true) : recsE q 7 = 0 ∧ sumR (recsL q 7) ≤ snpB q.blocks + snpP q.blocks * 20 + 22 ∧ ((recsL q 7).length : Int) ≤ snpP q.blocks + 1 := by
  obtain ⟨f1, _⟩ := staOk_fine h
  have hn := mapOk_le f1
  have h1 := snapB_le h
  have h2 : (snapParts q).length * 4096 < (snapB q).length + 4096 := chunksF_count _ _ (Nat.le_refl _)
  have h3 : sumR (partsR 7 (snapParts q)) = (snapB q).length + 20 * ((snapParts q).length : Int) := sumR_parts _ _ _ (Nat.le_refl _)
  have hp : ((snapParts q).length : Int) ≤ snpP q.blocks := by unfold snpP; omega
  have hsm : (snapParts q).length ≤ 10 := by unfold snpB at h1; omega
  have hm : mayB (snapParts q).length 2 = true := by simp [mayB]; omega
  have hs : seqOk 7 = true := by decide
  refine ⟨?_, ?_, ?_⟩
  · simp [recsE, h, hs, errPut, hm]
  · have e : recsL q 7 = partsR 7 (snapParts q) ++ [⟨3, 7 + (snapParts q).length, bytesPut [] (snapParts q).length 2⟩] := by simp [recsL, h, hs]
    have hb : (bytesPut [] (snapParts q).length 2).length = 2 := by simp [bytesPut, hm, leB_length]
    rw [e, sumR_snoc, h3, hb]
    have : recSz ((2 : Nat) : Int) = 22 := by decide
    omega
  · have e : recsL q 7 = partsR 7 (snapParts q) ++ [⟨3, 7 + (snapParts q).length, bytesPut [] (snapParts q).length 2⟩] := by simp [recsL, h, hs]
    rw [e, List.length_append, partsR_length, List.length_singleton]
    omega
theorem layGo_all {n : Int} {l0 : List Xt} : ∀ {over out : List Xt}, (layGo n l0 out over).2 = 0 → ∀ x ∈ over, extOk x = true ∧ x.lba + x.len ≤ n
  | [], _, _, x, hx => by cases hx
  | y :: r, out, h, x, hx => by
    unfold layGo at h
    split at h
    · cases h
    · split at h
      · rename_i h2
        rcases List.mem_cons.1 hx with rfl | hx
        · simp only [putOk, Bool.and_eq_true, decide_eq_true_eq] at h2
          exact h2
        · exact layGo_all h x hx
      · cases h
theorem layR_all {n : Int} {l over : List Xt} (h : (layR n l over).2 = 0) : ∀ x ∈ over, extOk x = true ∧ x.lba + x.len ≤ n := by
  unfold layR at h
  split at h
  · cases h
  · exact layGo_all h
theorem layS_all {q : Sta} {over : List Xt} (h : (layS q over).2 = 0) : ∀ x ∈ over, extOk (setG q.gen x) = true ∧ x.lba + x.len ≤ q.blocks := by
  unfold layS at h
  split at h
  · rename_i h2
    intro x hx
    exact layR_all h2 _ (List.mem_map_of_mem hx)
  · rename_i h2
    exact absurd h h2
theorem fol_sum {n : Int} : ∀ {l : List Xt} {a : Int}, folG a l = true → (∀ x ∈ l, x.lba + x.len ≤ n) → a ≤ n → ((l.flatMap wr1).length : Int) ≤ 39 * (n - a)
  | [], a, _, _, h => by simp; omega
  | x :: l, a, h, hx, ha => by
    simp only [folG, Bool.and_eq_true, decide_eq_true_eq] at h
    obtain ⟨⟨h1, h2⟩, h3⟩ := h
    have h4 := hx x (List.mem_cons_self ..)
    have h5 := fol_sum h3 (fun y hy => hx y (List.mem_cons_of_mem _ hy)) h4
    have hb := extOk_iff.1 h1
    have h6 : (wr1 x).length = 7 + x.data.length := by simp [wr1, hdX_length]
    have h7 := hb.2.2.2.2.2.2.2.2
    rw [List.flatMap_cons, List.length_append]
    split at h7 <;> omega
theorem ch_fits {q : Sta} {c : Ch} (hq : staOk q = true) (h : (doX q c).2 = 0) : chE c = 0 ∧ recSz (chW c).length ≤ 20 + chgB q.blocks := by
  obtain ⟨f1, _⟩ := staOk_fine hq
  have hn := mapOk_le f1
  unfold doX at h
  rw [if_neg (by simp [hq])] at h
  cases hc : chOk c with
  | false => rw [if_pos hc] at h; cases h
  | true =>
    rw [if_neg (by simp [hc])] at h
    have key : ((chW c).length : Int) ≤ chgB q.blocks := by
      have e : (chW c).length = 9 + (c.data.length + (if c.kind = 8 then wrB c.list else []).length) := by
        simp [chW, hc, hdC_length]
      have hcc := hc
      simp only [chOk, Bool.and_eq_true, Bool.or_eq_true, decide_eq_true_eq] at hcc
      obtain ⟨hk, ⟨⟨hb, _⟩, hd⟩, hf⟩ := hcc
      unfold chD at hd
      unfold chgB
      rw [e]
      unfold chX at h
      by_cases h1 : c.kind = 1
      · rw [if_pos h1] at h hd
        have h2 := layS_all h ⟨c.lba, c.n, 2, 0, c.data⟩ (List.mem_singleton.2 rfl)
        have h3 : c.lba + c.n ≤ q.blocks := h2.2
        have h4 := (extOk_iff.1 h2.1).1
        have h5 : 0 ≤ c.lba := h4
        rw [if_neg (by omega)]
        simp only [decide_eq_true_eq] at hd
        simp only [List.length_nil]
        omega
      · rw [if_neg h1] at h hd
        by_cases h6 : c.kind = 6
        · rw [if_pos h6] at hd
          simp only [decide_eq_true_eq] at hd
          rw [if_neg (by omega)]
          simp only [List.length_nil]
          omega
        · rw [if_neg h6] at hd
          simp only [decide_eq_true_eq] at hd
          by_cases h8 : c.kind = 8
          · rw [if_pos h8]
            rw [if_neg (by omega), if_neg (by omega), if_neg (by omega), if_neg (by omega), if_neg (by omega), if_neg (by omega)] at h
            have h2 : (layS q c.list).2 = 0 := by
              unfold applyX at h
              split at h
              · assumption
              · exact h
            have h3 := layS_all h2
            have h4 : ((c.list.flatMap wr1).length : Int) ≤ 39 * q.blocks := by
              rcases hf with hf | hf
              · rw [List.length_eq_zero_iff.1 hf]; simp; omega
              · have h5 := hf.2
                simp only [folX, Bool.and_eq_true] at h5
                have := fol_sum h5.1 (fun x hx => (h3 x hx).2) (by omega)
                omega
            simp only [wrB, List.length_cons]
            omega
          · rw [if_neg h8]
            simp only [List.length_nil]
            omega
    refine ⟨by simp [chE, hc], ?_⟩
    unfold recSz
    unfold chgB at key ⊢
    split <;> omega
end Go.Av

namespace Go.Av
open Enc (enc dec)
open Cel (cs dc)
open Go.Proofs Pl

@[simp] def sp_xRecs (q : Sta) (seq : Int) : Option (V × List Tip) := if q.map.length ≤ 2 ^ 30 ∧ q.pts.length ≤ 2 ^ 30 ∧ (∀ p ∈ q.pts, p.map.length ≤ 2 ^ 30) ∧ q.staged.length ≤ 2 ^ 30 then some (.tuple [.row 0 3 ((recsL q seq).map cs), enc (recsE q seq)], [(36, 3, (recsL q seq).length)]) else none
theorem sp_xRecs_ok : EOk Try.prog n_snap_Records (sp2 sp_xRecs) := sp2_ok fun q n r h => by
  simp only [sp_xRecs] at h
  split at h <;> cases h
  exact c_snap_Records q n (by assumption)
@[simp] def sp_xDo (q : Sta) (c : Ch) : Option (V × List Tip) := if (q.map.length ≤ 2 ^ 30 ∧ q.pts.length ≤ 2 ^ 30 ∧ (∀ p ∈ q.pts, p.map.length ≤ 2 ^ 30) ∧ q.staged.length ≤ 2 ^ 30) ∧ c.list.length ≤ 2 ^ 40 then some (.tuple [enc (doX q c).1, enc (doX q c).2], []) else none
theorem sp_xDo_ok : EOk Try.prog n_state_Do (sp2 sp_xDo) := sp2_ok fun q c r h => by
  simp only [sp_xDo] at h
  split at h <;> cases h
  rename_i h
  exact c_Do q c h.1 h.2
@[simp] def sp_xWrite (c : Ch) : Option (V × List Tip) := if c.list.length ≤ 2 ^ 40 then some (.tuple [.row 0 1 ((chW c).map cs), enc (chE c)], [(5, 1, (chW c).length)]) else none
theorem sp_xWrite_ok : EOk Try.prog n_change_Write (sp1 sp_xWrite) := sp1_ok fun c r h => by
  simp only [sp_xWrite] at h
  split at h <;> cases h
  exact c_ch_Write c (by assumption)
def DvsO : Orc := (((((((((Orc.nil.add n_w13_awake (sp0 (some (.val (.bool true), [])))).add n_w11_Few (sp1 sp_few11)).add n_w10_Few (sp1 sp_few10)).add n_state_Check (sp1 sp_stCheck)).add n_snap_Records (sp2 sp_xRecs)).add n_record_Size (sp1 sp_rSize)).add n_space_Snap (sp1 sp_spSnap)).add n_space_Change (sp1 sp_spChange)).add n_state_Do (sp2 sp_xDo)).add n_change_Write (sp1 sp_xWrite)
theorem DvsO_ok : OOk Try.prog DvsO := (((((((((OOk.nil.add (sp0_ok fun r h => by cases h; exact c_w13awake)).add sp_few11_ok).add sp_few10_ok).add sp_stCheck_ok).add sp_xRecs_ok).add sp_rSize_ok).add sp_spSnap_ok).add sp_spChange_ok).add sp_xDo_ok).add sp_xWrite_ok
theorem few10_len {c : Ch} (h : few10 c = true) : c.data.length ≤ 5000 ∧ c.list.length ≤ 70 := by
  simp only [few10, few7, Bool.and_eq_true, decide_eq_true_eq] at h
  exact ⟨h.1, h.2.1⟩
def SumI (q : Sta) (c : Ch) (k : Nat) (s : Nat → V) (m : Mem) : Prop :=
  ∃ i t, i + k = (recsL q 7).length ∧ s 2 = .ptr 0 0 ∧ s 3 = .ptr 1 0 ∧ s 5 = .val (.bool true) ∧ s 6 = .row t 3 ((recsL q 7).map cs) ∧ s 7 = .val (.int .i64 0) ∧ s 8 = .val (.int .i64 (sumR ((recsL q 7).take i))) ∧ s 9 = .val (.int .i64 i) ∧ m = ⟨[cs q, cs c], [(36, 3, (recsL q 7).length)]⟩
theorem c_SpaceSnaps (q : Sta) (c : Ch) (hq : staBig q) (hd : c.data.length ≤ 9223372036854775807) (hl : c.list.length ≤ 9223372036854775807) : Pure Try.prog n_w13_SpaceSnaps [enc q, enc c] (.val (.bool true)) [] := by
  refine Pure.ofC DvsO_ok hm F_w13_SpaceSnaps_ok (by simp [F_w13_SpaceSnaps]) rfl ?_
  obtain ⟨b1, b2, b3, b4⟩ := hq
  cases h1 : few11 q with
  | false =>
    simp [F_w13_SpaceSnaps, DvsO, b1, b2, b4, h1]
    exact b3
  | true =>
    obtain ⟨g1, g2, g3, g4⟩ := staLen' (few11_len h1)
    cases h2 : few10 c with
    | false =>
      simp [F_w13_SpaceSnaps, DvsO, b1, b2, b4, h1, h2, hd, hl]
      exact b3
    | true =>
      obtain ⟨k1, k2⟩ := few10_len h2
      have k3 : c.list.length ≤ 1099511627776 := by omega
      cases h3 : staOk q with
      | false =>
        have e : staE q = 110 := by simp [staE, h3]
        simp [F_w13_SpaceSnaps, DvsO, b1, b2, b4, h1, h2, hd, hl, g1, g2, g4, e]
        exact ⟨b3, g3⟩
      | true =>
        have e : staE q = 0 := by simp [staE, h3]
        obtain ⟨r1, r2, r3⟩ := recs_few h3
        obtain ⟨f1, _⟩ := staOk_fine h3
        have hn := mapOk_le f1
        simp [F_w13_SpaceSnaps, DvsO, b1, b2, b4, h1, h2, hd, hl, g1, g2, g4, e, r1]
        refine ⟨b3, g3, wp_loop (SumI q c) (recsL q 7).length (IW.of ⟨0, 0, by omega, by simp, by simp, by simp, by simp, by simp, by simp [sumR], by simp, by simp⟩) fun k s m ⟨i, t, hik, s2, s3, s5, s6, s7, s8, s9, hm⟩ => ?_⟩
        subst hm
        have hll : ((recsL q 7).length : Int) ≤ 10 := by unfold snpP snpB at r3; omega
        by_cases hi : i < (recsL q 7).length
        · have hsn : (recsL q 7).take (i + 1) = (recsL q 7).take i ++ [(recsL q 7)[i]] := by rw [List.take_add_one, List.getElem?_eq_getElem hi]; rfl
          have a1 := sumR_in ((recsL q 7).take i)
          have a2 := recSz_in (recsL q 7)[i].body.length
          rw [List.length_take] at a1
          have w1 := IntWalk.i64_in ((i : Int) + 1) (by omega)
          have w2 := IntWalk.i64_in (sumR ((recsL q 7).take i) + recSz (recsL q 7)[i].body.length) (by omega)
          simp [F_w13_SpaceSnaps_L0, DvsO, s2, s3, s5, s6, s7, s8, s9, hi, w1, w2]
          exact ⟨k - 1, by omega, IW.of ⟨i + 1, t, by omega, by simpa using s2, by simpa using s3, by simpa using s5, by simpa using s6, by simpa using s7, by rw [hsn, sumR_snoc]; simp, by simp, rfl⟩⟩
        · rw [List.take_of_length_le (by omega)] at s8
          by_cases h4 : (doX q c).2 = 0
          · obtain ⟨c1, c2⟩ := ch_fits h3 h4
            simp [F_w13_SpaceSnaps_L0, DvsO, s2, s3, s5, s6, s7, s8, s9, hi, h4, hn.1, hn.2, g1, g2, g4, k3, r2, r3, c2]
            exact g3
          · simp [F_w13_SpaceSnaps_L0, DvsO, s2, s3, s5, s6, s7, s8, s9, hi, h4, hn.1, hn.2, g1, g2, g4, k3, r2, r3]
            exact g3
end Go.Av

namespace Go.Av
open Enc (enc dec)
open Cel (cs dc)
open Go.RowKit Go.ChangeShapes Go.WideShapes Go.Deep

/-- The old memory. -/
def oldI (w : World) (b _o : Nat) : Prop := b < w.heap.size
def oldM (w : World) : Mp := ⟨[], [], oldI w, fun _ => none, fun _ => 0⟩
/-- Cells of a type are those of a plain value that has a property. -/
def Opn (P : Program) (t : TypeId) {α : Type} (c : α → List V) (Wf : α → Prop) : Prop :=
  (∀ a, (c a).length = P.cellsOf t) ∧ ∀ {H : Type} (en : TypeId × Value → H) (w : World) (base : Nat) (spare : Nat → Bool) (held : Bool) (fuel : Nat) (cs : List Value) (x : DataW H × List MemPlace),
    DataW.trod en P w base spare held fuel t cs = some x → ∃ a : α, Wf a ∧ RepL (oldM w) w (c a) cs ∧ ∀ v ∈ cs, v.oneCell' = true
theorem block_lt {w : World} {a : Addr} {v : Value} (h : w.cell? a = some v) : a.block < w.heap.size ∧ a.spot = none := by
  unfold World.cell? at h
  split at h
  · rename_i c e f hh
    refine ⟨(Array.getElem?_eq_some_iff.1 hh).1, ?_⟩
    cases hs : a.spot with
    | none => rfl
    | some s => simp [hs] at h
  · cases h
theorem Opn.int {P : Program} {t : TypeId} (ht : P.underlying t = some (.int .i64)) (hc : P.cellsOf t = 1) : Opn P t (fun n : Int => [enc n]) fun n => (Lit.int .i64 n).wf = true := by
  refine ⟨fun _ => hc.symm, fun en w base spare held fuel cs x h => ?_⟩
  obtain ⟨n, rfl, _, hw⟩ := DataW.trod_int ht h
  exact ⟨n, hw, ⟨_, _, rfl, ⟨rfl, rfl⟩, rfl⟩, by simp [Value.oneCell']⟩
theorem Opn.u8 {P : Program} {t : TypeId} (ht : P.underlying t = some (.int .u8)) (hc : P.cellsOf t = 1) : Opn P t (fun b : UInt8 => Cel.cs b) fun _ => True := by
  refine ⟨fun _ => hc.symm, fun en w base spare held fuel cs x h => ?_⟩
  obtain ⟨n, rfl, _, hw⟩ := DataW.trod_int ht h
  have hw := bounds_u8 hw
  have e : ((UInt8.ofNat n.toNat).toNat : Int) = n := by
    rw [UInt8.toNat_ofNat']
    omega
  refine ⟨UInt8.ofNat n.toNat, trivial, ⟨_, _, rfl, ⟨?_, rfl⟩, rfl⟩, by simp [Value.oneCell']⟩
  rw [e]
theorem cellsRep {w : World} {base n : Nat} {a : Addr} {cs : List Value} {l : List V} (h : w.cells? base a n = some cs) (hr : RepL (oldM w) w l cs) (ho : ∀ v ∈ cs, v.oneCell' = true) : RepC (oldM w) w l a.block a.off ∧ (l = [] ∨ a.spot = none) := by
  obtain ⟨_, hlen, hget⟩ := World.cells?_some h
  have hll := hr.length
  refine ⟨RepC.of_get fun i v hi => ?_, ?_⟩
  · obtain ⟨x, hx, hrep⟩ := hr.get hi
    have hin : i < n := by
      have := (List.getElem?_eq_some_iff.1 hx).1
      omega
    have hc := hget i hin
    rw [hx] at hc
    have hb := block_lt hc
    have e : a.add i = ⟨a.block, a.off + i, none⟩ := by
      unfold Addr.add at hb ⊢
      split
      · rename_i h0
        rw [if_pos h0] at hb
        subst h0
        cases a
        simp at hb ⊢
        exact hb.2
      · rfl
    rw [e] at hc hb
    exact ⟨x, hb.1, hc, ho x (List.mem_of_getElem? hx), hrep⟩
  · cases l with
    | nil => exact .inl rfl
    | cons v l =>
      right
      obtain ⟨x, hx, _⟩ := hr.get (i := 0) (v := v) rfl
      have hin : 0 < n := by
        have := (List.getElem?_eq_some_iff.1 hx).1
        omega
      have hc := hget 0 hin
      rw [hx] at hc
      exact (block_lt (a := a) (by simpa [Addr.add] using hc)).2
theorem Opn.slice {P : Program} {t e : TypeId} {α : Type} [Cel α] {Wf : α → Prop} (ht : P.underlying t = some (.slice e)) (hc : P.cellsOf t = 1) (hz : 0 < Cel.sz α) (he : Opn P e (Cel.cs (α := α)) Wf) : Opn P t (fun l : List α => [enc l]) fun l => l.length ≤ maxLen ∧ ∀ a ∈ l, Wf a := by
  refine ⟨fun _ => hc.symm, fun en w base spare held fuel cs x h => ?_⟩
  rcases open_slice ht h with ⟨rfl, rfl⟩ | ⟨a, len, cap, m, n, D, Pl, rfl, hb, hl, hm, hmm, rfl, hx⟩
  · exact ⟨[], ⟨Nat.zero_le _, by simp⟩, ⟨_, _, rfl, .inl ⟨rfl, rfl⟩, rfl⟩, by simp [Value.oneCell']⟩
  · have hlm : len ≤ m := by rw [hmm]; split <;> omega
    have key : ∀ j, j ≤ len → ∃ l : List α, l.length = j ∧ (∀ b ∈ l, Wf b) ∧ RepX (oldM w) w (l.map Cel.cs) a.block (a.off + (len - j) * Cel.sz α) ∧ (l = [] ∨ len - j ≠ 0 ∨ a.spot = none) := by
      intro j
      induction j with
      | zero => intro _; exact ⟨[], rfl, by simp, trivial, .inl rfl⟩
      | succ j ih =>
        intro hj
        obtain ⟨l, h1, h2, h3, _⟩ := ih (by omega)
        obtain ⟨cs', h4, h5⟩ := hx (len - (j + 1)) (by omega)
        obtain ⟨b, h6, h7, h8⟩ := he.2 en w base spare held n cs' _ h5
        obtain ⟨h9, h10⟩ := cellsRep h4 h7 h8
        have eo : (a.add ((len - (j + 1)) * P.cellsOf e)).block = a.block ∧ (a.add ((len - (j + 1)) * P.cellsOf e)).off = a.off + (len - (j + 1)) * Cel.sz α := by
          rw [← he.1 b, Cel.len]
          unfold Addr.add
          split
          · rename_i h0; exact ⟨rfl, by rw [h0]; rfl⟩
          · exact ⟨rfl, rfl⟩
        rw [eo.1, eo.2] at h9
        refine ⟨b :: l, by simp [h1], ?_, ⟨h9, ?_⟩, ?_⟩
        · intro c hc
          rcases List.mem_cons.1 hc with rfl | hc
          · exact h6
          · exact h2 c hc
        · have e2 : a.off + (len - (j + 1)) * Cel.sz α + (Cel.cs b).length = a.off + (len - j) * Cel.sz α := by
            rw [Cel.len]
            have : len - j = (len - (j + 1)) + 1 := by omega
            rw [this, Nat.add_mul]
            omega
          rw [e2]
          exact h3
        · by_cases h0 : len - (j + 1) = 0
          · right; right
            rw [h0, Nat.zero_mul] at h10
            rcases h10 with h10 | h10
            · have := congrArg List.length h10
              rw [Cel.len] at this
              simp at this
              omega
            · simpa [Addr.add] using h10
          · exact .inr (.inl h0)
    obtain ⟨l, h1, h2, h3, h4⟩ := key len (Nat.le_refl _)
    refine ⟨l, ⟨by omega, h2⟩, ⟨_, _, rfl, .inr ⟨a, cap, by simp [h1], by simp; omega, ?_, ?_, ?_⟩, rfl⟩, by simp [Value.oneCell']⟩
    · rcases h4 with h4 | h4 | h4
      · left; simp [h4]
      · omega
      · exact .inr h4
    · intro c hc
      obtain ⟨b, _, rfl⟩ := List.mem_map.1 hc
      exact Cel.len b
    · simpa using h3
/-- A struct's fields, of a cell each. -/
theorem open_flat {P : Program} {t : TypeId} {fs : Array Field} {H : Type} {en : TypeId × Value → H} {w : World} {base : Nat} {spare : Nat → Bool} {held : Bool} {fuel : Nat} {cs : List Value} {x : DataW H × List MemPlace}
    (ht : P.underlying t = some (.struct fs)) (hof : ∀ (i : Nat) (f : Field), fs[i]? = some f → f.offset = i ∧ P.cellsOf f.type = 1) (hc : P.cellsOf t = fs.size) (h : DataW.trod en P w base spare held fuel t cs = some x) :
    cs.length = fs.size ∧ ∃ n, ∀ (i : Nat) (f : Field), fs[i]? = some f → ∃ v y, cs[i]? = some v ∧ DataW.trod en P w base spare held n f.type [v] = some y := by
  obtain ⟨xs, n, _, _, hl, hlen, hf⟩ := DataW.trod_struct ht h
  refine ⟨by rw [hl, hc], n, fun i f hi => ?_⟩
  have h1 := hf i f hi
  obtain ⟨h2, h3⟩ := hof i f hi
  have hi2 := (Array.getElem?_eq_some_iff.1 hi).1
  rw [h2, h3, List.getElem?_eq_getElem (by omega)] at h1
  have h4 : i < cs.length := by omega
  refine ⟨cs[i], xs[i], List.getElem?_eq_getElem h4, ?_⟩
  rw [← h1, List.drop_eq_getElem_cons h4]
  rfl
/-- A value of more cells than one. -/
theorem Opn.agg {P : Program} {t : TypeId} {α : Type} {c : α → List V} {Wf : α → Prop} (h : Opn P t c Wf) {H : Type} {en : TypeId × Value → H} {w : World} {base : Nat} {spare : Nat → Bool} {held : Bool} {v : Value} {d : DataW H} {ps : List MemPlace} {xs : Array Value} (hv : v = .agg xs) (hd : DataW.Trod en P w base spare held t v d ps) :
    ∃ a : α, Wf a ∧ Rep (oldM w) w (.agg (c a)) v := by
  obtain ⟨fuel, hd⟩ := hd
  subst hv
  obtain ⟨a, h1, h2, _⟩ := h.2 en w base spare held fuel _ _ hd
  exact ⟨a, h1, xs, rfl, h2⟩
/-- A value of one cell. -/
theorem Opn.one {P : Program} {t : TypeId} {α : Type} {e : α → V} {Wf : α → Prop} (h : Opn P t (fun a => [e a]) Wf) {H : Type} {en : TypeId × Value → H} {w : World} {base : Nat} {spare : Nat → Bool} {held : Bool} {v : Value} {d : DataW H} {ps : List MemPlace} (hv : v.oneCell' = true) (hd : DataW.Trod en P w base spare held t v d ps) :
    ∃ a : α, Wf a ∧ Rep (oldM w) w (e a) v := by
  obtain ⟨fuel, hd⟩ := hd
  have hc : v.cells.toList = [v] := by cases v <;> first | rfl | simp [Value.oneCell'] at hv
  rw [hc] at hd
  obtain ⟨a, h1, ⟨x, r, h2, h3, h4⟩, _⟩ := h.2 en w base spare held fuel _ _ hd
  cases h2
  exact ⟨a, h1, h3⟩
/-- Behind the call: the answer is plain, what was there reads as it did. -/
theorem post_of_below {H : Type} {en : TypeId × Value → H} {P : Program} {f : Func} {s : ChangeSpec} {apart fresh handsOn again : Bool} {W W' : World} {args : Array Value} {v : Value} {ds gs : List (DataW H)} {before pa pv : List MemPlace}
    (hW : DataW.Whole en P f.params.toList s.vars apart W args.toList ds gs before) (hb : Below W.heap.size W W')
    (hres : ∀ (b : Nat) (sp : Nat → Bool) (hd : Bool), DataW.TrodAll en P W' b sp hd f.resultTypes.toList (v.resultList f.resultTypes.size) (s.fn H (ds ++ gs)).results [])
    (hargs : ∀ sp : Nat → Bool, (∀ p ∈ before, sp p.block = true) → DataW.TrodAll en P W' 0 sp true f.params.toList args.toList (s.fn H (ds ++ gs)).args pa)
    (hvars : ∀ sp : Nat → Bool, (∀ p ∈ before, sp p.block = true) → DataW.TrodVars en P W' sp s.vars (s.fn H (ds ++ gs)).vars pv)
    (hps : before = pa ++ pv)
    (hok : ∀ (j : Nat) (t : TypeId) (r : Value), f.resultTypes[j]? = some t → (v.resultList f.resultTypes.size)[j]? = some r → Value.okWide P W' .any 0 t r) :
    s.post en P f apart fresh handsOn again W args v W' := by
  have hold : ∀ p ∈ before, (fun b => decide (b < W.heap.size)) p.block = true := fun p hp => by simpa using hW.lt p hp
  refine ⟨ds, gs, before, [], pa, pv, hW, hres _ _ _, hargs _ hold, hvars _ hold, World.keptBut_mono (fun p hp => ⟨hp, ?_⟩) (hb.frame (· ∈ before)), fun _ => ?_⟩
  · rw [hps, List.mem_append] at hp
    exact Or.inr hp
  · have hlt := hW.lt
    obtain ⟨_, _, _, _, _, hz, hn⟩ := hW
    refine ⟨hok, _, _, ([] ++ pa) ++ pv, ⟨[] ++ pa, pv, trodAll_append (hargs _ (fun _ _ => rfl)) (hres _ _ _), hvars _ (fun _ _ => rfl), rfl, ?_, ?_⟩, ?_⟩
    · intro b off hp
      have hp' : MemPlace.cell b off ∈ before := by rw [hps]; simpa using hp
      rw [hb.frozen (p := ⟨b, off, none⟩) (hlt _ hp')]
      exact hz b off hp'
    · intro ha
      have := hn ha
      rw [hps] at this
      simpa using this
    · intro p hp _
      rw [hps]
      simpa using hp
/-- What was handed in reads as it did. -/
theorem TrodAll_stays {H : Type} {en : TypeId × Value → H} {P : Program} {W W' : World} (hl : laidOutB P = true) {sp : Nat → Bool} (hb : Below W.heap.size W W') : ∀ {ts : List TypeId} {vs : List Value} {ds : List (DataW H)} {ps : List MemPlace},
    (∀ t ∈ ts, P.readableRec t = true ∧ t < P.types.size) → DataW.TrodAll en P W 0 (fun _ => true) true ts vs ds ps → (∀ x ∈ ps, x.block < W.heap.size) → (∀ x ∈ ps, sp x.block = true) → DataW.TrodAll en P W' 0 sp true ts vs ds ps
  | [], _, _, _, _, h, _, _ => by
    obtain ⟨rfl, rfl, rfl⟩ := trodAll_nil h
    exact trodAll_mk0
  | t :: ts, _, _, _, ht, h, hlt, hsp => by
    obtain ⟨v, vs1, d, ds1, a, b, rfl, rfl, rfl, h1, h2⟩ := trodAll_cons h
    obtain ⟨k1, k2⟩ := ht t (List.mem_cons_self ..)
    exact ⟨a, b, WideElems.Trod_stays hl k1 k2 h1 (fun x hx => hb.same (hlt x (List.mem_append_left _ hx))) (fun x hx => hsp x (List.mem_append_left _ hx)),
      TrodAll_stays hl hb (fun t ht' => ht t (List.mem_cons_of_mem _ ht')) h2 (fun x hx => hlt x (List.mem_append_right _ hx)) (fun x hx => hsp x (List.mem_append_right _ hx)), rfl⟩
end Go.Av

namespace Go.Av
open Enc (enc dec)
open Cel (cs dc)
open Go.Proofs Pl Go.ChangeShapes Go.WideShapes Go.RowKit

theorem Opn.weak {P : Program} {t : TypeId} {α : Type} {c : α → List V} {W W' : α → Prop} (h : Opn P t c W) (hw : ∀ a, W a → W' a) : Opn P t c W' :=
  ⟨h.1, fun en w base spare held fuel cs x hd => by
    obtain ⟨a, h1, h2⟩ := h.2 en w base spare held fuel cs x hd
    exact ⟨a, hw a h1, h2⟩⟩
theorem opn_int : Opn Try.prog 3 (fun n : Int => [enc n]) (fun n => (Lit.int .i64 n).wf = true) := Opn.int Try.underlying3 (by kernel_rfl)
theorem opn_u8 : Opn Try.prog 5 (fun b : UInt8 => cs b) (fun _ => True) := Opn.u8 Try.underlying5 (by kernel_rfl)
theorem opn_bytes : Opn Try.prog 34 (fun l : List UInt8 => [enc l]) (fun l => l.length ≤ maxLen ∧ ∀ b ∈ l, True) := Opn.slice Try.underlying34 (by kernel_rfl) (by decide) opn_u8
/-- A function of a plain answer, run. -/
theorem Pure.run {P : Program} {f : FuncId} {args : List V} {r : Value} {w : World} {vals : Array Value} (h : Pure P f args (.val r) []) (hr : RepL (oldM w) w args vals.toList) :
    Calls P f vals w fun e w' => e = .returned r ∧ Below w.heap.size w w' := by
  refine (h.2.2 (oldI w) w vals (fun b o hb => hb) hr).mono fun e w' ⟨x, M', he, hg, hx⟩ => ?_
  obtain ⟨rfl, _⟩ := hx
  exact ⟨he, hg.below⟩
end Go.Av

namespace Go.Av
open Enc (enc dec)
open Cel (cs dc)
open Go.Proofs Pl Go.ChangeShapes Go.WideShapes Go.RowKit

theorem opn_xt : Opn Try.prog 174 (fun x : Xt => cs x) (fun _ => True) := by
  refine ⟨fun _ => Eq.symm (by kernel_rfl), fun en w base spare held fuel c x h => ?_⟩
  obtain ⟨hl, n, hf⟩ := open_flat Try.underlying174 (by rintro (_ | _ | _ | _ | _ | i) f hi <;> simp at hi <;> subst hi <;> exact ⟨rfl, by kernel_rfl⟩) (by kernel_rfl) h
  obtain ⟨v0, y0, g0, t0⟩ := hf 0 _ rfl
  obtain ⟨v1, y1, g1, t1⟩ := hf 1 _ rfl
  obtain ⟨v2, y2, g2, t2⟩ := hf 2 _ rfl
  obtain ⟨v3, y3, g3, t3⟩ := hf 3 _ rfl
  obtain ⟨v4, y4, g4, t4⟩ := hf 4 _ rfl
  obtain rfl : c = [v0, v1, v2, v3, v4] := by
    match c, hl with
    | [a0, a1, a2, a3, a4], _ => simp at g0 g1 g2 g3 g4; simp [g0, g1, g2, g3, g4]
  obtain ⟨a0, _, r0, o0⟩ := opn_int.2 en w base spare held n _ _ t0
  obtain ⟨a1, _, r1, o1⟩ := opn_int.2 en w base spare held n _ _ t1
  obtain ⟨a2, _, r2, o2⟩ := opn_int.2 en w base spare held n _ _ t2
  obtain ⟨a3, _, r3, o3⟩ := opn_int.2 en w base spare held n _ _ t3
  obtain ⟨a4, _, r4, o4⟩ := opn_bytes.2 en w base spare held n _ _ t4
  refine ⟨⟨a0, a1, a2, a3, a4⟩, trivial, r0.append (r1.append (r2.append (r3.append r4))), ?_⟩
  intro v hv
  simp only [List.mem_cons, List.not_mem_nil, or_false] at hv
  rcases hv with rfl | rfl | rfl | rfl | rfl
  · exact o0 _ (by simp)
  · exact o1 _ (by simp)
  · exact o2 _ (by simp)
  · exact o3 _ (by simp)
  · exact o4 _ (by simp)
theorem opn_xts : Opn Try.prog 40 (fun l : List Xt => [enc l]) (fun l => l.length ≤ maxLen ∧ ∀ b ∈ l, True) := Opn.slice Try.underlying40 (by kernel_rfl) (by decide) opn_xt
theorem opn_pt : Opn Try.prog 110 (fun x : Pt => cs x) (fun p => p.map.length ≤ maxLen) := by
  refine ⟨fun _ => Eq.symm (by kernel_rfl), fun en w base spare held fuel c x h => ?_⟩
  obtain ⟨hl, n, hf⟩ := open_flat Try.underlying110 (by rintro (_ | _ | _ | i) f hi <;> simp at hi <;> subst hi <;> exact ⟨rfl, by kernel_rfl⟩) (by kernel_rfl) h
  obtain ⟨v0, y0, g0, t0⟩ := hf 0 _ rfl
  obtain ⟨v1, y1, g1, t1⟩ := hf 1 _ rfl
  obtain ⟨v2, y2, g2, t2⟩ := hf 2 _ rfl
  obtain rfl : c = [v0, v1, v2] := by
    match c, hl with
    | [a0, a1, a2], _ => simp at g0 g1 g2; simp [g0, g1, g2]
  obtain ⟨a0, _, r0, o0⟩ := opn_int.2 en w base spare held n _ _ t0
  obtain ⟨a1, _, r1, o1⟩ := opn_int.2 en w base spare held n _ _ t1
  obtain ⟨a2, m2, r2, o2⟩ := opn_xts.2 en w base spare held n _ _ t2
  refine ⟨⟨a0, a1, a2⟩, m2.1, r0.append (r1.append r2), ?_⟩
  intro v hv
  simp only [List.mem_cons, List.not_mem_nil, or_false] at hv
  rcases hv with rfl | rfl | rfl
  · exact o0 _ (by simp)
  · exact o1 _ (by simp)
  · exact o2 _ (by simp)
theorem opn_pts : Opn Try.prog 41 (fun l : List Pt => [enc l]) (fun l => l.length ≤ maxLen ∧ ∀ p ∈ l, p.map.length ≤ maxLen) := Opn.slice Try.underlying41 (by kernel_rfl) (by decide) opn_pt
theorem opn_sta : Opn Try.prog 43 (fun x : Sta => cs x) staBig := by
  refine ⟨fun _ => Eq.symm (by kernel_rfl), fun en w base spare held fuel c x h => ?_⟩
  obtain ⟨hl, n, hf⟩ := open_flat Try.underlying43 (by rintro (_ | _ | _ | _ | _ | _ | i) f hi <;> simp at hi <;> subst hi <;> exact ⟨rfl, by kernel_rfl⟩) (by kernel_rfl) h
  obtain ⟨v0, y0, g0, t0⟩ := hf 0 _ rfl
  obtain ⟨v1, y1, g1, t1⟩ := hf 1 _ rfl
  obtain ⟨v2, y2, g2, t2⟩ := hf 2 _ rfl
  obtain ⟨v3, y3, g3, t3⟩ := hf 3 _ rfl
  obtain ⟨v4, y4, g4, t4⟩ := hf 4 _ rfl
  obtain ⟨v5, y5, g5, t5⟩ := hf 5 _ rfl
  obtain rfl : c = [v0, v1, v2, v3, v4, v5] := by
    match c, hl with
    | [a0, a1, a2, a3, a4, a5], _ => simp at g0 g1 g2 g3 g4 g5; simp [g0, g1, g2, g3, g4, g5]
  obtain ⟨a0, _, r0, o0⟩ := opn_int.2 en w base spare held n _ _ t0
  obtain ⟨a1, _, r1, o1⟩ := opn_int.2 en w base spare held n _ _ t1
  obtain ⟨a2, m2, r2, o2⟩ := opn_xts.2 en w base spare held n _ _ t2
  obtain ⟨a3, m3, r3, o3⟩ := opn_pts.2 en w base spare held n _ _ t3
  obtain ⟨a4, _, r4, o4⟩ := opn_int.2 en w base spare held n _ _ t4
  obtain ⟨a5, m5, r5, o5⟩ := opn_bytes.2 en w base spare held n _ _ t5
  refine ⟨⟨a0, a1, a2, a3, a4, a5⟩, ⟨m2.1, m3.1, m3.2, m5.1⟩, r0.append (r1.append (r2.append (r3.append (r4.append r5)))), ?_⟩
  intro v hv
  simp only [List.mem_cons, List.not_mem_nil, or_false] at hv
  rcases hv with rfl | rfl | rfl | rfl | rfl | rfl
  · exact o0 _ (by simp)
  · exact o1 _ (by simp)
  · exact o2 _ (by simp)
  · exact o3 _ (by simp)
  · exact o4 _ (by simp)
  · exact o5 _ (by simp)
end Go.Av

namespace Go.Av
open Enc (enc dec)
open Cel (cs dc)
open Go.Proofs Pl Go.ChangeShapes Go.WideShapes Go.RowKit

theorem opn_ch : Opn Try.prog 70 (fun x : Ch => cs x) (fun c => c.data.length ≤ maxLen ∧ c.list.length ≤ maxLen) := by
  refine ⟨fun _ => Eq.symm (by kernel_rfl), fun en w base spare held fuel c x h => ?_⟩
  obtain ⟨hl, n, hf⟩ := open_flat Try.underlying70 (by rintro (_ | _ | _ | _ | _ | _ | i) f hi <;> simp at hi <;> subst hi <;> exact ⟨rfl, by kernel_rfl⟩) (by kernel_rfl) h
  obtain ⟨v0, y0, g0, t0⟩ := hf 0 _ rfl
  obtain ⟨v1, y1, g1, t1⟩ := hf 1 _ rfl
  obtain ⟨v2, y2, g2, t2⟩ := hf 2 _ rfl
  obtain ⟨v3, y3, g3, t3⟩ := hf 3 _ rfl
  obtain ⟨v4, y4, g4, t4⟩ := hf 4 _ rfl
  obtain ⟨v5, y5, g5, t5⟩ := hf 5 _ rfl
  obtain rfl : c = [v0, v1, v2, v3, v4, v5] := by
    match c, hl with
    | [a0, a1, a2, a3, a4, a5], _ => simp at g0 g1 g2 g3 g4 g5; simp [g0, g1, g2, g3, g4, g5]
  obtain ⟨a0, _, r0, o0⟩ := opn_int.2 en w base spare held n _ _ t0
  obtain ⟨a1, _, r1, o1⟩ := opn_int.2 en w base spare held n _ _ t1
  obtain ⟨a2, _, r2, o2⟩ := opn_int.2 en w base spare held n _ _ t2
  obtain ⟨a3, _, r3, o3⟩ := opn_int.2 en w base spare held n _ _ t3
  obtain ⟨a4, m4, r4, o4⟩ := opn_bytes.2 en w base spare held n _ _ t4
  obtain ⟨a5, m5, r5, o5⟩ := opn_xts.2 en w base spare held n _ _ t5
  refine ⟨⟨a0, a1, a2, a3, a4, a5⟩, ⟨m4.1, m5.1⟩, r0.append (r1.append (r2.append (r3.append (r4.append r5)))), ?_⟩
  intro v hv
  simp only [List.mem_cons, List.not_mem_nil, or_false] at hv
  rcases hv with rfl | rfl | rfl | rfl | rfl | rfl
  · exact o0 _ (by simp)
  · exact o1 _ (by simp)
  · exact o2 _ (by simp)
  · exact o3 _ (by simp)
  · exact o4 _ (by simp)
  · exact o5 _ (by simp)
end Go.Av
