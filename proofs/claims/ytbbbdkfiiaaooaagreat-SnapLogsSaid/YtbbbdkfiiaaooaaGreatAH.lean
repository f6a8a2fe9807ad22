/-
  SlA: The law SnapLogs: what it computes.
  AvOp: Arguments, as a row reads them, as plain values of Lean; behind the call they read as they did.
  ZlSnOp: What the rows hand in: numbers, and bytes.
  ZlToP: What the rows hand in, as plain values.
-/
import Derived.Test.YtbbbdkfiiaaooaaGreatAG
import Derived.Deep.Slices
import Derived.ChangeSame
import Derived.Carry
import Derived.OpenShut
set_option linter.unusedSimpArgs false
set_option linter.unusedVariables false

namespace Go.Av.Pl
theorem fndL_map' : ∀ {l : List Rec} {P : List (Nat × Nat)}, P.length = l.length → (fndL l P).map (·.rcd) = l
  | [], [], _ => rfl
  | r :: l, p :: P, h => by rw [fndL, List.map_cons, fndL_map' (by simpa using h)]
  | [], _ :: _, h => by simp at h
  | _ :: _, [], h => by simp at h
/-- Records with numbers from n on, one behind the other: as they are found they run. -/
theorem runF_from (n : Int) : ∀ (L : List Fnd) (pre : List Fnd) (k : Nat), L.length < k → (∀ (i : Nat) (hi : i < (pre ++ L).length), (pre ++ L)[i].rcd.seq = n + (i : Int)) → runF (pre ++ L) k (n + (pre.length : Int)) = L.map (·.rcd)
  | [], pre, k, hk, h => by
    have : lookF (pre ++ []) (n + (pre.length : Int)) = none := by
      refine look_none' fun f hf => ?_
      obtain ⟨i, hi, rfl⟩ := List.getElem_of_mem hf
      rw [h i hi]
      simp at hi
      omega
    cases k with
    | zero => omega
    | succ k => rw [runF, this]; rfl
  | f :: L, pre, k, hk, h => by
    obtain ⟨k, rfl⟩ : ∃ j, k = j + 1 := ⟨k - 1, by simp at hk; omega⟩
    have hf : lookF (pre ++ f :: L) (n + (pre.length : Int)) = some f.rcd := by
      unfold lookF
      have h0 : pre.length < (pre ++ f :: L).length := by simp
      have h1 := h pre.length h0
      have h2 : (pre ++ f :: L)[pre.length] = f := by simp
      rw [h2] at h1
      have : (pre ++ f :: L).find? (fun g => g.rcd.seq == n + (pre.length : Int)) = some f := by
        rw [List.find?_eq_some_iff_getElem]
        refine ⟨by simpa using h1, pre.length, h0, h2, fun i hi => ?_⟩
        have := h i (by omega)
        rw [this]
        simp
        omega
      rw [this]
      rfl
    rw [runF, hf]
    have e : pre ++ f :: L = (pre ++ [f]) ++ L := by simp
    have := runF_from n L (pre ++ [f]) k (by simp at hk; omega) (by rw [← e]; exact h)
    rw [← e] at this
    simp only [List.length_append, List.length_singleton] at this
    rw [List.map_cons, ← this]
    have e2 : n + (pre.length : Int) + 1 = n + ((pre.length + 1 : Nat) : Int) := by omega
    rw [e2]
end Go.Av.Pl
namespace Go.Av
open Enc (enc dec)
open Cel (cs dc)
open Go.Proofs Pl

def DslO : Orc := (((((((((Orc.nil.add n_w12_awake (sp0 sp_awake)).add n_w11_Few (sp1 sp_few11)).add n_state_Check (sp1 sp_stCheck)).add n_dev_New (sp2 sp_dNew)).add n_snap_Records (sp2 sp_snapRecs)).add n_log_Append (sp2 sp_lApp)).add n_log_All (sp1 sp_lAll)).add n_snap_Found (sp1 sp_snapFound)).add n_r11_Same (sp2 sp_stSame)).add n_log_Run (sp2 sp_lRun)
theorem DslO_ok : OOk Tryz.prog DslO := (((((((((OOk.nil.add sp_awake_ok).add sp_few11_ok).add sp_stCheck_ok).add sp_dNew_ok).add sp_snapRecs_ok).add sp_lApp_ok).add sp_lAll_ok).add sp_snapFound_ok).add sp_stSame_ok).add sp_lRun_ok
def SlI (q : Sta) (seq kk : Nat) (a : Int) (k : Nat) (s : Nat → V) (m : Mem) : Prop :=
  ∃ (i u : Nat) (r : List (List V)) (t : List Tip), i + k = kk ∧ s 1 = .val (.int .i64 seq) ∧ s 2 = .val (.int .u8 a) ∧ s 3 = .ptr 0 0 ∧ s 7 = .val (.bool true) ∧ s 8 = .ptr 1 0 ∧ s 10 = .row u 3 ((slR q seq i).map cs) ∧ s 11 = .val (.int .i64 0) ∧ s 12 = .val (.int .i64 i) ∧ m = ⟨cs q :: cs (dNew 12 8192) :: r, t⟩ ∧ t[u]? = some (40, 3, (slR q seq i).length)
theorem c_SnapLogs (q : Sta) (n a : Int) (hq : staBig q) (ha : 0 ≤ a ∧ a < 256) : Pure Tryz.prog n_w12_SnapLogs [enc q, enc n, .val (.int .u8 a)] (.val (.bool true)) [] := by
  refine Pure.ofC DslO_ok hm F_w12_SnapLogs_ok (by simp [F_w12_SnapLogs]) rfl ?_
  have hq' : q.map.length ≤ 9223372036854775807 ∧ q.pts.length ≤ 9223372036854775807 ∧ (∀ p : Pt, p ∈ q.pts → p.map.length ≤ 9223372036854775807) ∧ q.staged.length ≤ 9223372036854775807 := hq
  cases hf : few11 q with
  | false => simp [F_w12_SnapLogs, DslO, hf, hq'.1, hq'.2.1, eq_true hq'.2.2.1, hq'.2.2.2]
  | true =>
  have hl := staLen' (few11_len hf)
  cases hok : staOk q with
  | false =>
    have he := staE_no hok
    simp [F_w12_SnapLogs, DslO, hf, hq'.1, hq'.2.1, eq_true hq'.2.2.1, hq'.2.2.2, hl.1, hl.2.1, eq_true hl.2.2.1, hl.2.2.2, he]
  | true =>
  have he := staE_ok hok
  by_cases h1 : n < 0
  · simp [F_w12_SnapLogs, DslO, hf, hq'.1, hq'.2.1, eq_true hq'.2.2.1, hq'.2.2.2, hl.1, hl.2.1, eq_true hl.2.2.1, hl.2.2.2, he, h1]
  by_cases h2 : 1099511627776 < n
  · simp [F_w12_SnapLogs, DslO, hf, hq'.1, hq'.2.1, eq_true hq'.2.2.1, hq'.2.2.2, hl.1, hl.2.1, eq_true hl.2.2.1, hl.2.2.2, he, h1, h2]
  obtain ⟨seq, rfl⟩ : ∃ x : Nat, n = x := ⟨n.toNat, by omega⟩
  have hs40 : seq ≤ 2 ^ 40 := by omega
  have hs : seqOk (seq : Int) = true := by simp only [seqOk, decide_eq_true_eq]; omega
  obtain ⟨r1, r2, r3, r4, r5, r6⟩ := recs_facts hok hs
  obtain ⟨kk, hkk, hkk3⟩ : ∃ kk : Nat, a.tmod 4 = (kk : Int) ∧ kk ≤ 3 := by
    rw [Int.tmod_eq_emod_of_nonneg ha.1]
    have := Int.emod_nonneg a (show (4 : Int) ≠ 0 by decide)
    have := Int.emod_lt_of_pos a (show (0 : Int) < 4 by decide)
    exact ⟨(a % 4).toNat, by omega, by omega⟩
  have w1 := IntWalk.i64_in a (by omega)
  have w2 := IntWalk.i64_in (kk : Int) (by omega)
  obtain ⟨g1, g2, g3, g4, g5⟩ := held_new 12 8192 (by omega) (by omega)
  simp only [Int.cast_ofNat_Int] at g1 g2 g3 g4 g5
  have hR0 : recsL q seq = slR q seq 0 := by simp [slR, moreL]
  simp [F_w12_SnapLogs, DslO, hf, hq'.1, hq'.2.1, eq_true hq'.2.2.1, hq'.2.2.2, hl.1, hl.2.1, eq_true hl.2.2.1, hl.2.2.2, he, h2, r1, g5]
  rw [hR0]
  refine wp_loop (SlI q seq kk a) kk (IW.of ⟨0, 0, [], _, by omega, by simp, by simp, by simp, by simp, by simp, by simp, by simp, by simp, rfl, by simp⟩) fun k s m ⟨i, u, r, t, hik, s1, s2, s3, s7, s8, s10, s11, s12, hm, ht⟩ => ?_
  subst hm
  cases k with
  | succ k =>
    obtain ⟨f1, f2, f3, f4⟩ := sl_facts hok hs40 (k := i) (by omega)
    have hik2 : (i : Int) < kk := by omega
    have hlen : (slR q seq i).length = (recsL q seq).length + i := f1
    have w3 := IntWalk.i64_in ((seq : Int) + (slR q seq i).length) (by omega)
    have w4 := IntWalk.u8_in (i : Int) (by omega)
    have w5 := IntWalk.i64_in ((i : Int) + 1) (by omega)
    have hU : ((UInt8.ofNat i).toNat : Int) = i := by rw [UInt8.toNat_ofNat']; omega
    have hsucc : slR q seq (i + 1) = slR q seq i ++ [⟨1, (seq : Int) + (slR q seq i).length, [UInt8.ofNat i]⟩] := by
      rw [hlen, slR, moreL, ← List.append_assoc]
      rfl
    simp [F_w12_SnapLogs_L0, DslO, s1, s2, s3, s7, s8, s10, s11, s12, w1, w2, hkk, hik2, w3, w4, w5, ht]
    refine ⟨by omega, k, by omega, IW.of ⟨i + 1, u, r, _, by omega, by simp [s1], by simp [s2], by simp [s3], by simp [s7], by simp [s8], ?_, by simp [s11], by simp, rfl, ?_⟩⟩
    · rw [hsucc]
      simp
      omega
    · rw [hsucc, List.getElem?_set_self (lt_of_some ht)]
      simp
  | zero =>
    have hi : i = kk := by omega
    subst hi
    obtain ⟨f1, f2, f3, f4⟩ := sl_facts hok hs40 hkk3
    have hfnd := sl_found hok hs40 hkk3
    generalize hRR : slR q (seq : Int) i = R at *
    have hRok : ∀ r ∈ R, recOk r = true ∧ (r.body.length : Int) + 20 ≤ (dNew 12 8192).size := fun x hx => by
      obtain ⟨j, hj⟩ := List.getElem?_of_mem hx
      have h5 := (f4 j x hj).2
      have := (recOk_iff.1 h5).2.2.2.2
      rw [g3]
      exact ⟨h5, by omega⟩
    obtain ⟨d', P, e, F', hA, hS⟩ := app_held R g1 (by omega) g2
    have hN := new_empty 12 8192 (by omega) (by omega)
    simp only [Int.cast_ofNat_Int] at hN
    have he0 : e = 0 := app_room R g1 (by omega) (by rw [hN]; omega) hRok _ hA
    subst he0
    have hPl := hS.all rfl
    have hfl : (fndL R P).length = R.length := by rw [fndL_len]; omega
    have hmap : (fndL R P).map (·.rcd) = R := fndL_map' hPl
    have hseq : ∀ (j : Nat) (hj : j < (fndL R P).length), (fndL R P)[j].rcd.seq = (seq : Int) + (j : Int) := fun j hj => by
      have h5 := fndL_get (l := R) (P := P) (i := j) (by omega) (by omega)
      rw [List.getElem?_eq_getElem hj] at h5
      rw [Option.some.inj h5]
      have := (f4 j _ (List.getElem?_eq_getElem (show j < R.length by omega))).1
      rw [this]
      omega
    have hall := allF_held hS.held.data hS.held.ok 0
    have hperm := hS.perm
    rw [allL_none, List.nil_append] at hperm
    have hsort : sortF (allF d'.zones 0) = fndL R P := sort_eq (by rw [hall]; exact hperm) (List.pairwise_iff_getElem.2 fun x y hx hy hxy => by rw [hseq x hx, hseq y hy]; omega)
    have hlen : (allF d'.zones 0).length ≤ 20 := by rw [hall, hperm.length_eq]; omega
    have hok' := hS.good.ok
    obtain ⟨q1, q2, q3⟩ := dg_app g1
    simp at q1 q2
    have hfs : fndS (fndL R P) = some (q, (seq : Int), ((seq + (snapParts q).length : Nat) : Int)) := by rw [fndS_rcd, hmap]; exact hfnd
    have hfb : ∀ f ∈ fndL R P, f.rcd.body.length ≤ 1048576 ∧ f.rcd.seq < 9223372036854775808 := fun f hf => by
      have h6 : f.rcd ∈ R := fndL_mem hf
      have h7 := recOk_iff.1 (hRok _ h6).1
      omega
    have hfq : ∀ f ∈ fndL R P, f.rcd.seq ≤ 4611686018427387904 := fun f hf => by
      have h6 : f.rcd ∈ R := fndL_mem hf
      have h7 := recOk_iff.1 (hRok _ h6).1
      omega
    have hrun : (runF (fndL R P) ((fndL R P).length + 1) ((seq : Int) + ((snapParts q).length : Int) + 1)).length = i := by
      have e1 : fndL R P = (fndL R P).take (recsL q seq).length ++ (fndL R P).drop (recsL q seq).length := (List.take_append_drop _ _).symm
      have e2 : ((fndL R P).take (recsL q seq).length).length = (recsL q seq).length := by rw [List.length_take]; omega
      have h8 := runF_from (seq : Int) ((fndL R P).drop (recsL q seq).length) ((fndL R P).take (recsL q seq).length) ((fndL R P).length + 1) (by rw [List.length_drop]; omega) (by rw [← e1]; exact hseq)
      rw [← e1, e2] at h8
      have e3 : (seq : Int) + ((recsL q seq).length : Int) = (seq : Int) + ((snapParts q).length : Int) + 1 := by omega
      rw [e3] at h8
      rw [h8, List.length_map, List.length_drop]
      omega
    have c0 : R.length ≤ 1073741824 := by omega
    have c1 : (fndL R P).length ≤ 1073741824 := by omega
    have hp5 := parts_le q
    have v1 := IntWalk.i64_in ((seq : Int) + R.length) (by omega)
    have v2 := IntWalk.i64_in ((seq : Int) + R.length - 1) (by omega)
    have v3 : IntKind.i64.wrap ((seq : Int) + R.length - 1 - i) = (seq : Int) + ((snapParts q).length : Int) := by rw [IntWalk.i64_in _ (by omega)]; omega
    have v4 := IntWalk.i64_in ((seq : Int) + ((snapParts q).length : Int) + 1) (by omega)
    simp [F_w12_SnapLogs_L0, DslO, s1, s2, s3, s7, s8, s10, s11, s12, w1, w2, hkk, q1, q3, c0, hA, hsort, hlen, hok', hfs, c1, hfl, hl.1, hl.2.1, eq_true hl.2.2.1, hl.2.2.2, v1, v2, v3, v4, hrun]
    refine ⟨q2, hfb, ⟨by omega, .inr hfq⟩, ?_⟩
    rw [← hfl, hrun]
end Go.Av

namespace Go.Av
open Enc (enc dec)
open Cel (cs dc)
open Go.RowKit Go.ChangeShapes Go.WideShapes Go.Deep

/-- The old memory. -/
def oldI (w : World) (b _o : Nat) : Prop := b < w.heap.size
def oldM (w : World) : Mp := ⟨[], [], oldI w, fun _ => none⟩
/-- Cells of a type are those of a plain value that has a property. -/
def Opn (P : Program) (t : TypeId) {α : Type} (c : α → List V) (Wf : α → Prop) : Prop :=
  (∀ a, (c a).length = P.cellsOf t) ∧ ∀ {H : Type} (en : TypeId × Value → H) (w : World) (base : Nat) (spare : Nat → Bool) (held : Bool) (fuel : Nat) (cs : List Value) (x : DataW H × List MemPlace),
    DataW.trod en P w base spare held fuel t cs = some x → ∃ a : α, Wf a ∧ RepL (oldM w) w (c a) cs ∧ ∀ v ∈ cs, v.oneCell' = true
theorem block_lt {w : World} {a : Addr} {v : Value} (h : w.cell? a = some v) : a.block < w.heap.size ∧ a.spot = none := by
  unfold World.cell? at h
  split at h
  · rename_i c e f hh
    refine ⟨(Array.getElem?_eq_some_iff.1 hh).1, ?_⟩
    cases hs : a.spot with
    | none => rfl
    | some s => simp [hs] at h
  · cases h
theorem Opn.int {P : Program} {t : TypeId} (ht : P.underlying t = some (.int .i64)) (hc : P.cellsOf t = 1) : Opn P t (fun n : Int => [enc n]) fun n => (Lit.int .i64 n).wf = true := by
  refine ⟨fun _ => hc.symm, fun en w base spare held fuel cs x h => ?_⟩
  obtain ⟨n, rfl, _, hw⟩ := DataW.trod_int ht h
  exact ⟨n, hw, ⟨_, _, rfl, ⟨rfl, rfl⟩, rfl⟩, by simp [Value.oneCell']⟩
theorem Opn.u8 {P : Program} {t : TypeId} (ht : P.underlying t = some (.int .u8)) (hc : P.cellsOf t = 1) : Opn P t (fun b : UInt8 => Cel.cs b) fun _ => True := by
  refine ⟨fun _ => hc.symm, fun en w base spare held fuel cs x h => ?_⟩
  obtain ⟨n, rfl, _, hw⟩ := DataW.trod_int ht h
  have hw := bounds_u8 hw
  have e : ((UInt8.ofNat n.toNat).toNat : Int) = n := by
    rw [UInt8.toNat_ofNat']
    omega
  refine ⟨UInt8.ofNat n.toNat, trivial, ⟨_, _, rfl, ⟨?_, rfl⟩, rfl⟩, by simp [Value.oneCell']⟩
  rw [e]
theorem cellsRep {w : World} {base n : Nat} {a : Addr} {cs : List Value} {l : List V} (h : w.cells? base a n = some cs) (hr : RepL (oldM w) w l cs) (ho : ∀ v ∈ cs, v.oneCell' = true) : RepC (oldM w) w l a.block a.off ∧ (l = [] ∨ a.spot = none) := by
  obtain ⟨_, hlen, hget⟩ := World.cells?_some h
  have hll := hr.length
  refine ⟨RepC.of_get fun i v hi => ?_, ?_⟩
  · obtain ⟨x, hx, hrep⟩ := hr.get hi
    have hin : i < n := by
      have := (List.getElem?_eq_some_iff.1 hx).1
      omega
    have hc := hget i hin
    rw [hx] at hc
    have hb := block_lt hc
    have e : a.add i = ⟨a.block, a.off + i, none⟩ := by
      unfold Addr.add at hb ⊢
      split
      · rename_i h0
        rw [if_pos h0] at hb
        subst h0
        cases a
        simp at hb ⊢
        exact hb.2
      · rfl
    rw [e] at hc hb
    exact ⟨x, hb.1, hc, ho x (List.mem_of_getElem? hx), hrep⟩
  · cases l with
    | nil => exact .inl rfl
    | cons v l =>
      right
      obtain ⟨x, hx, _⟩ := hr.get (i := 0) (v := v) rfl
      have hin : 0 < n := by
        have := (List.getElem?_eq_some_iff.1 hx).1
        omega
      have hc := hget 0 hin
      rw [hx] at hc
      exact (block_lt (a := a) (by simpa [Addr.add] using hc)).2
theorem Opn.slice {P : Program} {t e : TypeId} {α : Type} [Cel α] {Wf : α → Prop} (ht : P.underlying t = some (.slice e)) (hc : P.cellsOf t = 1) (hz : 0 < Cel.sz α) (he : Opn P e (Cel.cs (α := α)) Wf) : Opn P t (fun l : List α => [enc l]) fun l => l.length ≤ maxLen ∧ ∀ a ∈ l, Wf a := by
  refine ⟨fun _ => hc.symm, fun en w base spare held fuel cs x h => ?_⟩
  rcases open_slice ht h with ⟨rfl, rfl⟩ | ⟨a, len, cap, m, n, D, Pl, rfl, hb, hl, hm, hmm, rfl, hx⟩
  · exact ⟨[], ⟨Nat.zero_le _, by simp⟩, ⟨_, _, rfl, .inl ⟨rfl, rfl⟩, rfl⟩, by simp [Value.oneCell']⟩
  · have hlm : len ≤ m := by rw [hmm]; split <;> omega
    have key : ∀ j, j ≤ len → ∃ l : List α, l.length = j ∧ (∀ b ∈ l, Wf b) ∧ RepX (oldM w) w (l.map Cel.cs) a.block (a.off + (len - j) * Cel.sz α) ∧ (l = [] ∨ len - j ≠ 0 ∨ a.spot = none) := by
      intro j
      induction j with
      | zero => intro _; exact ⟨[], rfl, by simp, trivial, .inl rfl⟩
      | succ j ih =>
        intro hj
        obtain ⟨l, h1, h2, h3, _⟩ := ih (by omega)
        obtain ⟨cs', h4, h5⟩ := hx (len - (j + 1)) (by omega)
        obtain ⟨b, h6, h7, h8⟩ := he.2 en w base spare held n cs' _ h5
        obtain ⟨h9, h10⟩ := cellsRep h4 h7 h8
        have eo : (a.add ((len - (j + 1)) * P.cellsOf e)).block = a.block ∧ (a.add ((len - (j + 1)) * P.cellsOf e)).off = a.off + (len - (j + 1)) * Cel.sz α := by
          rw [← he.1 b, Cel.len]
          unfold Addr.add
          split
          · rename_i h0; exact ⟨rfl, by rw [h0]; rfl⟩
          · exact ⟨rfl, rfl⟩
        rw [eo.1, eo.2] at h9
        refine ⟨b :: l, by simp [h1], ?_, ⟨h9, ?_⟩, ?_⟩
        · intro c hc
          rcases List.mem_cons.1 hc with rfl | hc
          · exact h6
          · exact h2 c hc
        · have e2 : a.off + (len - (j + 1)) * Cel.sz α + (Cel.cs b).length = a.off + (len - j) * Cel.sz α := by
            rw [Cel.len]
            have : len - j = (len - (j + 1)) + 1 := by omega
            rw [this, Nat.add_mul]
            omega
          rw [e2]
          exact h3
        · by_cases h0 : len - (j + 1) = 0
          · right; right
            rw [h0, Nat.zero_mul] at h10
            rcases h10 with h10 | h10
            · have := congrArg List.length h10
              rw [Cel.len] at this
              simp at this
              omega
            · simpa [Addr.add] using h10
          · exact .inr (.inl h0)
    obtain ⟨l, h1, h2, h3, h4⟩ := key len (Nat.le_refl _)
    refine ⟨l, ⟨by omega, h2⟩, ⟨_, _, rfl, .inr ⟨a, cap, by simp [h1], by simp; omega, ?_, ?_, ?_⟩, rfl⟩, by simp [Value.oneCell']⟩
    · rcases h4 with h4 | h4 | h4
      · left; simp [h4]
      · omega
      · exact .inr h4
    · intro c hc
      obtain ⟨b, _, rfl⟩ := List.mem_map.1 hc
      exact Cel.len b
    · simpa using h3
/-- A struct's fields, of a cell each. -/
theorem open_flat {P : Program} {t : TypeId} {fs : Array Field} {H : Type} {en : TypeId × Value → H} {w : World} {base : Nat} {spare : Nat → Bool} {held : Bool} {fuel : Nat} {cs : List Value} {x : DataW H × List MemPlace}
    (ht : P.underlying t = some (.struct fs)) (hof : ∀ (i : Nat) (f : Field), fs[i]? = some f → f.offset = i ∧ P.cellsOf f.type = 1) (hc : P.cellsOf t = fs.size) (h : DataW.trod en P w base spare held fuel t cs = some x) :
    cs.length = fs.size ∧ ∃ n, ∀ (i : Nat) (f : Field), fs[i]? = some f → ∃ v y, cs[i]? = some v ∧ DataW.trod en P w base spare held n f.type [v] = some y := by
  obtain ⟨xs, n, _, _, hl, hlen, hf⟩ := DataW.trod_struct ht h
  refine ⟨by rw [hl, hc], n, fun i f hi => ?_⟩
  have h1 := hf i f hi
  obtain ⟨h2, h3⟩ := hof i f hi
  have hi2 := (Array.getElem?_eq_some_iff.1 hi).1
  rw [h2, h3, List.getElem?_eq_getElem (by omega)] at h1
  have h4 : i < cs.length := by omega
  refine ⟨cs[i], xs[i], List.getElem?_eq_getElem h4, ?_⟩
  rw [← h1, List.drop_eq_getElem_cons h4]
  rfl
/-- A value of more cells than one. -/
theorem Opn.agg {P : Program} {t : TypeId} {α : Type} {c : α → List V} {Wf : α → Prop} (h : Opn P t c Wf) {H : Type} {en : TypeId × Value → H} {w : World} {base : Nat} {spare : Nat → Bool} {held : Bool} {v : Value} {d : DataW H} {ps : List MemPlace} {xs : Array Value} (hv : v = .agg xs) (hd : DataW.Trod en P w base spare held t v d ps) :
    ∃ a : α, Wf a ∧ Rep (oldM w) w (.agg (c a)) v := by
  obtain ⟨fuel, hd⟩ := hd
  subst hv
  obtain ⟨a, h1, h2, _⟩ := h.2 en w base spare held fuel _ _ hd
  exact ⟨a, h1, xs, rfl, h2⟩
/-- A value of one cell. -/
theorem Opn.one {P : Program} {t : TypeId} {α : Type} {e : α → V} {Wf : α → Prop} (h : Opn P t (fun a => [e a]) Wf) {H : Type} {en : TypeId × Value → H} {w : World} {base : Nat} {spare : Nat → Bool} {held : Bool} {v : Value} {d : DataW H} {ps : List MemPlace} (hv : v.oneCell' = true) (hd : DataW.Trod en P w base spare held t v d ps) :
    ∃ a : α, Wf a ∧ Rep (oldM w) w (e a) v := by
  obtain ⟨fuel, hd⟩ := hd
  have hc : v.cells.toList = [v] := by cases v <;> first | rfl | simp [Value.oneCell'] at hv
  rw [hc] at hd
  obtain ⟨a, h1, ⟨x, r, h2, h3, h4⟩, _⟩ := h.2 en w base spare held fuel _ _ hd
  cases h2
  exact ⟨a, h1, h3⟩
/-- Behind the call: the answer is plain, what was there reads as it did. -/
theorem post_of_below {H : Type} {en : TypeId × Value → H} {P : Program} {f : Func} {s : ChangeSpec} {apart fresh handsOn again : Bool} {W W' : World} {args : Array Value} {v : Value} {ds gs : List (DataW H)} {before pa pv : List MemPlace}
    (hW : DataW.Whole en P f.params.toList s.vars apart W args.toList ds gs before) (hb : Below W.heap.size W W')
    (hres : ∀ (b : Nat) (sp : Nat → Bool) (hd : Bool), DataW.TrodAll en P W' b sp hd f.resultTypes.toList (v.resultList f.resultTypes.size) (s.fn H (ds ++ gs)).results [])
    (hargs : ∀ sp : Nat → Bool, (∀ p ∈ before, sp p.block = true) → DataW.TrodAll en P W' 0 sp true f.params.toList args.toList (s.fn H (ds ++ gs)).args pa)
    (hvars : ∀ sp : Nat → Bool, (∀ p ∈ before, sp p.block = true) → DataW.TrodVars en P W' sp s.vars (s.fn H (ds ++ gs)).vars pv)
    (hps : before = pa ++ pv)
    (hok : ∀ (j : Nat) (t : TypeId) (r : Value), f.resultTypes[j]? = some t → (v.resultList f.resultTypes.size)[j]? = some r → Value.okWide P W' .any 0 t r) :
    s.post en P f apart fresh handsOn again W args v W' := by
  have hold : ∀ p ∈ before, (fun b => decide (b < W.heap.size)) p.block = true := fun p hp => by simpa using hW.lt p hp
  refine ⟨ds, gs, before, [], pa, pv, hW, hres _ _ _, hargs _ hold, hvars _ hold, World.keptBut_mono (fun p hp => ⟨hp, ?_⟩) (hb.frame (· ∈ before)), fun _ => ?_⟩
  · rw [hps, List.mem_append] at hp
    exact Or.inr hp
  · have hlt := hW.lt
    obtain ⟨_, _, _, _, _, hz, hn⟩ := hW
    refine ⟨hok, _, _, ([] ++ pa) ++ pv, ⟨[] ++ pa, pv, trodAll_append (hargs _ (fun _ _ => rfl)) (hres _ _ _), hvars _ (fun _ _ => rfl), rfl, ?_, ?_⟩, ?_⟩
    · intro b off hp
      have hp' : MemPlace.cell b off ∈ before := by rw [hps]; simpa using hp
      rw [hb.frozen (p := ⟨b, off, none⟩) (hlt _ hp')]
      exact hz b off hp'
    · intro ha
      have := hn ha
      rw [hps] at this
      simpa using this
    · intro p hp _
      rw [hps]
      simpa using hp
/-- What was handed in reads as it did. -/
theorem TrodAll_stays {H : Type} {en : TypeId × Value → H} {P : Program} {W W' : World} (hl : laidOutB P = true) {sp : Nat → Bool} (hb : Below W.heap.size W W') : ∀ {ts : List TypeId} {vs : List Value} {ds : List (DataW H)} {ps : List MemPlace},
    (∀ t ∈ ts, P.readableRec t = true ∧ t < P.types.size) → DataW.TrodAll en P W 0 (fun _ => true) true ts vs ds ps → (∀ x ∈ ps, x.block < W.heap.size) → (∀ x ∈ ps, sp x.block = true) → DataW.TrodAll en P W' 0 sp true ts vs ds ps
  | [], _, _, _, _, h, _, _ => by
    obtain ⟨rfl, rfl, rfl⟩ := trodAll_nil h
    exact trodAll_mk0
  | t :: ts, _, _, _, ht, h, hlt, hsp => by
    obtain ⟨v, vs1, d, ds1, a, b, rfl, rfl, rfl, h1, h2⟩ := trodAll_cons h
    obtain ⟨k1, k2⟩ := ht t (List.mem_cons_self ..)
    exact ⟨a, b, WideElems.Trod_stays hl k1 k2 h1 (fun x hx => hb.same (hlt x (List.mem_append_left _ hx))) (fun x hx => hsp x (List.mem_append_left _ hx)),
      TrodAll_stays hl hb (fun t ht' => ht t (List.mem_cons_of_mem _ ht')) h2 (fun x hx => hlt x (List.mem_append_right _ hx)) (fun x hx => hsp x (List.mem_append_right _ hx)), rfl⟩
end Go.Av

namespace Go.Av
open Enc (enc dec)
open Cel (cs dc)
open Go.Proofs Pl Go.ChangeShapes Go.WideShapes Go.RowKit

theorem Opn.weak {P : Program} {t : TypeId} {α : Type} {c : α → List V} {W W' : α → Prop} (h : Opn P t c W) (hw : ∀ a, W a → W' a) : Opn P t c W' :=
  ⟨h.1, fun en w base spare held fuel cs x hd => by
    obtain ⟨a, h1, h2⟩ := h.2 en w base spare held fuel cs x hd
    exact ⟨a, hw a h1, h2⟩⟩
theorem opn_int : Opn Tryz.prog 3 (fun n : Int => [enc n]) (fun n => (Lit.int .i64 n).wf = true) := Opn.int Tryz.underlying3 (by kernel_rfl)
theorem opn_u8 : Opn Tryz.prog 5 (fun b : UInt8 => cs b) (fun _ => True) := Opn.u8 Tryz.underlying5 (by kernel_rfl)
theorem opn_bytes : Opn Tryz.prog 24 (fun l : List UInt8 => [enc l]) (fun l => l.length ≤ maxLen ∧ ∀ b ∈ l, True) := Opn.slice Tryz.underlying24 (by kernel_rfl) (by decide) opn_u8
/-- A function of a plain answer, run. -/
theorem Pure.run {P : Program} {f : FuncId} {args : List V} {r : Value} {w : World} {vals : Array Value} (h : Pure P f args (.val r) []) (hr : RepL (oldM w) w args vals.toList) :
    Calls P f vals w fun e w' => e = .returned r ∧ Below w.heap.size w w' := by
  refine (h.2.2 (oldI w) w vals (fun b o hb => hb) hr).mono fun e w' ⟨x, M', he, hg, hx⟩ => ?_
  obtain ⟨rfl, _⟩ := hx
  exact ⟨he, hg.below⟩
end Go.Av

namespace Go.Av
open Enc (enc dec)
open Cel (cs dc)
open Go.Proofs Pl Go.ChangeShapes Go.WideShapes Go.RowKit

theorem opn_xt : Opn Tryz.prog 109 (fun x : Xt => cs x) (fun _ => True) := by
  refine ⟨fun _ => Eq.symm (by kernel_rfl), fun en w base spare held fuel c x h => ?_⟩
  obtain ⟨hl, n, hf⟩ := open_flat Tryz.underlying109 (by rintro (_ | _ | _ | _ | _ | i) f hi <;> simp at hi <;> subst hi <;> exact ⟨rfl, by kernel_rfl⟩) (by kernel_rfl) h
  obtain ⟨v0, y0, g0, t0⟩ := hf 0 _ rfl
  obtain ⟨v1, y1, g1, t1⟩ := hf 1 _ rfl
  obtain ⟨v2, y2, g2, t2⟩ := hf 2 _ rfl
  obtain ⟨v3, y3, g3, t3⟩ := hf 3 _ rfl
  obtain ⟨v4, y4, g4, t4⟩ := hf 4 _ rfl
  obtain rfl : c = [v0, v1, v2, v3, v4] := by
    match c, hl with
    | [a0, a1, a2, a3, a4], _ => simp at g0 g1 g2 g3 g4; simp [g0, g1, g2, g3, g4]
  obtain ⟨a0, _, r0, o0⟩ := opn_int.2 en w base spare held n _ _ t0
  obtain ⟨a1, _, r1, o1⟩ := opn_int.2 en w base spare held n _ _ t1
  obtain ⟨a2, _, r2, o2⟩ := opn_int.2 en w base spare held n _ _ t2
  obtain ⟨a3, _, r3, o3⟩ := opn_int.2 en w base spare held n _ _ t3
  obtain ⟨a4, _, r4, o4⟩ := opn_bytes.2 en w base spare held n _ _ t4
  refine ⟨⟨a0, a1, a2, a3, a4⟩, trivial, r0.append (r1.append (r2.append (r3.append r4))), ?_⟩
  intro v hv
  simp only [List.mem_cons, List.not_mem_nil, or_false] at hv
  rcases hv with rfl | rfl | rfl | rfl | rfl
  · exact o0 _ (by simp)
  · exact o1 _ (by simp)
  · exact o2 _ (by simp)
  · exact o3 _ (by simp)
  · exact o4 _ (by simp)
theorem opn_xts : Opn Tryz.prog 22 (fun l : List Xt => [enc l]) (fun l => l.length ≤ maxLen ∧ ∀ b ∈ l, True) := Opn.slice Tryz.underlying22 (by kernel_rfl) (by decide) opn_xt
theorem opn_pt : Opn Tryz.prog 60 (fun x : Pt => cs x) (fun p => p.map.length ≤ maxLen) := by
  refine ⟨fun _ => Eq.symm (by kernel_rfl), fun en w base spare held fuel c x h => ?_⟩
  obtain ⟨hl, n, hf⟩ := open_flat Tryz.underlying60 (by rintro (_ | _ | _ | i) f hi <;> simp at hi <;> subst hi <;> exact ⟨rfl, by kernel_rfl⟩) (by kernel_rfl) h
  obtain ⟨v0, y0, g0, t0⟩ := hf 0 _ rfl
  obtain ⟨v1, y1, g1, t1⟩ := hf 1 _ rfl
  obtain ⟨v2, y2, g2, t2⟩ := hf 2 _ rfl
  obtain rfl : c = [v0, v1, v2] := by
    match c, hl with
    | [a0, a1, a2], _ => simp at g0 g1 g2; simp [g0, g1, g2]
  obtain ⟨a0, _, r0, o0⟩ := opn_int.2 en w base spare held n _ _ t0
  obtain ⟨a1, _, r1, o1⟩ := opn_int.2 en w base spare held n _ _ t1
  obtain ⟨a2, m2, r2, o2⟩ := opn_xts.2 en w base spare held n _ _ t2
  refine ⟨⟨a0, a1, a2⟩, m2.1, r0.append (r1.append r2), ?_⟩
  intro v hv
  simp only [List.mem_cons, List.not_mem_nil, or_false] at hv
  rcases hv with rfl | rfl | rfl
  · exact o0 _ (by simp)
  · exact o1 _ (by simp)
  · exact o2 _ (by simp)
theorem opn_pts : Opn Tryz.prog 23 (fun l : List Pt => [enc l]) (fun l => l.length ≤ maxLen ∧ ∀ p ∈ l, p.map.length ≤ maxLen) := Opn.slice Tryz.underlying23 (by kernel_rfl) (by decide) opn_pt
theorem opn_sta : Opn Tryz.prog 26 (fun x : Sta => cs x) staBig := by
  refine ⟨fun _ => Eq.symm (by kernel_rfl), fun en w base spare held fuel c x h => ?_⟩
  obtain ⟨hl, n, hf⟩ := open_flat Tryz.underlying26 (by rintro (_ | _ | _ | _ | _ | _ | i) f hi <;> simp at hi <;> subst hi <;> exact ⟨rfl, by kernel_rfl⟩) (by kernel_rfl) h
  obtain ⟨v0, y0, g0, t0⟩ := hf 0 _ rfl
  obtain ⟨v1, y1, g1, t1⟩ := hf 1 _ rfl
  obtain ⟨v2, y2, g2, t2⟩ := hf 2 _ rfl
  obtain ⟨v3, y3, g3, t3⟩ := hf 3 _ rfl
  obtain ⟨v4, y4, g4, t4⟩ := hf 4 _ rfl
  obtain ⟨v5, y5, g5, t5⟩ := hf 5 _ rfl
  obtain rfl : c = [v0, v1, v2, v3, v4, v5] := by
    match c, hl with
    | [a0, a1, a2, a3, a4, a5], _ => simp at g0 g1 g2 g3 g4 g5; simp [g0, g1, g2, g3, g4, g5]
  obtain ⟨a0, _, r0, o0⟩ := opn_int.2 en w base spare held n _ _ t0
  obtain ⟨a1, _, r1, o1⟩ := opn_int.2 en w base spare held n _ _ t1
  obtain ⟨a2, m2, r2, o2⟩ := opn_xts.2 en w base spare held n _ _ t2
  obtain ⟨a3, m3, r3, o3⟩ := opn_pts.2 en w base spare held n _ _ t3
  obtain ⟨a4, _, r4, o4⟩ := opn_int.2 en w base spare held n _ _ t4
  obtain ⟨a5, m5, r5, o5⟩ := opn_bytes.2 en w base spare held n _ _ t5
  refine ⟨⟨a0, a1, a2, a3, a4, a5⟩, ⟨m2.1, m3.1, m3.2, m5.1⟩, r0.append (r1.append (r2.append (r3.append (r4.append r5)))), ?_⟩
  intro v hv
  simp only [List.mem_cons, List.not_mem_nil, or_false] at hv
  rcases hv with rfl | rfl | rfl | rfl | rfl | rfl
  · exact o0 _ (by simp)
  · exact o1 _ (by simp)
  · exact o2 _ (by simp)
  · exact o3 _ (by simp)
  · exact o4 _ (by simp)
  · exact o5 _ (by simp)
end Go.Av
