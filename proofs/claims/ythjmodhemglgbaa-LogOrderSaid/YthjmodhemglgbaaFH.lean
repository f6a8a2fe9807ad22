/-
  DvZb: Contracts of package log: records that follow one another.
  DvR: The plain law of appending, second part.
  DvRa: What the laws of logs ask: records appended, a device new, zones that are empty.
  DvZc: The calls whose answers are fixed, of logs.
  DvZg: The plain law of records that a device holds.
  DvZh: The law LogOrder: what it computes.
  AvOp: Arguments, as a row reads them, as plain values of Lean; behind the call they read as they did.
  SnOp: What the rows hand in: numbers, and bytes.
  ToXa: What the rows hand in: records as they are found.
  ToXb: What the rows hand in: lists of records.
-/
import Derived.Test.YthjmodhemglgbaaFG
import Derived.Deep.Slices
import Derived.ChangeSame
import Derived.Carry
import Derived.OpenShut
set_option linter.unusedSimpArgs false
set_option linter.unusedVariables false

namespace Go.Av.Pl
open Go.Av
def runF (l : List Fnd) : Nat → Int → List Rec
  | 0, _ => []
  | k + 1, q => match lookF l q with
    | some r => r :: runF l k (q + 1)
    | none => []
end Go.Av.Pl
namespace Go.Av
open Enc (enc dec)
open Cel (cs dc)
open Go.Proofs Pl

theorem look_mem {l : List Fnd} {q : Int} {r : Rec} (h : lookF l q = some r) : ∃ f ∈ l, f.rcd.seq = q := by
  rw [lookF, Option.map_eq_some_iff] at h
  obtain ⟨f, hf, _⟩ := h
  exact ⟨f, List.mem_of_find?_eq_some hf, by simpa using List.find?_some hf⟩
theorem run_len (frm : Int) : ∀ (n : Nat) (l : List Fnd), (∀ i : Nat, i < n → (lookF l (frm + i)).isSome = true) → n ≤ l.length
  | 0, _, _ => Nat.zero_le _
  | n + 1, l, h => by
    have h0 := h n (by omega)
    rw [lookF, Option.isSome_map, List.find?_isSome] at h0
    obtain ⟨f, hf, hq⟩ := h0
    have hq : f.rcd.seq = frm + n := by simpa using hq
    have := run_len frm n (l.erase f) fun i hi => by
      have h1 := h i (by omega)
      rw [lookF, Option.isSome_map, List.find?_isSome] at h1 ⊢
      obtain ⟨g, hg, hg2⟩ := h1
      have hg3 : g.rcd.seq = frm + i := by simpa using hg2
      exact ⟨g, (List.mem_erase_of_ne (fun e => by rw [e] at hg3; omega)).2 hg, hg2⟩
    rw [List.length_erase_of_mem hf] at this
    have h2 := List.length_pos_of_mem hf
    omega
def RunM1 (l : List Fnd) (acc : List (Nat × Fnd)) : Mem := ⟨[mpV (kvF [] acc), [.ref .map 0], [.lit 5 (l.map cs)], [St.ready.v], [St.ready.v]], [(36, 3, 0)]⟩
def Dzb : Orc := Orc.nil.addL n_slices_Backward_Found sp_bw
theorem Dzb_ok : OOk Try.prog Dzb := OOk.nil.addL sp_bw_ok
def RunI (l : List Fnd) (frm : Int) (R : List Rec) (k : Nat) (s : Nat → V) (m : Mem) : Prop :=
  ∃ (acc : List Rec) (q : Int) (r0 : Rec) (p : Nat) (bx : List (List V)), R = acc ++ runF l k q ∧ q = frm + acc.length ∧ (∀ i : Nat, i < acc.length → (lookF l (frm + i)).isSome = true) ∧ k + acc.length = l.length + 1 ∧ s 1 = .val (.int .i64 q) ∧ s 4 = .row 0 3 (acc.map cs) ∧ s 5 = .ptr 1 0 ∧ s 8 = .ptr (p + 5) 0 ∧ s 9 = .val (.bool (lookF l q).isSome) ∧
    bx[p]? = some (cs ((lookF l q).getD Rec.zero)) ∧ m = ⟨mpV (kvF [] (bwTo l l.length)) :: [.ref .map 0] :: [.lit 5 (l.map cs)] :: [St.ready.v] :: [St.ready.v] :: bx, [(36, 3, acc.length)]⟩
theorem c_lRun (l : List Fnd) (frm : Int) (hl : l.length ≤ 2 ^ 30) (hf : -(2 ^ 63) ≤ frm ∧ (frm ≤ 2 ^ 62 ∨ ∀ f ∈ l, f.rcd.seq ≤ 2 ^ 62)) : Pure Try.prog n_log_Run [enc l, enc frm] (enc (runF l (l.length + 1) frm)) [] := by
  refine Pure.ofC Dzb_ok hm F_log_Run_ok (by simp [F_log_Run]) (by simp [V.res, V.res1]) ?_
  have hl2 : l.length ≤ 2 ^ 40 := by omega
  simp [F_log_Run, Dzb, sp_bw, decX_map]
  refine ⟨_, _, .tuple [], RunM1 l (bwTo l l.length), .ready, by simp, c_backward1 _ _ 2 l hl2 _ _ rfl ?run1, by simp [RunM1, loopAt], by simp, ?fin1⟩
  case run1 =>
    refine YRun.list bwArg (RunM1 l) (bwTo l l.length) ?_ ?_
    rotate_left
    · intro acc x r h
      rfl
    intro acc x r h
    refine Or.inr ⟨rfl, ?_⟩
    simp [roundW, putAll, St.of, St.cont, RunM1, loopAt, bwArg]
    refine .inr ⟨?_, ?_⟩
    · have h1 := (kvF_clean acc (kvs := []) (fun p hp => by cases hp)).put x.2.rcd.seq (Enc.cl x.2.rcd)
      rw [enc_rec] at h1
      have h2 := h1.under 5 1
      have h3 := under_map 5 1 l
      simp [underX, underL, V.under, St.v, h2, h3]
    · simp [kvF, List.foldl_append]
  case fin1 =>
    rw [show St.ready.out = Exit.normal from rfl]
    have hlook := kvF_look l
    have loop : ∀ R Q s m, RunI l frm R (l.length + 1) s m → (∀ s' m', s' 4 = .row 0 3 (R.map cs) → Q (.exit 2) s' m') → wp Try.prog noY Dzb F_log_Run_L0.loop s m Q := by
      intro R Q s m h hQ
      refine wp_loop (RunI l frm R) (l.length + 1) (IW.of h) fun k s m ⟨acc, q, r0, p, bx, hR, hq, hal, hk, s1, s4, s5, s8, s9, hp, hm⟩ => ?_
      subst hm
      cases hlk : lookF l q with
      | none =>
        rw [hlk] at s9
        have e1 : runF l k q = [] := by
          cases k with
          | zero => rfl
          | succ k => simp [runF, hlk]
        rw [e1, List.append_nil] at hR
        subst hR
        simp [F_log_Run_L0, s9]
        exact hQ _ _ s4
      | some r =>
        rw [hlk] at s9 hp
        simp only [Option.getD_some, Option.isSome_some] at s9 hp
        simp at hp
        have hal2 : ∀ i : Nat, i < acc.length + 1 → (lookF l (frm + i)).isSome = true := fun i hi => by
          by_cases e : i = acc.length
          · subst e; rw [← hq, hlk]; rfl
          · exact hal i (by omega)
        have hlen := run_len frm _ l hal2
        obtain ⟨k, rfl⟩ : ∃ j, k = j + 1 := ⟨k - 1, by omega⟩
        have hq62 : q ≤ 2 ^ 62 + 2 ^ 30 := by
          rcases hf.2 with h | h
          · omega
          · obtain ⟨f, hf1, hf2⟩ := look_mem hlk
            have := h f hf1
            omega
        have w1 := IntWalk.i64_in (q + 1) (by omega)
        have hR2 : R = (acc ++ [r]) ++ runF l k (q + 1) := by rw [hR, runF, hlk, List.append_assoc]; rfl
        cases hlk2 : lookF l (q + 1) with
        | none =>
          simp [F_log_Run_L0, s1, s4, s5, s8, s9, hp, w1, hlook, decX_map, hlk2]
          refine ⟨by omega, k, by omega, IW.of ⟨acc ++ [r], q + 1, r, bx.length, bx ++ [cs Rec.zero], hR2, by simp; omega, by simpa using hal2, by simp; omega, by simp, by simp, by simp [s5], by simp, by simp [hlk2], by simp [hlk2, Rec.zero], by simp [Rec.zero]⟩⟩
        | some r2 =>
          simp [F_log_Run_L0, s1, s4, s5, s8, s9, hp, w1, hlook, decX_map, hlk2]
          refine ⟨by omega, k, by omega, IW.of ⟨acc ++ [r], q + 1, r, bx.length, bx ++ [cs r2], hR2, by simp; omega, by simpa using hal2, by simp; omega, by simp, by simp, by simp [s5], by simp, by simp [hlk2], by simp [hlk2, Rec.zero], by simp [Rec.zero]⟩⟩
    simp [RunM1]
    cases hlk : lookF l frm with
    | none =>
      simp [hlook, hlk]
      refine loop (runF l (l.length + 1) frm) _ _ _ ⟨[], frm, Rec.zero, 0, [cs Rec.zero], rfl, by simp, by simp, by simp, by simp, by simp, by simp, by simp [RunM1], by simp [hlk], by simp [hlk], by simp [RunM1, Rec.zero]⟩ fun s' m' h4 => ?_
      simp [h4]
    | some r =>
      simp [hlook, hlk]
      refine loop (runF l (l.length + 1) frm) _ _ _ ⟨[], frm, r, 0, [cs r], rfl, by simp, by simp, by simp, by simp, by simp, by simp, by simp [RunM1], by simp [hlk], by simp [hlk], by simp [RunM1]⟩ fun s' m' h4 => ?_
      simp [h4]
end Go.Av

namespace Go.Av.Pl
theorem zIdx_none {pr : Zo → Bool} {l : List Zo} (h : zIdx pr l < 0) : ∀ z ∈ l, pr z = false := by
  unfold zIdx at h
  split at h
  · omega
  · rename_i e
    intro z hz
    simpa using List.findIdx?_eq_none_iff.1 e z hz
theorem DG.mono {d : Dv} {k k' : Nat} (h : DG d k) (hk : k ≤ k') : DG d k' := ⟨h.ok, h.dn, h.lf, ⟨h.dd.1, by have := h.dd.2; omega⟩, h.op⟩
theorem recB_ne {r : Rec} (h : recOk r = true) : recB r ≠ [] := by
  intro e
  have := recB_length h
  rw [e] at this
  simp at this
theorem one_bad {d : Dv} (hl : d.zones.length ≤ 2 ^ 40) {r : Rec} (hr : recOk r = false) : one1 d r = some (d, ⟨0, 0⟩, 50) := by
  unfold one1
  rw [if_pos hl, if_pos hr]
/-- Behind a record. -/
structure OneS (d : Dv) (k : Nat) (b : List UInt8) (d' : Dv) (i : Nat) (hi : i < d.zones.length) : Prop where
  room : (b.length : Int) ≤ zRoom d.zones[i] d.size
  good : DG d' (k + 2)
  size : d'.size = d.size
  zones : (d.zones[i].st = 1 ∧ d'.zones = d.zones.set i (zAdd d.zones[i] d.size b)) ∨
    (d.zones[i].st = 0 ∧ (∀ z ∈ d.zones, z.st = 1 → zRoom z d.size < b.length) ∧ (d'.zones = d.zones.set i (zAdd d.zones[i] d.size b) ∨
      ∃ (j : Nat) (hj : j < d.zones.length), j ≠ i ∧ d.zones[j].st = 1 ∧ stN 1 d.zones = 3 ∧ d'.zones = (d.zones.set j (zEnd d.zones[j])).set i (zAdd d.zones[i] d.size b)))
theorem one_good {d : Dv} {k : Nat} (hg : DG d k) (hk : k + 2 ≤ 2 ^ 62) {r : Rec} (hr : recOk r = true) :
    (placeE d (recB r).length ≠ 0 ∧ one1 d r = some (d, ⟨0, 0⟩, placeE d (recB r).length)) ∨
    ∃ (i : Nat) (hi : i < d.zones.length) (d' : Dv), one1 d r = some (d', ⟨FloatKind.f64.nearest (i : Int), FloatKind.f64.nearest (d.zones[i].data.length : Int)⟩, 0) ∧ OneS d k (recB r) d' i hi := by
  have hd := dOk_iff.1 hg.ok
  have hl : d.zones.length ≤ 2 ^ 40 := by omega
  have hr' : ¬ recOk r = false := by simp [hr]
  by_cases hp : placeE d (recB r).length = 0
  · refine .inr ?_
    have hb := recB_ne hr
    have hbl := recB_length hr
    have hbody := (recOk_iff.1 hr).2.2.2.2
    have hb0 : 0 < (recB r).length := by omega
    have hn1 : ¬ (dOk d = false ∨ ((recB r).length : Int) < 1 ∨ d.size < (recB r).length) := by
      intro h
      unfold placeE at hp
      rw [if_pos h] at hp
      cases hp
    have hone : ∀ d', oneD d r = some d' → one1 d r = some (d', oneC d r, 0) := fun d' h => by
      unfold one1
      rw [if_pos hl, if_neg hr', if_neg (by simp [hp]), h]
      rfl
    by_cases h1 : 0 ≤ dFirst d 1 (recB r).length
    · obtain ⟨i, hi, e, hpr⟩ := zIdx_lt h1
      simp only [Bool.and_eq_true, decide_eq_true_eq] at hpr
      have eN : placeN d (recB r).length = i := by unfold placeN; rw [if_neg hn1, if_pos h1]; exact e
      have eL : placeL d (recB r).length = [] := by unfold placeL; rw [if_neg hn1, if_pos h1]
      obtain ⟨k1, k2⟩ := do_app hg (by omega) hi hb (by omega) hpr.2 (.inl hpr.1)
      refine ⟨i, hi, _, (hone _ (by unfold oneD cmdL; rw [eL, eN]; simp only [List.nil_append, List.foldlM_cons, List.foldlM_nil]; rw [k1]; rfl)).trans ?_, ⟨hpr.2, k2.mono (by omega), rfl, .inl ⟨hpr.1, rfl⟩⟩⟩
      unfold oneC
      rw [eN, Int.toNat_natCast, List.getD_eq_getElem?_getD, List.getElem?_eq_getElem hi]
      rfl
    · have h1' : dFirst d 1 (recB r).length < 0 := by omega
      have h2 : 0 ≤ dFirst d 0 (recB r).length := by
        refine Classical.byContradiction fun h2 => ?_
        unfold placeE at hp
        rw [if_neg hn1, if_neg h1, if_pos (by omega)] at hp
        cases hp
      have h2' : ¬ dFirst d 0 (recB r).length < 0 := by omega
      obtain ⟨i, hi, e, hpr⟩ := zIdx_lt h2
      simp only [Bool.and_eq_true, decide_eq_true_eq] at hpr
      have eN : placeN d (recB r).length = i := by unfold placeN; rw [if_neg hn1, if_neg h1, if_neg h2']; exact e
      have hno : ∀ z ∈ d.zones, z.st = 1 → zRoom z d.size < (recB r).length := fun z hz hs => by
        have := zIdx_none h1' z hz
        simp [hs] at this
        omega
      have eC : oneC d r = ⟨FloatKind.f64.nearest (i : Int), FloatKind.f64.nearest (d.zones[i].data.length : Int)⟩ := by
        unfold oneC
        rw [eN, Int.toNat_natCast, List.getD_eq_getElem?_getD, List.getElem?_eq_getElem hi]
        rfl
      by_cases h3 : 3 ≤ stN 1 d.zones
      · have h30 := hg.op
        have hex : 0 ≤ dFirst d 1 0 := by
          refine Classical.byContradiction fun hx => ?_
          have hall := zIdx_none (show dFirst d 1 0 < 0 by omega)
          have : stN 1 d.zones = 0 := by
            unfold stN
            rw [List.countP_eq_zero]
            intro z hz hs
            have hs' : z.st = 1 := by simpa using hs
            have := hall z hz
            simp only [hs', decide_true, Bool.true_and, decide_eq_false_iff_not] at this
            apply this
            unfold zRoom
            split
            · have := zOk_iff.1 (hd.1 z hz)
              omega
            · omega
          omega
        obtain ⟨j, hj, ej, hpj⟩ := zIdx_lt hex
        simp only [Bool.and_eq_true, decide_eq_true_eq] at hpj
        have hji : j ≠ i := by
          rintro rfl
          rw [hpr.1] at hpj
          exact absurd hpj.1 (by decide)
        have eL : placeL d (recB r).length = [⟨3, j, []⟩] := by unfold placeL; rw [if_neg hn1, if_neg h1, if_neg h2', if_pos h3]; rw [show dFirst d 1 0 = (j : Int) from ej]
        obtain ⟨f1, f2, f3⟩ := do_fin hg (by omega) hj hpj.1
        have hi' : i < (dDid d (d.zones.set j (zEnd d.zones[j]))).zones.length := by simpa [dDid] using hi
        have eg : (dDid d (d.zones.set j (zEnd d.zones[j]))).zones[i] = d.zones[i] := by
          exact List.getElem_set_ne hji (show i < (d.zones.set j (zEnd d.zones[j])).length by simpa using hi)
        obtain ⟨k1, k2⟩ := do_app f2 (by omega) hi' hb (by omega) (by rw [eg]; exact hpr.2) (.inr (by show stN 1 (d.zones.set j _) < 3; omega))
        rw [eg] at k1 k2
        refine ⟨i, hi, _, (hone _ (by unfold oneD cmdL; rw [eL, eN]; simp only [List.cons_append, List.nil_append, List.foldlM_cons, List.foldlM_nil]; rw [f1]; simp only [Option.bind_eq_bind, Option.bind_some]; rw [k1]; rfl)).trans (by rw [eC]), ⟨hpr.2, k2.mono (by omega), rfl, .inr ⟨hpr.1, hno, .inr ⟨j, hj, hji, hpj.1, by omega, rfl⟩⟩⟩⟩
      · have eL : placeL d (recB r).length = [] := by unfold placeL; rw [if_neg hn1, if_neg h1, if_neg h2', if_neg h3]
        obtain ⟨k1, k2⟩ := do_app hg (by omega) hi hb (by omega) hpr.2 (.inr (by omega))
        exact ⟨i, hi, _, (hone _ (by unfold oneD cmdL; rw [eL, eN]; simp only [List.nil_append, List.foldlM_cons, List.foldlM_nil]; rw [k1]; rfl)).trans (by rw [eC]), ⟨hpr.2, k2.mono (by omega), rfl, .inr ⟨hpr.1, hno, .inl rfl⟩⟩⟩
  · refine .inl ⟨hp, ?_⟩
    unfold one1
    rw [if_pos hl, if_neg hr', if_pos hp]
end Go.Av.Pl

namespace Go.Av
open Enc (enc dec)
open Cel (cs dc)
open Go.Proofs Pl

theorem decX_rep : ∀ n : Nat, (decX (List.replicate n [V.val (.int .u8 0)]) : Option (List UInt8)) = some (List.replicate n 0)
  | 0 => rfl
  | n + 1 => by
    rw [List.replicate_succ, decX_cons, decX_rep n]
    rfl
@[simp] def sp_lApp (d : Dv) (l : List Rec) : Option (V × List Tip) := if (d.zones.length ≤ 2 ^ 40 ∧ d.zones.all (fun z => decide (z.data.length ≤ 2 ^ 30)) = true ∧ d.zones ≠ []) ∧ l.length ≤ 2 ^ 30 then (appR d l).map fun R => (.tuple [enc R.1, enc R.2.1, enc R.2.2], []) else none
theorem sp_lApp_ok : EOk Try.prog n_log_Append (sp2 sp_lApp) := sp2_ok fun d l r h => by
  simp only [sp_lApp] at h
  split at h
  · rename_i hc
    simp only [Option.map_eq_some_iff] at h
    obtain ⟨R, hR, rfl⟩ := h
    exact c_lAppend d l ⟨hc.1.1, fun z hz => by simpa using List.all_eq_true.1 hc.1.2.1 z hz⟩ hc.1.2.2 hc.2 R hR
  · cases h
@[simp] def sp_dNew (a b : Int) : Option (V × List Tip) := some (.tuple [enc (dNew a b), enc (dNewE a b)], [])
theorem sp_dNew_ok : EOk Try.prog n_dev_New (sp2 sp_dNew) := sp2_ok fun a b r h => by cases h; exact c_dNew a b
@[simp] def sp_lEmpty (d : Dv) : Option (V × List Tip) := if d.zones.length ≤ 2 ^ 40 then some (enc (stN 0 d.zones : Int), []) else none
theorem sp_lEmpty_ok : EOk Try.prog n_log_Empty (sp1 sp_lEmpty) := sp1_ok fun d r h => by
  simp only [sp_lEmpty] at h
  split at h <;> cases h
  exact c_lEmpty d (by assumption)
@[simp] def sp_true : Option (V × List Tip) := some (.val (.bool true), [])
theorem dg_app {d : Dv} {k : Nat} (h : DG d k) : d.zones.length ≤ 2 ^ 40 ∧ d.zones.all (fun z => decide (z.data.length ≤ 2 ^ 30)) = true ∧ d.zones ≠ [] := by
  obtain ⟨h1, h2⟩ := dOk_sm h.ok
  exact ⟨h1.n, List.all_eq_true.2 fun z hz => by simpa using h1.z z hz, h2⟩
end Go.Av

namespace Go.Av.Pl
/-- Two records, and a device that holds them. -/
def awB : List UInt8 := List.replicate 40 0
def awA : Rec := ⟨1, 5, awB⟩
def awC : Rec := ⟨1, 6, awB⟩
def awX1 : Dv := ⟨100, [⟨1, 0, recB awA, 0⟩, ⟨0, 0, [], 0⟩], -1, false, 1⟩
def awX : Dv := ⟨100, [⟨1, 0, recB awA, 0⟩, ⟨1, 0, recB awC, 0⟩], -1, false, 2⟩
theorem awA_ok : recOk awA = true := by decide
theorem awC_ok : recOk awC = true := by decide
theorem awA_len : (recB awA).length = 60 := recB_length awA_ok
theorem awC_len : (recB awC).length = 60 := recB_length awC_ok
theorem aw_new : dNew 2 100 = ⟨100, [⟨0, 0, [], 0⟩, ⟨0, 0, [], 0⟩], -1, false, 0⟩ := by decide
theorem aw_nearest0 : FloatKind.f64.nearest (0 : Int) = 0 := by decide
theorem aw_nearest1 : FloatKind.f64.nearest (1 : Int) = 4607182418800017408 := by decide
theorem awA_ne : ¬ recB awA = [] := recB_ne awA_ok
theorem awC_ne : ¬ recB awC = [] := recB_ne awC_ok
theorem aw1 : one1 (dNew 2 100) awA = some (awX1, ⟨0, 0⟩, 0) := by
  rw [aw_new]
  simp [one1, awA_ok, awX1, placeE, placeN, placeL, dOk, zOk, awA_len, awC_len, dFirst, zIdx, zRoom, zTakes, stN, oneD, oneC, cmdL, dDoR, dDoZ, dCmd, zApp, zFill, dDid, dLeft, aw_nearest0, aw_nearest1, List.findIdx?_cons, List.findIdx?_nil, awA_ne, awC_ne]
theorem aw2 : one1 awX1 awC = some (awX, ⟨4607182418800017408, 0⟩, 0) := by
  simp [one1, awC_ok, awX1, awX, placeE, placeN, placeL, dOk, zOk, awA_len, awC_len, dFirst, zIdx, zRoom, zTakes, stN, oneD, oneC, cmdL, dDoR, dDoZ, dCmd, zApp, zFill, dDid, dLeft, aw_nearest0, aw_nearest1, List.findIdx?_cons, List.findIdx?_nil, awA_ne, awC_ne]
theorem aw3 : one1 awX awA = some (awX, ⟨0, 0⟩, 60) := by
  simp [one1, awA_ok, awX, placeE, placeN, placeL, dOk, zOk, awA_len, awC_len, dFirst, zIdx, zRoom, zTakes, stN, oneD, oneC, cmdL, dDoR, dDoZ, dCmd, zApp, zFill, dDid, dLeft, aw_nearest0, aw_nearest1, List.findIdx?_cons, List.findIdx?_nil, awA_ne, awC_ne]
theorem aw12 : appR (dNew 2 100) [awA, awC] = some (awX, [⟨0, 0⟩, ⟨4607182418800017408, 0⟩], 0) := by
  simp [appR, aw1, aw2]
theorem aw4 : appR awX [awA] = some (awX, [], 60) := by
  simp [appR, aw3]
theorem aw_place : placeN awX 40 = 0 ∧ placeL awX 40 = [] ∧ placeE awX 40 = 0 ∧ placeE awX 101 = 1 := by
  simp [awX, placeE, placeN, placeL, dOk, zOk, awA_len, awC_len, dFirst, zIdx, zRoom, zTakes, stN, oneD, oneC, cmdL, dDoR, dDoZ, dCmd, zApp, zFill, dDid, dLeft, aw_nearest0, aw_nearest1, List.findIdx?_cons, List.findIdx?_nil, awA_ne, awC_ne]
theorem aw_dOk : dOk awX = true := by simp [awX, placeE, placeN, placeL, dOk, zOk, awA_len, awC_len, dFirst, zIdx, zRoom, zTakes, stN, oneD, oneC, cmdL, dDoR, dDoZ, dCmd, zApp, zFill, dDid, dLeft, aw_nearest0, aw_nearest1, List.findIdx?_cons, List.findIdx?_nil, awA_ne, awC_ne]
theorem aw_emp : stN 0 awX.zones = 0 ∧ stN 0 (dNew 2 100).zones = 2 := by
  rw [aw_new]
  simp [awX, stN]
theorem scan_one {r : Rec} (h : recOk r = true) (a b c : Int) (i : Nat) : scanF ⟨a, b, recB r, c⟩ i = [⟨r, i, 0⟩] := by
  have := scan_back [r] ((recB r).length + 1) 0 (by simpa using h) (by have := recB_length h; simp; omega)
  rw [List.flatMap_cons, List.flatMap_nil, List.append_nil] at this
  rw [scanF, this]
  rfl
theorem aw_allF : allF awX.zones 0 = [⟨awA, 0, 0⟩, ⟨awC, 1, 0⟩] := by
  simp only [awX, allF, scan_one awA_ok, scan_one awC_ok]
  rfl
theorem aw_sort : sortF [⟨awA, 0, 0⟩, ⟨awC, 1, 0⟩] = [⟨awA, 0, 0⟩, ⟨awC, 1, 0⟩] := rfl
theorem aw_run : runF [⟨awA, 0, 0⟩, ⟨awC, 1, 0⟩] 3 5 = [awA, awC] ∧ runF [⟨awA, 0, 0⟩, ⟨awC, 1, 0⟩] 3 4 = [] := by
  simp [runF, lookF, awA, awC]
end Go.Av.Pl
namespace Go.Av
open Enc (enc dec)
open Cel (cs dc)
open Go.Proofs Pl

@[simp] def sp_lAll (d : Dv) : Option (V × List Tip) := if dOk d = true ∧ (allF d.zones 0).length ≤ 20 then some (.tuple [enc (sortF (allF d.zones 0)), enc (0 : Int)], []) else none
theorem sp_lAll_ok : EOk Try.prog n_log_All (sp1 sp_lAll) := sp1_ok fun d r h => by
  simp only [sp_lAll] at h
  split at h <;> cases h
  rename_i hc
  exact c_lAll d hc.1 hc.2
@[simp] def sp_lRun (l : List Fnd) (n : Int) : Option (V × List Tip) := if l.length ≤ 2 ^ 30 ∧ -(2 ^ 63) ≤ n ∧ (n ≤ 2 ^ 62 ∨ l.all (fun f => decide (f.rcd.seq ≤ 2 ^ 62)) = true) then some (enc (runF l (l.length + 1) n), []) else none
theorem sp_lRun_ok : EOk Try.prog n_log_Run (sp2 sp_lRun) := sp2_ok fun l n r h => by
  simp only [sp_lRun] at h
  split at h <;> cases h
  rename_i hc
  exact c_lRun l n hc.1 ⟨hc.2.1, hc.2.2.imp id fun h f hf => by simpa using List.all_eq_true.1 h f hf⟩
def DawO : Orc := (((((Orc.nil.add n_dev_New (sp2 sp_dNew)).add n_log_Append (sp2 sp_lApp)).add n_log_All (sp1 sp_lAll)).add n_log_Place (sp2 sp_lPlace)).add n_log_Run (sp2 sp_lRun)).add n_log_Empty (sp1 sp_lEmpty)
theorem DawO_ok : OOk Try.prog DawO := (((((OOk.nil.add sp_dNew_ok).add sp_lApp_ok).add sp_lAll_ok).add sp_lPlace_ok).add sp_lRun_ok).add sp_lEmpty_ok
set_option maxRecDepth 8000 in
theorem c_w06awake : Pure Try.prog n_w06_awake [] (.val (.bool true)) [] := by
  refine Pure.ofC DawO_ok hm F_w06_awake_ok (by simp [F_w06_awake]) rfl ?_
  have h12 := aw12
  have h4 := aw4
  simp only [awA, awC, awB, List.replicate] at h12 h4
  have z1 : (dNew 2 100).zones.length = 2 := by rw [aw_new]; rfl
  have z2 : ∀ z ∈ (dNew 2 100).zones, z.data.length ≤ 1073741824 := by rw [aw_new]; simp
  have z3 : ¬ (dNew 2 100).zones = [] := by rw [aw_new]; simp
  have x1 : awX.zones.length = 2 := rfl
  have x2 : ∀ z ∈ awX.zones, z.data.length ≤ 1073741824 := by simp [awX, awA_len, awC_len]
  have x3 : ¬ awX.zones = [] := by simp [awX]
  have hN : dNewE 2 100 = 0 := by decide
  have a1 := aw_allF
  have a2 := aw_sort
  obtain ⟨p1, p2, p3, p4⟩ := aw_place
  obtain ⟨e1, e2⟩ := aw_emp
  obtain ⟨r1, r2⟩ := aw_run
  have f0 : Op.floatEq .f64 0 0 = true := by decide
  have f1 : Op.floatEq .f64 4607182418800017408 4607182418800017408 = true := by decide
  have q6 : awC.seq = 6 := rfl
  simp [F_w06_awake, DawO, z1, z3, h12]
  simp [x1, x3, h4, p1, p2, p3, p4, e1, e2, aw_dOk, a1, a2, r1, r2, f0, f1, q6]
  refine ⟨z2, x2, ?_⟩
  rw [show (⟨awC.kind, 6, awC.body⟩ : Rec) = awC from rfl, r1, r2, z1]
  decide
end Go.Av

namespace Go.Av.Pl
/-- The records of a zone, of zones, as they are found. -/
def zoneL (rs : List Rec) (i : Nat) : List Fnd := (List.range rs.length).map fun j => ⟨rs.getD j Rec.zero, (i : Int), (((rs.take j).flatMap recB).length : Int)⟩
def allL : List (List Rec) → Nat → List Fnd
  | [], _ => []
  | rs :: F, i => zoneL rs i ++ allL F (i + 1)
/-- A device that holds records. -/
structure Hd (d : Dv) (F : List (List Rec)) : Prop where
  data : d.zones.map (fun y => y.data) = F.map (fun rs => rs.flatMap recB)
  ok : ∀ rs ∈ F, ∀ r ∈ rs, recOk r = true
theorem zoneL_snoc (rs : List Rec) (r : Rec) (i : Nat) : zoneL (rs ++ [r]) i = zoneL rs i ++ [⟨r, i, ((rs.flatMap recB).length : Int)⟩] := by
  unfold zoneL
  rw [List.length_append, List.length_singleton, List.range_succ, List.map_append]
  congr 1
  · refine List.map_congr_left fun j hj => ?_
    have hj := List.mem_range.1 hj
    rw [List.getD_eq_getElem?_getD, List.getD_eq_getElem?_getD, List.getElem?_append_left hj, List.take_append_of_le_length (by omega)]
  · simp [List.getD_eq_getElem?_getD]
theorem zoneL_len (rs : List Rec) (i : Nat) : (zoneL rs i).length = rs.length := by simp [zoneL]
theorem scanF_held {z : Zo} {rs : List Rec} (h : z.data = rs.flatMap recB) (hok : ∀ r ∈ rs, recOk r = true) (i : Nat) : scanF z i = zoneL rs i := by
  have hl : rs.length ≤ (rs.flatMap recB).length := by
    clear h
    induction rs with
    | nil => simp
    | cons r rs ih =>
      have h1 := recB_length (hok r List.mem_cons_self)
      have h2 := ih fun x hx => hok x (List.mem_cons_of_mem _ hx)
      rw [List.flatMap_cons, List.length_append, List.length_cons]
      omega
  unfold scanF
  rw [h, scan_back rs _ 0 hok (by omega), List.map_map]
  unfold zoneL
  refine List.map_congr_left fun j _ => ?_
  simp
theorem allF_held : ∀ {zs : List Zo} {F : List (List Rec)}, zs.map (fun y => y.data) = F.map (fun rs => rs.flatMap recB) → (∀ rs ∈ F, ∀ r ∈ rs, recOk r = true) → ∀ n, allF zs n = allL F n
  | [], [], _, _, _ => rfl
  | [], _ :: _, h, _, _ => by simp at h
  | _ :: _, [], h, _, _ => by simp at h
  | z :: zs, rs :: F, h, hok, n => by
    simp only [List.map_cons, List.cons.injEq] at h
    rw [allF, allL, scanF_held h.1 (hok rs List.mem_cons_self), allF_held h.2 fun x hx => hok x (List.mem_cons_of_mem _ hx)]
theorem Hd.len {d : Dv} {F : List (List Rec)} (h : Hd d F) : F.length = d.zones.length := by
  have := congrArg List.length h.data
  simpa using this.symm
theorem Hd.get {d : Dv} {F : List (List Rec)} (h : Hd d F) {i : Nat} (hi : i < d.zones.length) : d.zones[i].data = (F[i]'(by rw [h.len]; exact hi)).flatMap recB := by
  have := congrArg (·[i]?) h.data
  simp only [List.getElem?_map, List.getElem?_eq_getElem hi, List.getElem?_eq_getElem (show i < F.length by rw [h.len]; exact hi), Option.map_some, Option.some.injEq] at this
  exact this
/-- One more in a zone: as they are found. -/
theorem allL_set : ∀ (F : List (List Rec)) (i n : Nat) (hi : i < F.length) (r : Rec), (allL (F.set i (F[i] ++ [r])) n).Perm (allL F n ++ [⟨r, ((n + i : Nat) : Int), (((F[i]).flatMap recB).length : Int)⟩])
  | rs :: F, 0, n, hi, r => by
    simp only [List.set_cons_zero, List.getElem_cons_zero, allL, zoneL_snoc, Nat.add_zero, List.append_assoc]
    refine List.Perm.append_left _ ?_
    exact List.perm_append_comm
  | rs :: F, i + 1, n, hi, r => by
    simp only [List.set_cons_succ, List.getElem_cons_succ, allL, List.append_assoc]
    refine List.Perm.append_left _ ?_
    have := allL_set F i (n + 1) (by simpa using hi) r
    rw [show n + 1 + i = n + (i + 1) by omega] at this
    exact this
theorem one_held {d : Dv} {k : Nat} {F : List (List Rec)} (hF : Hd d F) {r : Rec} (hr : recOk r = true) {d' : Dv} {i : Nat} {hi : i < d.zones.length} (hS : OneS d k (recB r) d' i hi) :
    Hd d' (F.set i (F[i]'(by rw [hF.len]; exact hi) ++ [r])) ∧ d'.zones.length = d.zones.length := by
  have hiF : i < F.length := by rw [hF.len]; exact hi
  have hdat : d'.zones.map (fun y => y.data) = (d.zones.map (fun y => y.data)).set i (d.zones[i].data ++ recB r) ∧ d'.zones.length = d.zones.length := by
    rcases hS.zones with ⟨_, e⟩ | ⟨_, _, e | ⟨j, hj, hji, _, _, e⟩⟩
    · rw [e, List.map_set, List.length_set]; exact ⟨rfl, rfl⟩
    · rw [e, List.map_set, List.length_set]; exact ⟨rfl, rfl⟩
    · rw [e, List.map_set, List.map_set, List.length_set, List.length_set]
      refine ⟨?_, rfl⟩
      have : (d.zones.map (fun y => y.data)).set j (zEnd d.zones[j]).data = d.zones.map (fun y => y.data) := by
        refine List.ext_getElem (by simp) fun k h1 h2 => ?_
        rw [List.getElem_set]
        split
        · rename_i e; subst e; simp [zEnd]
        · rfl
      rw [this]
      rfl
  refine ⟨⟨?_, ?_⟩, hdat.2⟩
  · rw [hdat.1, List.map_set, ← hF.data, List.flatMap_append, List.flatMap_cons, List.flatMap_nil, List.append_nil, ← hF.get hi]
  · intro rs hrs x hx
    rcases List.mem_or_eq_of_mem_set hrs with h | rfl
    · exact hF.ok rs h x hx
    · rcases List.mem_append.1 hx with h | h
      · exact hF.ok _ (List.getElem_mem hiF) x h
      · rw [List.mem_singleton.1 h]; exact hr
def cxP (p : Nat × Nat) : Cx := ⟨FloatKind.f64.nearest (p.1 : Int), FloatKind.f64.nearest (p.2 : Int)⟩
/-- Records, and where they stand, as they are found. -/
def fndL : List Rec → List (Nat × Nat) → List Fnd
  | r :: l, p :: P => ⟨r, p.1, p.2⟩ :: fndL l P
  | _, _ => []
/-- Behind records that were appended. -/
structure AppS (d : Dv) (k : Nat) (F : List (List Rec)) (l : List Rec) (d' : Dv) (P : List (Nat × Nat)) (e : Int) (F' : List (List Rec)) : Prop where
  good : DG d' (k + 2 * l.length)
  size : d'.size = d.size
  len : d'.zones.length = d.zones.length
  held : Hd d' F'
  many : P.length ≤ l.length
  all : e = 0 → P.length = l.length
  perm : (allL F' 0).Perm (allL F 0 ++ fndL l P)
  room : (∀ r ∈ l, recOk r = true ∧ (r.body.length : Int) + 20 ≤ d.size) → e = 0 ∨ e = 60
theorem app_held : ∀ (l : List Rec) {d : Dv} {k : Nat} {F : List (List Rec)}, DG d k → k + 2 * l.length ≤ 2 ^ 61 → Hd d F → ∃ d' P e F', appR d l = some (d', P.map cxP, e) ∧ AppS d k F l d' P e F'
  | [], d, k, F, hg, hk, hF => ⟨d, [], 0, F, rfl, hg, rfl, rfl, hF, Nat.le_refl _, fun _ => rfl, by simp [fndL], fun _ => .inl rfl⟩
  | r :: l, d, k, F, hg, hk, hF => by
    have hlen : d.zones.length ≤ 2 ^ 40 := by have := (dOk_iff.1 hg.ok).2.2.1; omega
    simp only [List.length_cons] at hk
    by_cases hr : recOk r = true
    · rcases one_good hg (by omega) hr with ⟨hp, hone⟩ | ⟨i, hi, d1, hone, hS⟩
      · refine ⟨d, [], placeE d (recB r).length, F, by simp [appR, hone, hp], hg.mono (by omega), rfl, rfl, hF, by simp, fun h => absurd h hp, by simp [fndL], fun h => ?_⟩
        have h1 := (h r List.mem_cons_self).2
        have h2 := recB_length hr
        unfold placeE at hp ⊢
        rw [if_neg (by rintro (h | h | h) <;> first | (rw [hg.ok] at h; cases h) | omega)] at hp ⊢
        split
        · exact .inl rfl
        · split
          · exact .inr rfl
          · exact .inl rfl
      · obtain ⟨hF1, hl1⟩ := one_held hF hr hS
        obtain ⟨d', P, e, F', h1, h2⟩ := app_held l hS.good (by omega) hF1
        have hiF : i < F.length := by rw [hF.len]; exact hi
        refine ⟨d', (i, d.zones[i].data.length) :: P, e, F', ?_, ?_⟩
        · simp only [appR, hone, Option.bind_some, ne_eq, not_true_eq_false, if_false, h1, Option.map_some]
          rfl
        · refine ⟨by simpa [Nat.mul_add, Nat.add_assoc, Nat.add_comm, Nat.add_left_comm] using h2.good, h2.size.trans hS.size, h2.len.trans hl1, h2.held, by simpa using h2.many, fun he => by simpa using h2.all he, ?_, fun h => h2.room fun x hx => ?_⟩
          · refine h2.perm.trans ?_
            have h3 := allL_set F i 0 hiF r
            rw [← hF.get hi] at h3
            have h4 := h3.append_right (fndL l P)
            simpa [fndL] using h4
          · rw [hS.size]
            exact h x (List.mem_cons_of_mem _ hx)
    · have hr' : recOk r = false := by simpa using hr
      have hone := one_bad hlen hr'
      exact ⟨d, [], 50, F, by simp [appR, hone], hg.mono (by omega), rfl, rfl, hF, by simp, fun h => (by cases h), by simp [fndL], fun h => absurd (h r List.mem_cons_self).1 hr⟩
theorem fndL_len : ∀ (l : List Rec) (P : List (Nat × Nat)), (fndL l P).length = min l.length P.length
  | [], P => by simp [fndL]
  | r :: l, [] => by simp [fndL]
  | r :: l, p :: P => by simp only [fndL, List.length_cons, fndL_len l P]; omega
theorem fndL_mem : ∀ {l : List Rec} {P : List (Nat × Nat)} {f : Fnd}, f ∈ fndL l P → f.rcd ∈ l
  | [], P, f, h => by simp [fndL] at h
  | r :: l, [], f, h => by simp [fndL] at h
  | r :: l, p :: P, f, h => by
    rcases List.mem_cons.1 h with rfl | h
    · exact List.mem_cons_self
    · exact List.mem_cons_of_mem _ (fndL_mem h)
/-- A new device holds none. -/
theorem held_new (z : Nat) (n : Int) (hz : 1 ≤ z ∧ z ≤ 64) (hn : 1 ≤ n ∧ n ≤ 1048576) : DG (dNew z n) 0 ∧ Hd (dNew z n) (List.replicate z []) ∧ (dNew z n).size = n ∧ (dNew z n).zones.length = z ∧ dNewE z n = 0 := by
  have e : dNew z n = ⟨n, List.replicate z ⟨0, 0, [], 0⟩, -1, false, 0⟩ := by
    unfold dNew
    rw [if_neg (by omega), Int.toNat_natCast]
  have e2 : dNewE z n = 0 := by
    unfold dNewE
    rw [if_neg (by omega)]
  rw [e]
  refine ⟨⟨dOk_iff.2 ⟨fun y hy => ?_, by simp; omega, by simp; omega, by show 0 < n; omega, by show n ≤ 1048576; omega⟩, rfl, rfl, by simp, ?_⟩, ⟨by simp, fun rs hrs r hr => ?_⟩, rfl, by simp, e2⟩
  · obtain ⟨_, rfl⟩ := List.mem_replicate.1 hy
    refine zOk_iff.2 ⟨⟨by show 1 ≤ n; omega, by show n ≤ 1048576; omega, by show (0 : Int) ≤ n; omega, by decide, by decide, by decide, by decide⟩, .inl ⟨rfl, rfl⟩⟩
  · have : stN 1 (List.replicate z (⟨0, 0, [], 0⟩ : Zo)) = 0 := by
      unfold stN
      rw [List.countP_eq_zero]
      intro y hy
      obtain ⟨_, rfl⟩ := List.mem_replicate.1 hy
      decide
    simp only [this]
    omega
  · obtain ⟨_, rfl⟩ := List.mem_replicate.1 hrs
    cases hr
theorem allL_none : ∀ (z n : Nat), allL (List.replicate z []) n = []
  | 0, _ => rfl
  | z + 1, n => by
    rw [List.replicate_succ, allL, allL_none z]
    rfl
theorem allL_ok : ∀ {F : List (List Rec)} {n : Nat} {f : Fnd}, (∀ rs ∈ F, ∀ r ∈ rs, recOk r = true) → f ∈ allL F n → recOk f.rcd = true
  | [], n, f, _, h => by cases h
  | rs :: F, n, f, hok, h => by
    rw [allL] at h
    rcases List.mem_append.1 h with h | h
    · unfold zoneL at h
      obtain ⟨j, hj, rfl⟩ := List.mem_map.1 h
      have hj := List.mem_range.1 hj
      simp only [List.getD_eq_getElem?_getD, List.getElem?_eq_getElem hj, Option.getD_some]
      exact hok rs List.mem_cons_self _ (List.getElem_mem hj)
    · exact allL_ok (fun x hx => hok x (List.mem_cons_of_mem _ hx)) h
end Go.Av.Pl

namespace Go.Av.Pl
theorem insS_perm (acc : List Fnd) (x : Fnd) : (insS acc x).Perm (acc ++ [x]) := by
  have h : ∀ l : List Fnd, (l.filter (fun y => decide (y.rcd.seq ≤ x.rcd.seq)) ++ l.filter (fun y => decide (x.rcd.seq < y.rcd.seq))).Perm l := fun l => by
    have := List.filter_append_perm (fun y : Fnd => decide (y.rcd.seq ≤ x.rcd.seq)) l
    have e : l.filter (fun y => decide (x.rcd.seq < y.rcd.seq)) = l.filter (fun y => !decide (y.rcd.seq ≤ x.rcd.seq)) := by
      congr 1
      funext y
      by_cases hy : y.rcd.seq ≤ x.rcd.seq
      · have : ¬ x.rcd.seq < y.rcd.seq := by omega
        simp [hy, this]
      · have : x.rcd.seq < y.rcd.seq := by omega
        simp [hy, this]
    rw [e]
    exact this
  unfold insS
  refine (List.perm_middle).trans ?_
  refine (List.Perm.cons x (h acc)).trans ?_
  exact (List.perm_append_comm (l₁ := [x]) (l₂ := acc))
theorem sortF_perm (l : List Fnd) : (sortF l).Perm l := by
  have : ∀ (l acc : List Fnd), (l.foldl insS acc).Perm (acc ++ l) := by
    intro l
    induction l with
    | nil => intro acc; simp
    | cons a l ih =>
      intro acc
      rw [List.foldl_cons]
      refine (ih _).trans ?_
      have := (insS_perm acc a).append_right l
      simpa using this
  have := this l []
  rw [List.nil_append] at this
  exact this
theorem look_seq {l : List Fnd} {q : Int} {r : Rec} (h : lookF l q = some r) : r.seq = q := by
  rw [lookF, Option.map_eq_some_iff] at h
  obtain ⟨f, hf, rfl⟩ := h
  simpa using List.find?_some hf
theorem runF_seq (l : List Fnd) : ∀ (k : Nat) (q : Int) (i : Nat) (hi : i < (runF l k q).length), (runF l k q)[i].seq = q + i
  | 0, q, i, hi => by simp [runF] at hi
  | k + 1, q, i, hi => by
    cases h : lookF l q with
    | none => simp [runF, h] at hi
    | some r =>
      have e : runF l (k + 1) q = r :: runF l k (q + 1) := by rw [runF, h]
      simp only [e]
      cases i with
      | zero => simp [look_seq h]
      | succ i =>
        have h1 : i < (runF l k (q + 1)).length := by rw [e] at hi; simpa using hi
        have := runF_seq l k (q + 1) i h1
        rw [List.getElem_cons_succ, this]
        omega
theorem runF_found (l : List Fnd) : ∀ (k : Nat) (q : Int) (i : Nat), i < (runF l k q).length → (lookF l (q + i)).isSome = true
  | 0, q, i, hi => by simp [runF] at hi
  | k + 1, q, i, hi => by
    cases h : lookF l q with
    | none => simp [runF, h] at hi
    | some r =>
      have e : runF l (k + 1) q = r :: runF l k (q + 1) := by rw [runF, h]
      cases i with
      | zero => simp [h]
      | succ i =>
        have h1 : i < (runF l k (q + 1)).length := by rw [e] at hi; simpa using hi
        have := runF_found l k (q + 1) i h1
        rwa [show q + 1 + (i : Int) = q + ((i + 1 : Nat) : Int) by omega] at this
theorem runF_stop (l : List Fnd) : ∀ (k : Nat) (q : Int), (runF l k q).length < k → lookF l (q + (runF l k q).length) = none
  | 0, q, hi => by simp at hi
  | k + 1, q, hi => by
    cases h : lookF l q with
    | none =>
      have e : runF l (k + 1) q = [] := by rw [runF, h]
      rw [e]
      simpa using h
    | some r =>
      have e : runF l (k + 1) q = r :: runF l k (q + 1) := by rw [runF, h]
      rw [e, List.length_cons] at hi ⊢
      have := runF_stop l k (q + 1) (by omega)
      rwa [show q + 1 + ((runF l k (q + 1)).length : Int) = q + (((runF l k (q + 1)).length + 1 : Nat) : Int) by omega] at this
theorem runF_end (l : List Fnd) (q : Int) : ∀ f ∈ l, f.rcd.seq ≠ q + (runF l (l.length + 1) q).length := by
  have h1 := run_len q _ l (runF_found l (l.length + 1) q)
  have h2 := runF_stop l (l.length + 1) q (by omega)
  intro f hf e
  rw [lookF, Option.map_eq_none_iff, List.find?_eq_none] at h2
  exact h2 f hf (by simpa using e)
end Go.Av.Pl
namespace Go.Av
open Enc (enc dec)
open Cel (cs dc)
open Go.Proofs Pl

theorem sp_awake6o_ok : EOk Try.prog n_w06_awake (sp0 sp_true) := sp0_ok fun r h => by cases h; exact c_w06awake
def DorO : Orc := ((((Orc.nil.add n_w06_awake (sp0 sp_true)).add n_dev_New (sp2 sp_dNew)).add n_log_Append (sp2 sp_lApp)).add n_log_All (sp1 sp_lAll)).add n_log_Run (sp2 sp_lRun)
theorem DorO_ok : OOk Try.prog DorO := ((((OOk.nil.add sp_awake6o_ok).add sp_dNew_ok).add sp_lApp_ok).add sp_lAll_ok).add sp_lRun_ok
def OrA (l : List Rec) (frm : Int) (z : Nat) (k : Nat) (s : Nat → V) (m : Mem) : Prop :=
  ∃ (i : Nat) (r : List (List V)), i + k = l.length ∧ s 1 = .lit 3 (l.map cs) ∧ s 2 = .val (.int .i64 frm) ∧ s 7 = .val (.bool true) ∧ s 8 = .ptr 0 0 ∧ s 10 = .val (.int .i64 i) ∧ m.boxes = cs (dNew z 1000) :: r
def OrB (all : List Fnd) (run : List Rec) (frm : Int) (k : Nat) (s : Nat → V) (m : Mem) : Prop :=
  ∃ i : Nat, i + k = all.length ∧ s 2 = .val (.int .i64 frm) ∧ s 7 = .val (.bool true) ∧ s 11 = .lit 5 (all.map cs) ∧ s 12 = .val (.int .i64 0) ∧ s 13 = .lit 3 (run.map cs) ∧ s 14 = .val (.bool false) ∧ s 15 = .val (.int .i64 i)
def OrC (run : List Rec) (frm : Int) (k : Nat) (s : Nat → V) (m : Mem) : Prop :=
  ∃ i : Nat, i + k = run.length ∧ s 2 = .val (.int .i64 frm) ∧ s 7 = .val (.bool true) ∧ s 12 = .val (.int .i64 0) ∧ s 13 = .lit 3 (run.map cs) ∧ s 14 = .val (.bool false) ∧ s 16 = .val (.int .i64 i)
theorem c_LogOrder (a : Int) (l : List Rec) (frm : Int) (ha : 0 ≤ a ∧ a < 256) (hf : -(2 ^ 63) ≤ frm) : Pure Try.prog n_w06_LogOrder [.val (.int .u8 a), enc l, enc frm] (.val (.bool true)) [] := by
  refine Pure.ofC DorO_ok hm F_w06_LogOrder_ok (by simp [F_w06_LogOrder]) rfl ?_
  by_cases h1 : 20 < (l.length : Int)
  · simp [F_w06_LogOrder, DorO, h1]
  obtain ⟨z, hz, hz2⟩ : ∃ z : Nat, 1 + a.tmod 20 = (z : Int) ∧ 1 ≤ z ∧ z ≤ 20 := by
    rw [Int.tmod_eq_emod_of_nonneg ha.1]
    have := Int.emod_nonneg a (show (20 : Int) ≠ 0 by decide)
    have := Int.emod_lt_of_pos a (show (0 : Int) < 20 by decide)
    exact ⟨(1 + a % 20).toNat, by omega, by omega, by omega⟩
  have w1 := IntWalk.i64_in (a.tmod 20) (by omega)
  have w0 := IntWalk.u8_in (a.tmod 20) (by omega)
  have w2 := IntWalk.i64_in (z : Int) (by omega)
  obtain ⟨g1, g2, g3, g4, g5⟩ := held_new z 1000 (by omega) (by omega)
  simp [F_w06_LogOrder, DorO, h1, w0, w1, hz, w2, g5]
  refine wp_loop (OrA l frm z) l.length (IW.of ⟨0, [], by omega, by simp, by simp, by simp, by simp, by simp, by simp⟩) fun k s m ⟨i, r, hik, s1, s2, s7, s8, s10, hm⟩ => ?_
  obtain ⟨bx, tips⟩ := m
  simp only at hm
  subst hm
  cases k with
  | succ k =>
    have hi : i < l.length := by omega
    have w3 := IntWalk.i64_in ((i : Int) + 1) (by omega)
    by_cases h3 : 300 < (l[i].body.length : Int)
    · simp [F_w06_LogOrder_L2, DorO, s1, s2, s7, s8, s10, hi, w3, h3]
    · simp [F_w06_LogOrder_L2, DorO, s1, s2, s7, s8, s10, hi, w3, h3]
      exact ⟨k, by omega, IW.of ⟨i + 1, r, by omega, by simp [s1], by simp [s2], by simp [s7], by simp [s8], by simp, rfl⟩⟩
  | zero =>
    have hi : i = l.length := by omega
    subst hi
    obtain ⟨d', P, e, F', ha, hA⟩ := app_held l g1 (by omega) g2
    obtain ⟨q1, q2, q3⟩ := dg_app g1
    simp at q1 q2
    have c0 : l.length ≤ 1073741824 := by omega
    have hall := allF_held hA.held.data hA.held.ok 0
    have hperm := hA.perm
    rw [allL_none, List.nil_append] at hperm
    have hlen : (allF d'.zones 0).length ≤ 20 := by
      rw [hall, hperm.length_eq, fndL_len]
      omega
    have hok := hA.good.ok
    generalize hq : allF d'.zones 0 = q at hlen
    have hso := sortF_sorted q
    have hsp := sortF_perm q
    have hsl := sortF_length q
    have hseq : ∀ f ∈ sortF q, 0 ≤ f.rcd.seq ∧ f.rcd.seq ≤ 4611686018427387903 := fun f hf => by
      have h2 : f ∈ allL F' 0 := by rw [← hall, hq]; exact hsp.mem_iff.1 hf
      have := recOk_iff.1 (allL_ok hA.held.ok h2)
      exact ⟨this.2.2.1, this.2.2.2.1⟩
    have c2 : ∀ f ∈ sortF q, f.rcd.seq ≤ 4611686018427387904 := fun f hf => by have := hseq f hf; omega
    have c3 : (sortF q).length ≤ 1073741824 := by omega
    have c4 : -9223372036854775808 ≤ frm := hf
    simp [F_w06_LogOrder_L2, DorO, s1, s2, s7, s8, s10, q1, q3, c0, ha, hq, hlen, hok, c3, c4]
    refine ⟨q2, .inr c2, ?_⟩
    have hr1 := runF_seq (sortF q) ((sortF q).length + 1) frm
    have hr2 := runF_end (sortF q) frm
    have hr3 := run_len frm _ (sortF q) (runF_found (sortF q) ((sortF q).length + 1) frm)
    have hr4 : ∀ i : Nat, i < (runF (sortF q) ((sortF q).length + 1) frm).length → frm + i ≤ 4611686018427387903 := fun i hi => by
      have := runF_found (sortF q) ((sortF q).length + 1) frm i hi
      obtain ⟨r, hr⟩ := Option.isSome_iff_exists.1 this
      obtain ⟨f, hf1, hf2⟩ := look_mem hr
      have := (hseq f hf1).2
      omega
    generalize runF (sortF q) ((sortF q).length + 1) frm = run at hr1 hr2 hr3 hr4
    generalize sortF q = all at hso hsl hseq c2 c3 hr2 hr3
    refine wp_loop (OrB all run frm) all.length (IW.of ⟨0, by omega, by simp [s2], by simp [s7], by simp, by simp, by simp, by simp, by simp⟩) fun k s m ⟨i, hik, s2, s7, s11, s12, s13, s14, s15⟩ => ?_
    cases k with
    | zero =>
      have hi : i = all.length := by omega
      subst hi
      simp [F_w06_LogOrder_L1, DorO, s2, s7, s11, s12, s13, s14, s15]
      refine wp_loop (OrC run frm) run.length (IW.of ⟨0, by omega, by simp [s2], by simp [s7], by simp [s12], by simp [s13], by simp [s14], by simp⟩) fun k s m ⟨i, hik, s2, s7, s12, s13, s14, s16⟩ => ?_
      cases k with
      | zero =>
        have hi : i = run.length := by omega
        subst hi
        simp [F_w06_LogOrder_L0, DorO, s2, s7, s12, s13, s14, s16]
      | succ k =>
        have hi : i < run.length := by omega
        have h5 := hr4 i hi
        have w4 := IntWalk.i64_in (frm + (i : Int)) (by omega)
        have w5 := IntWalk.i64_in ((i : Int) + 1) (by omega)
        have h6 := hr1 i hi
        simp [F_w06_LogOrder_L0, DorO, s2, s7, s12, s13, s14, s16, hi, h6, w4, w5]
        exact ⟨k, by omega, IW.of ⟨i + 1, by omega, by simp [s2], by simp [s7], by simp [s12], by simp [s13], by simp [s14], by simp⟩⟩
    | succ k =>
      have hi : i < all.length := by omega
      have w5 := IntWalk.i64_in ((i : Int) + 1) (by omega)
      have w6 := IntWalk.i64_in ((i : Int) - 1) (by omega)
      have hno := hr2 _ (List.getElem_mem hi)
      have key : wp Try.prog noY DorO F_w06_LogOrder_L1 s m (loopQ (OrB all run frm) (k + 1) (fun _ _ _ => False)) := by
        have hlr : run.length ≤ 1073741824 := by omega
        rcases Nat.eq_zero_or_pos i with hi0 | hi0
        · subst hi0
          have w5 : IntKind.i64.wrap 1 = 1 := by decide
          simp at s15
          by_cases hn : run.length = 0
          · have hn' : run = [] := List.length_eq_zero_iff.1 hn
            subst hn'
            simp [F_w06_LogOrder_L1, DorO, s2, s7, s11, s12, s13, s14, s15, hi, w5]
            exact ⟨k, by omega, IW.of ⟨1, by omega, by simp [s2], by simp [s7], by simp [s11], by simp [s12], by simp [s13], by simp, by simp⟩⟩
          · have hnp : 0 < run.length := by omega
            have hn1 : run.length - 1 < run.length := by omega
            have w7 : IntKind.i64.wrap ((run.length : Int) - 1) = ((run.length - 1 : Nat) : Int) := by
              have := hlr
              rw [IntWalk.i64_in _ (by omega)]; omega
            have h7 := hr1 _ hn1
            have h8 := hr4 _ hn1
            have w8 := IntWalk.i64_in (frm + ((run.length - 1 : Nat) : Int) + 1) (by omega)
            have hne : ¬ all[0].rcd.seq = frm + ((run.length - 1 : Nat) : Int) + 1 := by omega
            simp [F_w06_LogOrder_L1, DorO, s2, s7, s11, s12, s13, s14, s15, hi, w5, hnp, hn1, w7, h7, w8, hne]
            exact ⟨k, by omega, IW.of ⟨1, by omega, by simp [s2], by simp [s7], by simp [s11], by simp [s12], by simp [s13], by simp, by simp⟩⟩
        · have hi1 : i - 1 < all.length := by omega
          have w6 : IntKind.i64.wrap ((i : Int) - 1) = ((i - 1 : Nat) : Int) := by rw [IntWalk.i64_in _ (by omega)]; omega
          have hle : ¬ all[i].rcd.seq < all[i - 1].rcd.seq := by
            have := List.pairwise_iff_getElem.1 hso (i - 1) i (by omega) hi (by omega)
            omega
          by_cases hn : run.length = 0
          · have hn' : run = [] := List.length_eq_zero_iff.1 hn
            subst hn'
            simp [F_w06_LogOrder_L1, DorO, s2, s7, s11, s12, s13, s14, s15, hi, w5, hi0, hi1, w6, hle]
            exact ⟨k, by omega, IW.of ⟨i + 1, by omega, by simp [s2], by simp [s7], by simp [s11], by simp [s12], by simp [s13], by simp, by simp⟩⟩
          · have hnp : 0 < run.length := by omega
            have hn1 : run.length - 1 < run.length := by omega
            have w7 : IntKind.i64.wrap ((run.length : Int) - 1) = ((run.length - 1 : Nat) : Int) := by
              have := hlr
              rw [IntWalk.i64_in _ (by omega)]; omega
            have h7 := hr1 _ hn1
            have h8 := hr4 _ hn1
            have w8 := IntWalk.i64_in (frm + ((run.length - 1 : Nat) : Int) + 1) (by omega)
            have hne : ¬ all[i].rcd.seq = frm + ((run.length - 1 : Nat) : Int) + 1 := by omega
            simp [F_w06_LogOrder_L1, DorO, s2, s7, s11, s12, s13, s14, s15, hi, w5, hnp, hn1, w7, h7, w8, hne, hi0, hi1, w6, hle]
            exact ⟨k, by omega, IW.of ⟨i + 1, by omega, by simp [s2], by simp [s7], by simp [s11], by simp [s12], by simp [s13], by simp, by simp⟩⟩
      exact wp_mono _ (fun e s m h => by cases e <;> first | exact h | exact h.elim) key
end Go.Av

namespace Go.Av
open Enc (enc dec)
open Cel (cs dc)
open Go.RowKit Go.ChangeShapes Go.WideShapes Go.Deep

/-- The old memory. -/
def oldI (w : World) (b _o : Nat) : Prop := b < w.heap.size
def oldM (w : World) : Mp := ⟨[], [], oldI w, fun _ => none⟩
/-- Cells of a type are those of a plain value that has a property. -/
def Opn (P : Program) (t : TypeId) {α : Type} (c : α → List V) (Wf : α → Prop) : Prop :=
  (∀ a, (c a).length = P.cellsOf t) ∧ ∀ {H : Type} (en : TypeId × Value → H) (w : World) (base : Nat) (spare : Nat → Bool) (held : Bool) (fuel : Nat) (cs : List Value) (x : DataW H × List MemPlace),
    DataW.trod en P w base spare held fuel t cs = some x → ∃ a : α, Wf a ∧ RepL (oldM w) w (c a) cs ∧ ∀ v ∈ cs, v.oneCell' = true
theorem block_lt {w : World} {a : Addr} {v : Value} (h : w.cell? a = some v) : a.block < w.heap.size ∧ a.spot = none := by
  unfold World.cell? at h
  split at h
  · rename_i c e f hh
    refine ⟨(Array.getElem?_eq_some_iff.1 hh).1, ?_⟩
    cases hs : a.spot with
    | none => rfl
    | some s => simp [hs] at h
  · cases h
theorem Opn.int {P : Program} {t : TypeId} (ht : P.underlying t = some (.int .i64)) (hc : P.cellsOf t = 1) : Opn P t (fun n : Int => [enc n]) fun n => (Lit.int .i64 n).wf = true := by
  refine ⟨fun _ => hc.symm, fun en w base spare held fuel cs x h => ?_⟩
  obtain ⟨n, rfl, _, hw⟩ := DataW.trod_int ht h
  exact ⟨n, hw, ⟨_, _, rfl, ⟨rfl, rfl⟩, rfl⟩, by simp [Value.oneCell']⟩
theorem Opn.u8 {P : Program} {t : TypeId} (ht : P.underlying t = some (.int .u8)) (hc : P.cellsOf t = 1) : Opn P t (fun b : UInt8 => Cel.cs b) fun _ => True := by
  refine ⟨fun _ => hc.symm, fun en w base spare held fuel cs x h => ?_⟩
  obtain ⟨n, rfl, _, hw⟩ := DataW.trod_int ht h
  have hw := bounds_u8 hw
  have e : ((UInt8.ofNat n.toNat).toNat : Int) = n := by
    rw [UInt8.toNat_ofNat']
    omega
  refine ⟨UInt8.ofNat n.toNat, trivial, ⟨_, _, rfl, ⟨?_, rfl⟩, rfl⟩, by simp [Value.oneCell']⟩
  rw [e]
theorem cellsRep {w : World} {base n : Nat} {a : Addr} {cs : List Value} {l : List V} (h : w.cells? base a n = some cs) (hr : RepL (oldM w) w l cs) (ho : ∀ v ∈ cs, v.oneCell' = true) : RepC (oldM w) w l a.block a.off ∧ (l = [] ∨ a.spot = none) := by
  obtain ⟨_, hlen, hget⟩ := World.cells?_some h
  have hll := hr.length
  refine ⟨RepC.of_get fun i v hi => ?_, ?_⟩
  · obtain ⟨x, hx, hrep⟩ := hr.get hi
    have hin : i < n := by
      have := (List.getElem?_eq_some_iff.1 hx).1
      omega
    have hc := hget i hin
    rw [hx] at hc
    have hb := block_lt hc
    have e : a.add i = ⟨a.block, a.off + i, none⟩ := by
      unfold Addr.add at hb ⊢
      split
      · rename_i h0
        rw [if_pos h0] at hb
        subst h0
        cases a
        simp at hb ⊢
        exact hb.2
      · rfl
    rw [e] at hc hb
    exact ⟨x, hb.1, hc, ho x (List.mem_of_getElem? hx), hrep⟩
  · cases l with
    | nil => exact .inl rfl
    | cons v l =>
      right
      obtain ⟨x, hx, _⟩ := hr.get (i := 0) (v := v) rfl
      have hin : 0 < n := by
        have := (List.getElem?_eq_some_iff.1 hx).1
        omega
      have hc := hget 0 hin
      rw [hx] at hc
      exact (block_lt (a := a) (by simpa [Addr.add] using hc)).2
theorem Opn.slice {P : Program} {t e : TypeId} {α : Type} [Cel α] {Wf : α → Prop} (ht : P.underlying t = some (.slice e)) (hc : P.cellsOf t = 1) (hz : 0 < Cel.sz α) (he : Opn P e (Cel.cs (α := α)) Wf) : Opn P t (fun l : List α => [enc l]) fun l => l.length ≤ maxLen ∧ ∀ a ∈ l, Wf a := by
  refine ⟨fun _ => hc.symm, fun en w base spare held fuel cs x h => ?_⟩
  rcases open_slice ht h with ⟨rfl, rfl⟩ | ⟨a, len, cap, m, n, D, Pl, rfl, hb, hl, hm, hmm, rfl, hx⟩
  · exact ⟨[], ⟨Nat.zero_le _, by simp⟩, ⟨_, _, rfl, .inl ⟨rfl, rfl⟩, rfl⟩, by simp [Value.oneCell']⟩
  · have hlm : len ≤ m := by rw [hmm]; split <;> omega
    have key : ∀ j, j ≤ len → ∃ l : List α, l.length = j ∧ (∀ b ∈ l, Wf b) ∧ RepX (oldM w) w (l.map Cel.cs) a.block (a.off + (len - j) * Cel.sz α) ∧ (l = [] ∨ len - j ≠ 0 ∨ a.spot = none) := by
      intro j
      induction j with
      | zero => intro _; exact ⟨[], rfl, by simp, trivial, .inl rfl⟩
      | succ j ih =>
        intro hj
        obtain ⟨l, h1, h2, h3, _⟩ := ih (by omega)
        obtain ⟨cs', h4, h5⟩ := hx (len - (j + 1)) (by omega)
        obtain ⟨b, h6, h7, h8⟩ := he.2 en w base spare held n cs' _ h5
        obtain ⟨h9, h10⟩ := cellsRep h4 h7 h8
        have eo : (a.add ((len - (j + 1)) * P.cellsOf e)).block = a.block ∧ (a.add ((len - (j + 1)) * P.cellsOf e)).off = a.off + (len - (j + 1)) * Cel.sz α := by
          rw [← he.1 b, Cel.len]
          unfold Addr.add
          split
          · rename_i h0; exact ⟨rfl, by rw [h0]; rfl⟩
          · exact ⟨rfl, rfl⟩
        rw [eo.1, eo.2] at h9
        refine ⟨b :: l, by simp [h1], ?_, ⟨h9, ?_⟩, ?_⟩
        · intro c hc
          rcases List.mem_cons.1 hc with rfl | hc
          · exact h6
          · exact h2 c hc
        · have e2 : a.off + (len - (j + 1)) * Cel.sz α + (Cel.cs b).length = a.off + (len - j) * Cel.sz α := by
            rw [Cel.len]
            have : len - j = (len - (j + 1)) + 1 := by omega
            rw [this, Nat.add_mul]
            omega
          rw [e2]
          exact h3
        · by_cases h0 : len - (j + 1) = 0
          · right; right
            rw [h0, Nat.zero_mul] at h10
            rcases h10 with h10 | h10
            · have := congrArg List.length h10
              rw [Cel.len] at this
              simp at this
              omega
            · simpa [Addr.add] using h10
          · exact .inr (.inl h0)
    obtain ⟨l, h1, h2, h3, h4⟩ := key len (Nat.le_refl _)
    refine ⟨l, ⟨by omega, h2⟩, ⟨_, _, rfl, .inr ⟨a, cap, by simp [h1], by simp; omega, ?_, ?_, ?_⟩, rfl⟩, by simp [Value.oneCell']⟩
    · rcases h4 with h4 | h4 | h4
      · left; simp [h4]
      · omega
      · exact .inr h4
    · intro c hc
      obtain ⟨b, _, rfl⟩ := List.mem_map.1 hc
      exact Cel.len b
    · simpa using h3
/-- A struct's fields, of a cell each. -/
theorem open_flat {P : Program} {t : TypeId} {fs : Array Field} {H : Type} {en : TypeId × Value → H} {w : World} {base : Nat} {spare : Nat → Bool} {held : Bool} {fuel : Nat} {cs : List Value} {x : DataW H × List MemPlace}
    (ht : P.underlying t = some (.struct fs)) (hof : ∀ (i : Nat) (f : Field), fs[i]? = some f → f.offset = i ∧ P.cellsOf f.type = 1) (hc : P.cellsOf t = fs.size) (h : DataW.trod en P w base spare held fuel t cs = some x) :
    cs.length = fs.size ∧ ∃ n, ∀ (i : Nat) (f : Field), fs[i]? = some f → ∃ v y, cs[i]? = some v ∧ DataW.trod en P w base spare held n f.type [v] = some y := by
  obtain ⟨xs, n, _, _, hl, hlen, hf⟩ := DataW.trod_struct ht h
  refine ⟨by rw [hl, hc], n, fun i f hi => ?_⟩
  have h1 := hf i f hi
  obtain ⟨h2, h3⟩ := hof i f hi
  have hi2 := (Array.getElem?_eq_some_iff.1 hi).1
  rw [h2, h3, List.getElem?_eq_getElem (by omega)] at h1
  have h4 : i < cs.length := by omega
  refine ⟨cs[i], xs[i], List.getElem?_eq_getElem h4, ?_⟩
  rw [← h1, List.drop_eq_getElem_cons h4]
  rfl
/-- A value of more cells than one. -/
theorem Opn.agg {P : Program} {t : TypeId} {α : Type} {c : α → List V} {Wf : α → Prop} (h : Opn P t c Wf) {H : Type} {en : TypeId × Value → H} {w : World} {base : Nat} {spare : Nat → Bool} {held : Bool} {v : Value} {d : DataW H} {ps : List MemPlace} {xs : Array Value} (hv : v = .agg xs) (hd : DataW.Trod en P w base spare held t v d ps) :
    ∃ a : α, Wf a ∧ Rep (oldM w) w (.agg (c a)) v := by
  obtain ⟨fuel, hd⟩ := hd
  subst hv
  obtain ⟨a, h1, h2, _⟩ := h.2 en w base spare held fuel _ _ hd
  exact ⟨a, h1, xs, rfl, h2⟩
/-- A value of one cell. -/
theorem Opn.one {P : Program} {t : TypeId} {α : Type} {e : α → V} {Wf : α → Prop} (h : Opn P t (fun a => [e a]) Wf) {H : Type} {en : TypeId × Value → H} {w : World} {base : Nat} {spare : Nat → Bool} {held : Bool} {v : Value} {d : DataW H} {ps : List MemPlace} (hv : v.oneCell' = true) (hd : DataW.Trod en P w base spare held t v d ps) :
    ∃ a : α, Wf a ∧ Rep (oldM w) w (e a) v := by
  obtain ⟨fuel, hd⟩ := hd
  have hc : v.cells.toList = [v] := by cases v <;> first | rfl | simp [Value.oneCell'] at hv
  rw [hc] at hd
  obtain ⟨a, h1, ⟨x, r, h2, h3, h4⟩, _⟩ := h.2 en w base spare held fuel _ _ hd
  cases h2
  exact ⟨a, h1, h3⟩
/-- Behind the call: the answer is plain, what was there reads as it did. -/
theorem post_of_below {H : Type} {en : TypeId × Value → H} {P : Program} {f : Func} {s : ChangeSpec} {apart fresh handsOn again : Bool} {W W' : World} {args : Array Value} {v : Value} {ds gs : List (DataW H)} {before pa pv : List MemPlace}
    (hW : DataW.Whole en P f.params.toList s.vars apart W args.toList ds gs before) (hb : Below W.heap.size W W')
    (hres : ∀ (b : Nat) (sp : Nat → Bool) (hd : Bool), DataW.TrodAll en P W' b sp hd f.resultTypes.toList (v.resultList f.resultTypes.size) (s.fn H (ds ++ gs)).results [])
    (hargs : ∀ sp : Nat → Bool, (∀ p ∈ before, sp p.block = true) → DataW.TrodAll en P W' 0 sp true f.params.toList args.toList (s.fn H (ds ++ gs)).args pa)
    (hvars : ∀ sp : Nat → Bool, (∀ p ∈ before, sp p.block = true) → DataW.TrodVars en P W' sp s.vars (s.fn H (ds ++ gs)).vars pv)
    (hps : before = pa ++ pv)
    (hok : ∀ (j : Nat) (t : TypeId) (r : Value), f.resultTypes[j]? = some t → (v.resultList f.resultTypes.size)[j]? = some r → Value.okWide P W' .any 0 t r) :
    s.post en P f apart fresh handsOn again W args v W' := by
  have hold : ∀ p ∈ before, (fun b => decide (b < W.heap.size)) p.block = true := fun p hp => by simpa using hW.lt p hp
  refine ⟨ds, gs, before, [], pa, pv, hW, hres _ _ _, hargs _ hold, hvars _ hold, World.keptBut_mono (fun p hp => ⟨hp, ?_⟩) (hb.frame (· ∈ before)), fun _ => ?_⟩
  · rw [hps, List.mem_append] at hp
    exact Or.inr hp
  · have hlt := hW.lt
    obtain ⟨_, _, _, _, _, hz, hn⟩ := hW
    refine ⟨hok, _, _, ([] ++ pa) ++ pv, ⟨[] ++ pa, pv, trodAll_append (hargs _ (fun _ _ => rfl)) (hres _ _ _), hvars _ (fun _ _ => rfl), rfl, ?_, ?_⟩, ?_⟩
    · intro b off hp
      have hp' : MemPlace.cell b off ∈ before := by rw [hps]; simpa using hp
      rw [hb.frozen (p := ⟨b, off, none⟩) (hlt _ hp')]
      exact hz b off hp'
    · intro ha
      have := hn ha
      rw [hps] at this
      simpa using this
    · intro p hp _
      rw [hps]
      simpa using hp
/-- What was handed in reads as it did. -/
theorem TrodAll_stays {H : Type} {en : TypeId × Value → H} {P : Program} {W W' : World} (hl : laidOutB P = true) {sp : Nat → Bool} (hb : Below W.heap.size W W') : ∀ {ts : List TypeId} {vs : List Value} {ds : List (DataW H)} {ps : List MemPlace},
    (∀ t ∈ ts, P.readableRec t = true ∧ t < P.types.size) → DataW.TrodAll en P W 0 (fun _ => true) true ts vs ds ps → (∀ x ∈ ps, x.block < W.heap.size) → (∀ x ∈ ps, sp x.block = true) → DataW.TrodAll en P W' 0 sp true ts vs ds ps
  | [], _, _, _, _, h, _, _ => by
    obtain ⟨rfl, rfl, rfl⟩ := trodAll_nil h
    exact trodAll_mk0
  | t :: ts, _, _, _, ht, h, hlt, hsp => by
    obtain ⟨v, vs1, d, ds1, a, b, rfl, rfl, rfl, h1, h2⟩ := trodAll_cons h
    obtain ⟨k1, k2⟩ := ht t (List.mem_cons_self ..)
    exact ⟨a, b, WideElems.Trod_stays hl k1 k2 h1 (fun x hx => hb.same (hlt x (List.mem_append_left _ hx))) (fun x hx => hsp x (List.mem_append_left _ hx)),
      TrodAll_stays hl hb (fun t ht' => ht t (List.mem_cons_of_mem _ ht')) h2 (fun x hx => hlt x (List.mem_append_right _ hx)) (fun x hx => hsp x (List.mem_append_right _ hx)), rfl⟩
end Go.Av

namespace Go.Av
open Enc (enc dec)
open Cel (cs dc)
open Go.Proofs Pl Go.ChangeShapes Go.WideShapes Go.RowKit

theorem Opn.weak {P : Program} {t : TypeId} {α : Type} {c : α → List V} {W W' : α → Prop} (h : Opn P t c W) (hw : ∀ a, W a → W' a) : Opn P t c W' :=
  ⟨h.1, fun en w base spare held fuel cs x hd => by
    obtain ⟨a, h1, h2⟩ := h.2 en w base spare held fuel cs x hd
    exact ⟨a, hw a h1, h2⟩⟩
theorem opn_int : Opn Try.prog 3 (fun n : Int => [enc n]) (fun n => (Lit.int .i64 n).wf = true) := Opn.int Try.underlying3 (by kernel_rfl)
theorem opn_u8 : Opn Try.prog 5 (fun b : UInt8 => cs b) (fun _ => True) := Opn.u8 Try.underlying5 (by kernel_rfl)
theorem opn_bytes : Opn Try.prog 34 (fun l : List UInt8 => [enc l]) (fun l => l.length ≤ maxLen ∧ ∀ b ∈ l, True) := Opn.slice Try.underlying34 (by kernel_rfl) (by decide) opn_u8
/-- A function of a plain answer, run. -/
theorem Pure.run {P : Program} {f : FuncId} {args : List V} {r : Value} {w : World} {vals : Array Value} (h : Pure P f args (.val r) []) (hr : RepL (oldM w) w args vals.toList) :
    Calls P f vals w fun e w' => e = .returned r ∧ Below w.heap.size w w' := by
  refine (h.2.2 (oldI w) w vals (fun b o hb => hb) hr).mono fun e w' ⟨x, M', he, hg, hx⟩ => ?_
  obtain ⟨rfl, _⟩ := hx
  exact ⟨he, hg.below⟩
end Go.Av

namespace Go.Av
open Enc (enc dec)
open Cel (cs dc)
open Go.Proofs Pl Go.ChangeShapes Go.WideShapes Go.RowKit

theorem opn_rec : Opn Try.prog 36 (fun x : Rec => cs x) (fun r => r.seq < 2 ^ 63 ∧ r.body.length ≤ maxLen) := by
  refine ⟨fun _ => Eq.symm (by kernel_rfl), fun en w base spare held fuel c x h => ?_⟩
  obtain ⟨hl, n, hf⟩ := open_flat Try.underlying36 (by rintro (_ | _ | _ | i) f hi <;> simp at hi <;> subst hi <;> exact ⟨rfl, by kernel_rfl⟩) (by kernel_rfl) h
  obtain ⟨v0, y0, g0, t0⟩ := hf 0 _ rfl
  obtain ⟨v1, y1, g1, t1⟩ := hf 1 _ rfl
  obtain ⟨v2, y2, g2, t2⟩ := hf 2 _ rfl
  obtain rfl : c = [v0, v1, v2] := by
    match c, hl with
    | [a0, a1, a2], _ => simp at g0 g1 g2; simp [g0, g1, g2]
  obtain ⟨a0, _, r0, o0⟩ := opn_int.2 en w base spare held n _ _ t0
  obtain ⟨a1, w1, r1, o1⟩ := opn_int.2 en w base spare held n _ _ t1
  obtain ⟨a2, m2, r2, o2⟩ := opn_bytes.2 en w base spare held n _ _ t2
  have hs : a1 < 2 ^ 63 := by
    simp only [Lit.wf, Bool.and_eq_true, decide_eq_true_eq] at w1
    have : a1 ≤ 9223372036854775807 := w1.2
    omega
  refine ⟨⟨a0, a1, a2⟩, ⟨hs, m2.1⟩, r0.append (r1.append r2), ?_⟩
  intro v hv
  simp only [List.mem_cons, List.not_mem_nil, or_false] at hv
  rcases hv with rfl | rfl | rfl
  · exact o0 _ (by simp)
  · exact o1 _ (by simp)
  · exact o2 _ (by simp)
theorem len5 {α : Type} {c : List α} (h : c.length = 5) : ∃ c0 c1 c2 c3 c4, c = [c0, c1, c2, c3, c4] := by
  match c, h with
  | [a0, a1, a2, a3, a4], _ => exact ⟨a0, a1, a2, a3, a4, rfl⟩
theorem len3 {α : Type} {c : List α} (h : c.length = 3) : ∃ c0 c1 c2, c = [c0, c1, c2] := by
  match c, h with
  | [a0, a1, a2], _ => exact ⟨a0, a1, a2, rfl⟩
theorem opn_fnd : Opn Try.prog 57 (fun x : Fnd => cs x) (fun f => f.rcd.seq < 2 ^ 63 ∧ f.rcd.body.length ≤ maxLen) := by
  refine ⟨fun _ => Eq.symm (by kernel_rfl), fun en w base spare held fuel c x h => ?_⟩
  obtain ⟨xs, n, _, _, hl, hlen, hf⟩ := DataW.trod_struct Try.underlying57 h
  have hc : Try.prog.cellsOf 57 = 5 := by kernel_rfl
  have h36 : Try.prog.cellsOf 36 = 3 := by kernel_rfl
  have h3 : Try.prog.cellsOf 3 = 1 := by kernel_rfl
  rw [hc] at hl
  have t0 : DataW.trod en Try.prog w base spare held n 36 ((c.drop 0).take (Try.prog.cellsOf 36)) = xs[0]? := hf 0 _ rfl
  have t1 : DataW.trod en Try.prog w base spare held n 3 ((c.drop 3).take (Try.prog.cellsOf 3)) = xs[1]? := hf 1 _ rfl
  have t2 : DataW.trod en Try.prog w base spare held n 3 ((c.drop 4).take (Try.prog.cellsOf 3)) = xs[2]? := hf 2 _ rfl
  rw [h36] at t0
  rw [h3] at t1 t2
  obtain ⟨c0, c1, c2, c3, c4, rfl⟩ := len5 hl
  obtain ⟨y0, y1, y2, rfl⟩ := len3 (show xs.length = 3 from hlen)
  obtain ⟨a0, m0, r0, o0⟩ := opn_rec.2 en w base spare held n [c0, c1, c2] y0 t0
  obtain ⟨a1, _, r1, o1⟩ := opn_int.2 en w base spare held n [c3] y1 t1
  obtain ⟨a2, _, r2, o2⟩ := opn_int.2 en w base spare held n [c4] y2 t2
  refine ⟨⟨a0, a1, a2⟩, m0, r0.append (r1.append r2), ?_⟩
  intro v hv
  simp only [List.mem_cons, List.not_mem_nil, or_false] at hv
  rcases hv with rfl | rfl | rfl | rfl | rfl
  · exact o0 _ (by simp)
  · exact o0 _ (by simp)
  · exact o0 _ (by simp)
  · exact o1 _ (by simp)
  · exact o2 _ (by simp)
theorem opn_fnds : Opn Try.prog 55 (fun l : List Fnd => [enc l]) (fun l => l.length ≤ maxLen ∧ ∀ f ∈ l, f.rcd.seq < 2 ^ 63 ∧ f.rcd.body.length ≤ maxLen) := Opn.slice Try.underlying55 (by kernel_rfl) (by decide) opn_fnd
end Go.Av

namespace Go.Av
open Enc (enc dec)
open Cel (cs dc)
open Go.Proofs Pl Go.ChangeShapes Go.WideShapes Go.RowKit

theorem opn_recs : Opn Try.prog 47 (fun l : List Rec => [enc l]) (fun l => l.length ≤ maxLen ∧ ∀ r ∈ l, r.seq < 2 ^ 63 ∧ r.body.length ≤ maxLen) := Opn.slice Try.underlying47 (by kernel_rfl) (by decide) opn_rec
theorem opn_ints : Opn Try.prog 64 (fun l : List Int => [enc l]) (fun l => l.length ≤ maxLen ∧ ∀ n ∈ l, (Lit.int .i64 n).wf = true) := Opn.slice Try.underlying64 (by kernel_rfl) (by decide) opn_int
end Go.Av
