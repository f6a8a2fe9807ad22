/-
  DvZi: The plain law of records that are found.
  DvZj: The law LogFinds: what it asks.
  DvZk: The law LogFinds: what it computes.
  AvOp: Arguments, as a row reads them, as plain values of Lean; behind the call they read as they did.
  SnOp: What the rows hand in: numbers, and bytes.
  ToXa: What the rows hand in: records as they are found.
  ToXb: What the rows hand in: lists of records.
-/
import Derived.Test.YthjmodhemglgbaaEG
import Derived.Deep.Slices
import Derived.ChangeSame
import Derived.Carry
import Derived.OpenShut
set_option linter.unusedSimpArgs false
set_option linter.unusedVariables false

namespace Go.Av.Pl
theorem sort_eq {q L : List Fnd} (hp : q.Perm L) (hL : L.Pairwise fun a b => a.rcd.seq < b.rcd.seq) : sortF q = L := by
  have h1 : (sortF q).Perm L := (sortF_perm q).trans hp
  have h2 : (sortF q).Pairwise (fun a b => a.rcd.seq ≤ b.rcd.seq) := sortF_sorted q
  have h3 : L.Pairwise (fun a b => a.rcd.seq ≤ b.rcd.seq) := hL.imp fun h => by omega
  refine List.Perm.eq_of_pairwise (le := fun a b => a.rcd.seq ≤ b.rcd.seq) ?_ h2 h3 h1
  intro a b ha hb hab hba
  have ha' : a ∈ L := h1.mem_iff.1 ha
  refine Classical.byContradiction fun hne => ?_
  rcases List.getElem_of_mem ha' with ⟨i, hi, rfl⟩
  rcases List.getElem_of_mem hb with ⟨j, hj, rfl⟩
  rcases Nat.lt_trichotomy i j with h | h | h
  · have := List.pairwise_iff_getElem.1 hL i j hi hj h
    omega
  · subst h; exact hne rfl
  · have := List.pairwise_iff_getElem.1 hL j i hj hi h
    omega
theorem mem_allL : ∀ {F : List (List Rec)} {n : Nat} {f : Fnd}, f ∈ allL F n → ∃ (i : Nat) (hi : i < F.length) (j : Nat) (hj : j < F[i].length), f.zone = ((n + i : Nat) : Int) ∧ f.rcd = F[i][j] ∧ f.at_ = ((((F[i].take j).flatMap recB).length : Nat) : Int)
  | [], n, f, h => by cases h
  | rs :: F, n, f, h => by
    rw [allL] at h
    rcases List.mem_append.1 h with h | h
    · unfold zoneL at h
      obtain ⟨j, hj, rfl⟩ := List.mem_map.1 h
      have hj := List.mem_range.1 hj
      exact ⟨0, by simp, j, hj, by simp, by simp [List.getD_eq_getElem?_getD, List.getElem?_eq_getElem hj], by simp⟩
    · obtain ⟨i, hi, j, hj, h1, h2, h3⟩ := mem_allL h
      exact ⟨i + 1, by simpa using hi, j, by simpa using hj, by rw [h1]; omega, by simpa using h2, by simpa using h3⟩
/-- Where a record stands, its bytes are. -/
theorem found_bytes {d : Dv} {F : List (List Rec)} (hF : Hd d F) {f : Fnd} (h : f ∈ allL F 0) : ∃ (i a : Nat) (hi : i < d.zones.length), f.zone = i ∧ f.at_ = a ∧ a + (recB f.rcd).length ≤ d.zones[i].data.length ∧ ((d.zones[i].data).drop a).take (recB f.rcd).length = recB f.rcd ∧ recOk f.rcd = true := by
  obtain ⟨i, hi, j, hj, h1, h2, h3⟩ := mem_allL h
  have hi2 : i < d.zones.length := by rw [← hF.len]; exact hi
  have hd := hF.get hi2
  have e : F[i] = F[i].take j ++ (F[i][j] :: F[i].drop (j + 1)) := by simp
  have e2 : d.zones[i].data = (F[i].take j).flatMap recB ++ (recB F[i][j] ++ (F[i].drop (j + 1)).flatMap recB) := by
    rw [hd]
    conv => lhs; rw [e]
    rw [List.flatMap_append, List.flatMap_cons]
  refine ⟨i, _, hi2, by rw [h1]; simp, h3, ?_, ?_, ?_⟩
  · rw [e2, h2]; simp only [List.length_append]; omega
  · rw [e2, List.drop_left, h2, List.take_left]
  · rw [h2]; exact hF.ok _ (List.getElem_mem hi) _ (List.getElem_mem hj)
theorem fndL_get : ∀ {l : List Rec} {P : List (Nat × Nat)} {i : Nat} (hl : i < l.length) (hP : i < P.length), (fndL l P)[i]? = some ⟨l[i], P[i].1, P[i].2⟩
  | r :: l, p :: P, 0, _, _ => rfl
  | r :: l, p :: P, i + 1, hl, hP => by
    rw [fndL, List.getElem?_cons_succ]
    exact fndL_get (by simpa using hl) (by simpa using hP)
/-- Records numbered anew. -/
def someL : List Rec → Nat → List Rec
  | [], _ => []
  | r :: l, n => if r.body.length ≤ 60 ∧ recE r = 0 then ⟨r.kind, n, r.body⟩ :: someL l (n + 1) else someL l n
theorem someL_len : ∀ (l : List Rec) (n : Nat), (someL l n).length ≤ l.length
  | [], _ => Nat.le_refl _
  | r :: l, n => by
    rw [someL]
    split
    · have := someL_len l (n + 1)
      simpa using this
    · have := someL_len l n
      simp only [List.length_cons]
      omega
theorem recE_zero {r : Rec} (h : recE r = 0) : recOk r = true := by
  unfold recE at h
  split at h
  · assumption
  · cases h
theorem someL_ok : ∀ (l : List Rec) (n : Nat), n + l.length ≤ 2 ^ 40 → ∀ r ∈ someL l n, recOk r = true ∧ r.body.length ≤ 60
  | [], _, _, r, h => by cases h
  | x :: l, n, hn, r, h => by
    simp only [List.length_cons] at hn
    rw [someL] at h
    split at h
    · rename_i hx
      rcases List.mem_cons.1 h with rfl | h
      · have h1 := recOk_iff.1 (recE_zero hx.2)
        exact ⟨recOk_iff.2 ⟨h1.1, h1.2.1, by show (0 : Int) ≤ (n : Int); omega, by show (n : Int) ≤ 4611686018427387903; omega, h1.2.2.2.2⟩, hx.1⟩
      · exact someL_ok l (n + 1) (by omega) r h
    · exact someL_ok l n (by omega) r h
theorem someL_get : ∀ (l : List Rec) (n i : Nat) (hi : i < (someL l n).length), (someL l n)[i].seq = ((n + i : Nat) : Int)
  | [], n, i, hi => by simp [someL] at hi
  | x :: l, n, i, hi => by
    by_cases hx : x.body.length ≤ 60 ∧ recE x = 0
    · have e : someL (x :: l) n = ⟨x.kind, n, x.body⟩ :: someL l (n + 1) := by rw [someL, if_pos hx]
      simp only [e]
      cases i with
      | zero => simp
      | succ i =>
        rw [List.getElem_cons_succ, someL_get l (n + 1) i (by rw [e] at hi; simpa using hi)]
        omega
    · have e : someL (x :: l) n = someL l n := by rw [someL, if_neg hx]
      simp only [e]
      exact someL_get l n i (by rw [e] at hi; exact hi)
theorem look_none' {l : List Fnd} {q : Int} (h : ∀ f ∈ l, f.rcd.seq ≠ q) : lookF l q = none := by
  unfold lookF
  rw [Option.map_eq_none_iff, List.find?_eq_none]
  intro f hf
  simpa using h f hf
/-- Records with numbers from n on, one behind the other: as they are found they run. -/
theorem runF_all : ∀ (L : List Fnd) (pre : List Fnd) (k : Nat), L.length < k → (∀ (i : Nat) (hi : i < (pre ++ L).length), (pre ++ L)[i].rcd.seq = (i : Int)) → runF (pre ++ L) k (pre.length : Int) = L.map (·.rcd)
  | [], pre, k, hk, h => by
    have : lookF (pre ++ []) (pre.length : Int) = none := by
      refine look_none' fun f hf => ?_
      obtain ⟨i, hi, rfl⟩ := List.getElem_of_mem hf
      rw [h i hi]
      simp at hi
      omega
    cases k with
    | zero => omega
    | succ k => rw [runF, this]; rfl
  | f :: L, pre, k, hk, h => by
    obtain ⟨k, rfl⟩ : ∃ j, k = j + 1 := ⟨k - 1, by simp at hk; omega⟩
    have hf : lookF (pre ++ f :: L) (pre.length : Int) = some f.rcd := by
      unfold lookF
      have h0 : pre.length < (pre ++ f :: L).length := by simp
      have h1 := h pre.length h0
      have h2 : (pre ++ f :: L)[pre.length] = f := by simp
      rw [h2] at h1
      have : (pre ++ f :: L).find? (fun g => g.rcd.seq == (pre.length : Int)) = some f := by
        rw [List.find?_eq_some_iff_getElem]
        refine ⟨by simpa using h1, pre.length, h0, h2, fun i hi => ?_⟩
        have := h i (by omega)
        rw [this]
        simp
        omega
      rw [this]
      rfl
    rw [runF, hf]
    have e : pre ++ f :: L = (pre ++ [f]) ++ L := by simp
    have := runF_all L (pre ++ [f]) k (by simp at hk; omega) (by rw [← e]; exact h)
    rw [← e] at this
    simp only [List.length_append, List.length_singleton] at this
    rw [List.map_cons, ← this]
    rfl
end Go.Av.Pl

namespace Go.Av
open Enc (enc dec)
open Cel (cs dc)
open Go.Proofs Pl

theorem near_all : ((List.range 301).all fun n => decide ((FloatKind.f64.decode (FloatKind.f64.nearest ((n : Nat) : Int))).toInt .zero = some ((n : Nat) : Int)) && Op.floatEq .f64 (FloatKind.f64.nearest ((n : Nat) : Int)) (FloatKind.f64.nearest ((n : Nat) : Int))) = true := by decide +kernel
theorem near_get {n : Nat} (h : n ≤ 300) : (FloatKind.f64.decode (FloatKind.f64.nearest ((n : Nat) : Int))).toInt .zero = some ((n : Nat) : Int) ∧ Op.floatEq .f64 (FloatKind.f64.nearest ((n : Nat) : Int)) (FloatKind.f64.nearest ((n : Nat) : Int)) = true := by
  have := List.all_eq_true.1 near_all n (List.mem_range.2 (by omega))
  simp only [Bool.and_eq_true, decide_eq_true_eq] at this
  exact this
theorem near_int {n : Nat} (h : n ≤ 300) : convV .i64 (.val (.float .f64 (FloatKind.f64.nearest ((n : Nat) : Int)))) = some (.val (.int .i64 ((n : Nat) : Int))) := by
  have e1 : IntKind.i64.min = -9223372036854775808 := by decide
  have e2 : IntKind.i64.max = 9223372036854775807 := by decide
  simp only [convV, (near_get h).1]
  rw [if_pos ⟨by rw [e1]; omega, by rw [e2]; omega⟩]
theorem near_eq {n : Nat} (h : n ≤ 300) : Op.floatEq .f64 (FloatKind.f64.nearest ((n : Nat) : Int)) (FloatKind.f64.nearest ((n : Nat) : Int)) = true := (near_get h).2
def BodI (l : List Rec) (k : Nat) (s : Nat → V) (m : Mem) : Prop :=
  ∃ i : Nat, i + k = l.length ∧ s 0 = .lit 3 (l.map cs) ∧ s 3 = .val (.int .i64 i) ∧ ∀ (j : Nat) (hj : j < l.length), j < i → l[j].body.length ≤ 300
def bodB (l : List Rec) : Bool := decide (l.length ≤ 20) && l.all fun r => decide (r.body.length ≤ 300)
theorem c_bodies (l : List Rec) : Pure Try.prog n_w06_bodies [enc l] (.val (.bool (bodB l))) [] := by
  refine Pure.ofC OOk.nil hm F_w06_bodies_ok (by simp [F_w06_bodies]) rfl ?_
  by_cases h1 : 20 < (l.length : Int)
  · have e : bodB l = false := by
      have : ¬ l.length ≤ 20 := by omega
      simp [bodB, this]
    simp [F_w06_bodies, h1, e]
  · have e : bodB l = l.all fun r => decide (r.body.length ≤ 300) := by
      have : l.length ≤ 20 := by omega
      simp [bodB, this]
    rw [e]
    simp [F_w06_bodies, h1]
    refine wp_loop (BodI l) l.length (IW.of ⟨0, by omega, by simp, by simp, fun j hj h => by omega⟩) fun k s m ⟨i, hik, s0, s3, hall⟩ => ?_
    cases k with
    | zero =>
      have hi : i = l.length := by omega
      subst hi
      have : (l.all fun r => decide (r.body.length ≤ 300)) = true := List.all_eq_true.2 fun r hr => by
        obtain ⟨j, hj, rfl⟩ := List.getElem_of_mem hr
        simpa using hall j hj hj
      simp only [this]
      simp [F_w06_bodies_L0, s0, s3]
      try exact fun x hx => by simpa using List.all_eq_true.1 this x hx
    | succ k =>
      have hi : i < l.length := by omega
      have w1 := IntWalk.i64_in ((i : Int) + 1) (by omega)
      by_cases h3 : 300 < (l[i].body.length : Int)
      · have : (l.all fun r => decide (r.body.length ≤ 300)) = false := List.all_eq_false.2 ⟨l[i], List.getElem_mem hi, by simp; omega⟩
        simp only [this]
        simp [F_w06_bodies_L0, s0, s3, hi, h3]
      · simp [F_w06_bodies_L0, s0, s3, hi, h3, w1]
        exact ⟨k, by omega, IW.of ⟨i + 1, by omega, by simp [s0], by simp, fun j hj h => by
          by_cases e : j = i
          · subst e; omega
          · exact hall j hj (by omega)⟩⟩
def sp_dRead (d : Dv) (n a b : Int) : Option (V × List Tip) := match d.zones[n.toNat]? with
  | some z => if dOk d = true ∧ 0 ≤ n ∧ 0 ≤ a ∧ 0 < b ∧ a + b ≤ z.data.length then some (.tuple [enc ((z.data.drop a.toNat).take b.toNat), enc (0 : Int)], []) else none
  | none => none
def DrdO : Orc := Orc.nil.add n_dev_Check (sp1 sp_dCheck)
theorem DrdO_ok : OOk Try.prog DrdO := OOk.nil.add sp_dCheck_ok
theorem c_dRead (d : Dv) (n a b : Nat) (hok : dOk d = true) (hn : n < d.zones.length) (hb : 0 < b) (hab : a + b ≤ d.zones[n].data.length) :
    Pure Try.prog n_dev_Read [enc d, enc (n : Int), enc (a : Int), enc (b : Int)] (.tuple [enc ((d.zones[n].data.drop a).take b), enc (0 : Int)]) [] := by
  refine Pure.ofC DrdO_ok hm F_dev_Read_ok (by simp [F_dev_Read]) (by simp [V.res, V.res1]) ?_
  obtain ⟨hs, hne⟩ := dOk_sm hok
  have hl := hs.n
  have hz := hs.z _ (List.getElem_mem hn)
  have c1 : d.zones.length ≤ 1099511627776 := hl
  have c2 : ¬ d.zones.length ≤ n := by omega
  have w1 := IntWalk.i64_in ((d.zones[n].data.length : Int) - a) (by omega)
  have w2 := IntWalk.i64_in ((a : Int) + b) (by omega)
  have c3 : ¬ d.zones[n].data.length < a := by omega
  have c4 : ¬ (d.zones[n].data.length : Int) - a < b := by omega
  simp [F_dev_Read, DrdO, c1, hok, c2, hn, c3, c4, w1, w2]
  refine ⟨⟨by omega, by omega⟩, by omega, ?_⟩
  rw [show ((a : Int) + b).toNat = a + b by omega, List.drop_take, Nat.add_sub_cancel_left]
end Go.Av

namespace Go.Av
open Enc (enc dec)
open Cel (cs dc)
open Go.Proofs Pl

theorem sp_dRead_ok : EOk Try.prog n_dev_Read (sp4 sp_dRead) := sp4_ok fun d n a b r h => by
  unfold sp_dRead at h
  split at h
  · rename_i z hz
    split at h <;> cases h
    rename_i hc
    obtain ⟨h1, h2, h3, h4, h5⟩ := hc
    obtain ⟨hi, he⟩ := List.getElem?_eq_some_iff.1 hz
    have key := c_dRead d n.toNat a.toNat b.toNat h1 hi (by omega) (by rw [he]; omega)
    rw [he, Int.toNat_of_nonneg h2, Int.toNat_of_nonneg h3, Int.toNat_of_nonneg (by omega : 0 ≤ b)] at key
    exact key
  · cases h
theorem sp_dRead_found {d : Dv} {F : List (List Rec)} (hok : dOk d = true) (hF : Hd d F) {r : Rec} {p : Nat × Nat} (h : (⟨r, p.1, p.2⟩ : Fnd) ∈ allL F 0) :
    sp_dRead d p.1 p.2 (recB r).length = some (.tuple [enc (recB r), enc (0 : Int)], []) ∧ p.1 < d.zones.length ∧ p.2 ≤ d.size ∧ (r.body.length : Int) + 20 ≤ d.size := by
  obtain ⟨i, a, hi, h1, h2, h3, h4, h5⟩ := found_bytes hF h
  have hl := recB_length h5
  have e1 : p.1 = i := Int.ofNat_inj.1 h1
  have e2 : p.2 = a := Int.ofNat_inj.1 h2
  subst e1 e2
  simp only at h3 h4 hl
  have hz := (zOk_iff.1 ((dOk_iff.1 hok).1 _ (List.getElem_mem hi))).1
  refine ⟨?_, hi, by omega, by omega⟩
  unfold sp_dRead
  rw [Int.toNat_natCast, List.getElem?_eq_getElem hi]
  simp only
  rw [if_pos ⟨hok, by omega, by omega, by omega, by omega⟩, Int.toNat_natCast, Int.toNat_natCast, h4]
theorem fndL_map : ∀ {l : List Rec} {P : List (Nat × Nat)}, P.length = l.length → (fndL l P).map (·.rcd) = l
  | [], [], _ => rfl
  | r :: l, p :: P, h => by rw [fndL, List.map_cons, fndL_map (by simpa using h)]
  | [], _ :: _, h => by simp at h
  | _ :: _, [], h => by simp at h
theorem sp_bod_ok : EOk Try.prog n_w06_bodies (sp1 fun l : List Rec => some (.val (.bool (bodB l)), [])) := sp1_ok fun l r h => by cases h; exact c_bodies l
theorem sp_awake6f_ok : EOk Try.prog n_w06_awake (sp0 sp_true) := sp0_ok fun r h => by cases h; exact c_w06awake
@[simp] def sp_rAllF (a b : List Rec) : Option (V × List Tip) := if a.length ≤ 2 ^ 40 then some (enc (decide (a = b)), []) else none
theorem sp_rAllF_ok : EOk Try.prog n_r05_All (sp2 sp_rAllF) := sp2_ok fun a b r h => by
  simp only [sp_rAllF] at h
  split at h <;> cases h
  exact c_r05_All a b (by assumption)
def DlfO : Orc := (((((((((Orc.nil.add n_w06_awake (sp0 sp_true)).add n_w06_bodies (sp1 fun l : List Rec => some (.val (.bool (bodB l)), []))).add n_dev_New (sp2 sp_dNew)).add n_record_Check (sp1 sp_rCheck)).add n_log_Append (sp2 sp_lApp)).add n_log_All (sp1 sp_lAll)).add n_record_Write (sp1 sp_rWrite)).add n_dev_Read (sp4 sp_dRead)).add n_r05_Same (sp2 sp_rsame)).add n_log_Run (sp2 sp_lRun) |>.add n_r05_All (sp2 sp_rAllF)
theorem DlfO_ok : OOk Try.prog DlfO := ((((((((((OOk.nil.add sp_awake6f_ok).add sp_bod_ok).add sp_dNew_ok).add sp_rCheck_ok).add sp_lApp_ok).add sp_lAll_ok).add sp_rWrite_ok).add sp_dRead_ok).add sp_rsame_ok).add sp_lRun_ok).add sp_rAllF_ok
def LfA (l : List Rec) (k : Nat) (s : Nat → V) (m : Mem) : Prop :=
  ∃ (i : Nat) (acc : List Rec) (r : List (List V)), i + k = l.length ∧ someL l 0 = acc ++ someL (l.drop i) acc.length ∧ acc.length ≤ i ∧ s 0 = .lit 3 (l.map cs) ∧ s 3 = .val (.bool true) ∧ s 4 = .ptr 0 0 ∧ s 5 = .val (.int .i64 0) ∧ s 6 = .row 0 3 (acc.map cs) ∧ s 7 = .val (.int .i64 i) ∧ m = ⟨cs (dNew 12 300) :: r, [(36, 3, acc.length)]⟩
def LfB (S : List Rec) (P : List (Nat × Nat)) (d : Dv) (k : Nat) (s : Nat → V) (m : Mem) : Prop :=
  ∃ (i p : Nat), i + k = S.length ∧ s 3 = .val (.bool true) ∧ s 6 = .row 0 3 (S.map cs) ∧ s 9 = .ptr p 0 ∧ s 10 = .lit 1 ((P.map cxP).map cs) ∧ s 12 = .lit 5 ((fndL S P).map cs) ∧ s 14 = .val (.int .i64 i) ∧ m.boxes[p]? = some (cs d)
theorem c_LogFinds (l : List Rec) : Pure Try.prog n_w06_LogFinds [enc l] (.val (.bool true)) [] := by
  refine Pure.ofC DlfO_ok hm F_w06_LogFinds_ok (by simp [F_w06_LogFinds]) rfl ?_
  cases hb : bodB l with
  | false => simp [F_w06_LogFinds, DlfO, hb]
  | true =>
    have hl20 : l.length ≤ 20 := by
      simp only [bodB, Bool.and_eq_true, decide_eq_true_eq] at hb
      exact hb.1
    obtain ⟨g1, g2, g3, g4, g5⟩ := held_new 12 300 (by omega) (by omega)
    simp only [Int.cast_ofNat_Int] at g1 g2 g3 g4 g5
    simp [F_w06_LogFinds, DlfO, hb, g5]
    refine wp_loop (LfA l) l.length (IW.of ⟨0, [], [], by omega, by simp, by simp, by simp, by simp, by simp, by simp, by simp, by simp, by simp⟩) fun k s m ⟨i, acc, r, hik, hS, hai, s0, s3, s4, s5, s6, s7, hm⟩ => ?_
    subst hm
    cases k with
    | succ k =>
      have hi : i < l.length := by omega
      have w1 := IntWalk.i64_in ((i : Int) + 1) (by omega)
      rw [List.drop_eq_getElem_cons hi] at hS
      by_cases h1 : l[i].body.length ≤ 60
      · have h1I : (l[i].body.length : Int) ≤ 60 := by omega
        by_cases h2 : recE l[i] = 0
        · rw [someL, if_pos ⟨h1, h2⟩] at hS
          have c1 : (acc.length + 1) * 40 ≤ 140737488355328 := by omega
          simp [F_w06_LogFinds_L1, DlfO, s0, s3, s4, s5, s6, s7, hi, w1, h1I, h1, h2]
          refine ⟨by omega, k, by omega, IW.of ⟨i + 1, acc ++ [⟨l[i].kind, (acc.length : Int), l[i].body⟩], _, by omega, ?_, by simp; omega, by simp [s0], by simp [s3], by simp [s4], by simp [s5], by simp, by simp, by simp; rfl⟩⟩
          rw [List.length_append, List.append_assoc]
          simpa using hS
        · rw [someL, if_neg (fun h => h2 h.2)] at hS
          simp [F_w06_LogFinds_L1, DlfO, s0, s3, s4, s5, s6, s7, hi, w1, h1I, h1, h2]
          exact ⟨k, by omega, IW.of ⟨i + 1, acc, r, by omega, hS, by omega, by simp [s0], by simp [s3], by simp [s4], by simp [s5], by simp [s6], by simp, by simp⟩⟩
      · have h1I : ¬ (l[i].body.length : Int) ≤ 60 := by omega
        rw [someL, if_neg (fun h => h1 h.1)] at hS
        simp [F_w06_LogFinds_L1, DlfO, s0, s3, s4, s5, s6, s7, hi, w1, h1I, h1]
        exact ⟨k, by omega, IW.of ⟨i + 1, acc, r, by omega, hS, by omega, by simp [s0], by simp [s3], by simp [s4], by simp [s5], by simp [s6], by simp, by simp⟩⟩
    | zero =>
      have hi : i = l.length := by omega
      subst hi
      rw [List.drop_length, someL, List.append_nil] at hS
      have hSok := someL_ok l 0 (by omega)
      have hSlen := someL_len l 0
      have hSget := someL_get l 0
      rw [hS] at hSok hSlen hSget
      simp only [Nat.zero_add] at hSget
      generalize acc = S at *
      obtain ⟨d', P, e, F', ha, hA⟩ := app_held S g1 (by omega) g2
      obtain ⟨q1, q2, q3⟩ := dg_app g1
      simp at q1 q2
      have c0 : S.length ≤ 1073741824 := by omega
      have hall := allF_held hA.held.data hA.held.ok 0
      have hperm := hA.perm
      rw [allL_none, List.nil_append] at hperm
      have hlen : (allF d'.zones 0).length ≤ 20 := by
        rw [hall, hperm.length_eq, fndL_len]
        omega
      have hok := hA.good.ok
      rcases hA.room (fun r hr => ⟨(hSok r hr).1, by rw [g3]; have := (hSok r hr).2; omega⟩) with he | he
      · subst he
        have hPl := hA.all rfl
        have hfl : (fndL S P).length = S.length := by rw [fndL_len]; omega
        have hseq : ∀ (i : Nat) (hi : i < (fndL S P).length), (fndL S P)[i].rcd.seq = (i : Int) := fun i hi => by
          have h1 := fndL_get (l := S) (P := P) (i := i) (by omega) (by omega)
          rw [List.getElem?_eq_getElem hi] at h1
          rw [Option.some.inj h1]
          exact hSget i (by omega)
        have hsort : sortF (allF d'.zones 0) = fndL S P := sort_eq (by rw [hall]; exact hperm) (List.pairwise_iff_getElem.2 fun i j hi hj hij => by rw [hseq i hi, hseq j hj]; omega)
        simp [F_w06_LogFinds_L1, DlfO, s0, s3, s4, s5, s6, s7, q1, q3, c0, ha, hlen, hok, hPl, hfl, hsort]
        refine ⟨q2, wp_loop (LfB S P d') S.length (IW.of ⟨0, r.length + 1, by omega, by simp [s3], by simp [s6], by simp, by simp, by simp, by simp, by simp⟩) fun k s m ⟨i, p, hik, s3, s6, s9, s10, s12, s14, hm⟩ => ?_⟩
        cases k with
        | zero =>
          have hi : i = S.length := by omega
          subst hi
          have c1 : (fndL S P).length ≤ 1073741824 := by omega
          have c2 : ∀ f ∈ fndL S P, f.rcd.seq ≤ 4611686018427387904 := fun f hf => by
            obtain ⟨j, hj, rfl⟩ := List.getElem_of_mem hf
            rw [hseq j hj]
            omega
          have hrun := runF_all (fndL S P) [] ((fndL S P).length + 1) (by omega) (by simpa using hseq)
          rw [List.nil_append, fndL_map hPl] at hrun
          simp at hrun
          simp [F_w06_LogFinds_L0, DlfO, s3, s6, s9, s10, s12, s14, hrun, hfl, hfl ▸ hrun]
          exact ⟨c0, by omega⟩
        | succ k =>
          have hi : i < S.length := by omega
          have hPi : i < P.length := by omega
          have w1 := IntWalk.i64_in ((i : Int) + 1) (by omega)
          have hget := fndL_get hi hPi
          have hmem : (⟨S[i], P[i].1, P[i].2⟩ : Fnd) ∈ allL F' 0 := hperm.mem_iff.2 (List.mem_of_getElem? hget)
          obtain ⟨hrd, hz1, ha1, hb1⟩ := sp_dRead_found hok hA.held hmem
          rw [hA.len, g4] at hz1
          rw [hA.size, g3] at ha1
          have nz := near_int (n := P[i].1) (by omega)
          have na := near_int (n := P[i].2) (by omega)
          have ez := near_eq (n := P[i].1) (by omega)
          have ea := near_eq (n := P[i].2) (by omega)
          have hre : recE S[i] = 0 := by rw [recE, if_pos (hSok _ (List.getElem_mem hi)).1]
          simp at hrd
          simp [F_w06_LogFinds_L0, DlfO, s3, s6, s9, s10, s12, s14, hi, hPi, w1, hget, hm, cxP, nz, na, ez, ea, hrd, hre]
          exact ⟨k, by omega, IW.of ⟨i + 1, p, by omega, by simp [s3], by simp [s6], by simp [s9], by simp [s10], by simp [s12], by simp, by simp [hm]⟩⟩
      · subst he
        generalize sortF (allF d'.zones 0) = all
        simp [F_w06_LogFinds_L1, DlfO, s0, s3, s4, s5, s6, s7, q1, q3, c0, ha, hlen, hok]
        exact q2
end Go.Av

namespace Go.Av
open Enc (enc dec)
open Cel (cs dc)
open Go.RowKit Go.ChangeShapes Go.WideShapes Go.Deep

/-- The old memory. -/
def oldI (w : World) (b _o : Nat) : Prop := b < w.heap.size
def oldM (w : World) : Mp := ⟨[], [], oldI w, fun _ => none⟩
/-- Cells of a type are those of a plain value that has a property. -/
def Opn (P : Program) (t : TypeId) {α : Type} (c : α → List V) (Wf : α → Prop) : Prop :=
  (∀ a, (c a).length = P.cellsOf t) ∧ ∀ {H : Type} (en : TypeId × Value → H) (w : World) (base : Nat) (spare : Nat → Bool) (held : Bool) (fuel : Nat) (cs : List Value) (x : DataW H × List MemPlace),
    DataW.trod en P w base spare held fuel t cs = some x → ∃ a : α, Wf a ∧ RepL (oldM w) w (c a) cs ∧ ∀ v ∈ cs, v.oneCell' = true
theorem block_lt {w : World} {a : Addr} {v : Value} (h : w.cell? a = some v) : a.block < w.heap.size ∧ a.spot = none := by
  unfold World.cell? at h
  split at h
  · rename_i c e f hh
    refine ⟨(Array.getElem?_eq_some_iff.1 hh).1, ?_⟩
    cases hs : a.spot with
    | none => rfl
    | some s => simp [hs] at h
  · cases h
theorem Opn.int {P : Program} {t : TypeId} (ht : P.underlying t = some (.int .i64)) (hc : P.cellsOf t = 1) : Opn P t (fun n : Int => [enc n]) fun n => (Lit.int .i64 n).wf = true := by
  refine ⟨fun _ => hc.symm, fun en w base spare held fuel cs x h => ?_⟩
  obtain ⟨n, rfl, _, hw⟩ := DataW.trod_int ht h
  exact ⟨n, hw, ⟨_, _, rfl, ⟨rfl, rfl⟩, rfl⟩, by simp [Value.oneCell']⟩
theorem Opn.u8 {P : Program} {t : TypeId} (ht : P.underlying t = some (.int .u8)) (hc : P.cellsOf t = 1) : Opn P t (fun b : UInt8 => Cel.cs b) fun _ => True := by
  refine ⟨fun _ => hc.symm, fun en w base spare held fuel cs x h => ?_⟩
  obtain ⟨n, rfl, _, hw⟩ := DataW.trod_int ht h
  have hw := bounds_u8 hw
  have e : ((UInt8.ofNat n.toNat).toNat : Int) = n := by
    rw [UInt8.toNat_ofNat']
    omega
  refine ⟨UInt8.ofNat n.toNat, trivial, ⟨_, _, rfl, ⟨?_, rfl⟩, rfl⟩, by simp [Value.oneCell']⟩
  rw [e]
theorem cellsRep {w : World} {base n : Nat} {a : Addr} {cs : List Value} {l : List V} (h : w.cells? base a n = some cs) (hr : RepL (oldM w) w l cs) (ho : ∀ v ∈ cs, v.oneCell' = true) : RepC (oldM w) w l a.block a.off ∧ (l = [] ∨ a.spot = none) := by
  obtain ⟨_, hlen, hget⟩ := World.cells?_some h
  have hll := hr.length
  refine ⟨RepC.of_get fun i v hi => ?_, ?_⟩
  · obtain ⟨x, hx, hrep⟩ := hr.get hi
    have hin : i < n := by
      have := (List.getElem?_eq_some_iff.1 hx).1
      omega
    have hc := hget i hin
    rw [hx] at hc
    have hb := block_lt hc
    have e : a.add i = ⟨a.block, a.off + i, none⟩ := by
      unfold Addr.add at hb ⊢
      split
      · rename_i h0
        rw [if_pos h0] at hb
        subst h0
        cases a
        simp at hb ⊢
        exact hb.2
      · rfl
    rw [e] at hc hb
    exact ⟨x, hb.1, hc, ho x (List.mem_of_getElem? hx), hrep⟩
  · cases l with
    | nil => exact .inl rfl
    | cons v l =>
      right
      obtain ⟨x, hx, _⟩ := hr.get (i := 0) (v := v) rfl
      have hin : 0 < n := by
        have := (List.getElem?_eq_some_iff.1 hx).1
        omega
      have hc := hget 0 hin
      rw [hx] at hc
      exact (block_lt (a := a) (by simpa [Addr.add] using hc)).2
theorem Opn.slice {P : Program} {t e : TypeId} {α : Type} [Cel α] {Wf : α → Prop} (ht : P.underlying t = some (.slice e)) (hc : P.cellsOf t = 1) (hz : 0 < Cel.sz α) (he : Opn P e (Cel.cs (α := α)) Wf) : Opn P t (fun l : List α => [enc l]) fun l => l.length ≤ maxLen ∧ ∀ a ∈ l, Wf a := by
  refine ⟨fun _ => hc.symm, fun en w base spare held fuel cs x h => ?_⟩
  rcases open_slice ht h with ⟨rfl, rfl⟩ | ⟨a, len, cap, m, n, D, Pl, rfl, hb, hl, hm, hmm, rfl, hx⟩
  · exact ⟨[], ⟨Nat.zero_le _, by simp⟩, ⟨_, _, rfl, .inl ⟨rfl, rfl⟩, rfl⟩, by simp [Value.oneCell']⟩
  · have hlm : len ≤ m := by rw [hmm]; split <;> omega
    have key : ∀ j, j ≤ len → ∃ l : List α, l.length = j ∧ (∀ b ∈ l, Wf b) ∧ RepX (oldM w) w (l.map Cel.cs) a.block (a.off + (len - j) * Cel.sz α) ∧ (l = [] ∨ len - j ≠ 0 ∨ a.spot = none) := by
      intro j
      induction j with
      | zero => intro _; exact ⟨[], rfl, by simp, trivial, .inl rfl⟩
      | succ j ih =>
        intro hj
        obtain ⟨l, h1, h2, h3, _⟩ := ih (by omega)
        obtain ⟨cs', h4, h5⟩ := hx (len - (j + 1)) (by omega)
        obtain ⟨b, h6, h7, h8⟩ := he.2 en w base spare held n cs' _ h5
        obtain ⟨h9, h10⟩ := cellsRep h4 h7 h8
        have eo : (a.add ((len - (j + 1)) * P.cellsOf e)).block = a.block ∧ (a.add ((len - (j + 1)) * P.cellsOf e)).off = a.off + (len - (j + 1)) * Cel.sz α := by
          rw [← he.1 b, Cel.len]
          unfold Addr.add
          split
          · rename_i h0; exact ⟨rfl, by rw [h0]; rfl⟩
          · exact ⟨rfl, rfl⟩
        rw [eo.1, eo.2] at h9
        refine ⟨b :: l, by simp [h1], ?_, ⟨h9, ?_⟩, ?_⟩
        · intro c hc
          rcases List.mem_cons.1 hc with rfl | hc
          · exact h6
          · exact h2 c hc
        · have e2 : a.off + (len - (j + 1)) * Cel.sz α + (Cel.cs b).length = a.off + (len - j) * Cel.sz α := by
            rw [Cel.len]
            have : len - j = (len - (j + 1)) + 1 := by omega
            rw [this, Nat.add_mul]
            omega
          rw [e2]
          exact h3
        · by_cases h0 : len - (j + 1) = 0
          · right; right
            rw [h0, Nat.zero_mul] at h10
            rcases h10 with h10 | h10
            · have := congrArg List.length h10
              rw [Cel.len] at this
              simp at this
              omega
            · simpa [Addr.add] using h10
          · exact .inr (.inl h0)
    obtain ⟨l, h1, h2, h3, h4⟩ := key len (Nat.le_refl _)
    refine ⟨l, ⟨by omega, h2⟩, ⟨_, _, rfl, .inr ⟨a, cap, by simp [h1], by simp; omega, ?_, ?_, ?_⟩, rfl⟩, by simp [Value.oneCell']⟩
    · rcases h4 with h4 | h4 | h4
      · left; simp [h4]
      · omega
      · exact .inr h4
    · intro c hc
      obtain ⟨b, _, rfl⟩ := List.mem_map.1 hc
      exact Cel.len b
    · simpa using h3
/-- A struct's fields, of a cell each. -/
theorem open_flat {P : Program} {t : TypeId} {fs : Array Field} {H : Type} {en : TypeId × Value → H} {w : World} {base : Nat} {spare : Nat → Bool} {held : Bool} {fuel : Nat} {cs : List Value} {x : DataW H × List MemPlace}
    (ht : P.underlying t = some (.struct fs)) (hof : ∀ (i : Nat) (f : Field), fs[i]? = some f → f.offset = i ∧ P.cellsOf f.type = 1) (hc : P.cellsOf t = fs.size) (h : DataW.trod en P w base spare held fuel t cs = some x) :
    cs.length = fs.size ∧ ∃ n, ∀ (i : Nat) (f : Field), fs[i]? = some f → ∃ v y, cs[i]? = some v ∧ DataW.trod en P w base spare held n f.type [v] = some y := by
  obtain ⟨xs, n, _, _, hl, hlen, hf⟩ := DataW.trod_struct ht h
  refine ⟨by rw [hl, hc], n, fun i f hi => ?_⟩
  have h1 := hf i f hi
  obtain ⟨h2, h3⟩ := hof i f hi
  have hi2 := (Array.getElem?_eq_some_iff.1 hi).1
  rw [h2, h3, List.getElem?_eq_getElem (by omega)] at h1
  have h4 : i < cs.length := by omega
  refine ⟨cs[i], xs[i], List.getElem?_eq_getElem h4, ?_⟩
  rw [← h1, List.drop_eq_getElem_cons h4]
  rfl
/-- A value of more cells than one. -/
theorem Opn.agg {P : Program} {t : TypeId} {α : Type} {c : α → List V} {Wf : α → Prop} (h : Opn P t c Wf) {H : Type} {en : TypeId × Value → H} {w : World} {base : Nat} {spare : Nat → Bool} {held : Bool} {v : Value} {d : DataW H} {ps : List MemPlace} {xs : Array Value} (hv : v = .agg xs) (hd : DataW.Trod en P w base spare held t v d ps) :
    ∃ a : α, Wf a ∧ Rep (oldM w) w (.agg (c a)) v := by
  obtain ⟨fuel, hd⟩ := hd
  subst hv
  obtain ⟨a, h1, h2, _⟩ := h.2 en w base spare held fuel _ _ hd
  exact ⟨a, h1, xs, rfl, h2⟩
/-- A value of one cell. -/
theorem Opn.one {P : Program} {t : TypeId} {α : Type} {e : α → V} {Wf : α → Prop} (h : Opn P t (fun a => [e a]) Wf) {H : Type} {en : TypeId × Value → H} {w : World} {base : Nat} {spare : Nat → Bool} {held : Bool} {v : Value} {d : DataW H} {ps : List MemPlace} (hv : v.oneCell' = true) (hd : DataW.Trod en P w base spare held t v d ps) :
    ∃ a : α, Wf a ∧ Rep (oldM w) w (e a) v := by
  obtain ⟨fuel, hd⟩ := hd
  have hc : v.cells.toList = [v] := by cases v <;> first | rfl | simp [Value.oneCell'] at hv
  rw [hc] at hd
  obtain ⟨a, h1, ⟨x, r, h2, h3, h4⟩, _⟩ := h.2 en w base spare held fuel _ _ hd
  cases h2
  exact ⟨a, h1, h3⟩
/-- Behind the call: the answer is plain, what was there reads as it did. -/
theorem post_of_below {H : Type} {en : TypeId × Value → H} {P : Program} {f : Func} {s : ChangeSpec} {apart fresh handsOn again : Bool} {W W' : World} {args : Array Value} {v : Value} {ds gs : List (DataW H)} {before pa pv : List MemPlace}
    (hW : DataW.Whole en P f.params.toList s.vars apart W args.toList ds gs before) (hb : Below W.heap.size W W')
    (hres : ∀ (b : Nat) (sp : Nat → Bool) (hd : Bool), DataW.TrodAll en P W' b sp hd f.resultTypes.toList (v.resultList f.resultTypes.size) (s.fn H (ds ++ gs)).results [])
    (hargs : ∀ sp : Nat → Bool, (∀ p ∈ before, sp p.block = true) → DataW.TrodAll en P W' 0 sp true f.params.toList args.toList (s.fn H (ds ++ gs)).args pa)
    (hvars : ∀ sp : Nat → Bool, (∀ p ∈ before, sp p.block = true) → DataW.TrodVars en P W' sp s.vars (s.fn H (ds ++ gs)).vars pv)
    (hps : before = pa ++ pv)
    (hok : ∀ (j : Nat) (t : TypeId) (r : Value), f.resultTypes[j]? = some t → (v.resultList f.resultTypes.size)[j]? = some r → Value.okWide P W' .any 0 t r) :
    s.post en P f apart fresh handsOn again W args v W' := by
  have hold : ∀ p ∈ before, (fun b => decide (b < W.heap.size)) p.block = true := fun p hp => by simpa using hW.lt p hp
  refine ⟨ds, gs, before, [], pa, pv, hW, hres _ _ _, hargs _ hold, hvars _ hold, World.keptBut_mono (fun p hp => ⟨hp, ?_⟩) (hb.frame (· ∈ before)), fun _ => ?_⟩
  · rw [hps, List.mem_append] at hp
    exact Or.inr hp
  · have hlt := hW.lt
    obtain ⟨_, _, _, _, _, hz, hn⟩ := hW
    refine ⟨hok, _, _, ([] ++ pa) ++ pv, ⟨[] ++ pa, pv, trodAll_append (hargs _ (fun _ _ => rfl)) (hres _ _ _), hvars _ (fun _ _ => rfl), rfl, ?_, ?_⟩, ?_⟩
    · intro b off hp
      have hp' : MemPlace.cell b off ∈ before := by rw [hps]; simpa using hp
      rw [hb.frozen (p := ⟨b, off, none⟩) (hlt _ hp')]
      exact hz b off hp'
    · intro ha
      have := hn ha
      rw [hps] at this
      simpa using this
    · intro p hp _
      rw [hps]
      simpa using hp
/-- What was handed in reads as it did. -/
theorem TrodAll_stays {H : Type} {en : TypeId × Value → H} {P : Program} {W W' : World} (hl : laidOutB P = true) {sp : Nat → Bool} (hb : Below W.heap.size W W') : ∀ {ts : List TypeId} {vs : List Value} {ds : List (DataW H)} {ps : List MemPlace},
    (∀ t ∈ ts, P.readableRec t = true ∧ t < P.types.size) → DataW.TrodAll en P W 0 (fun _ => true) true ts vs ds ps → (∀ x ∈ ps, x.block < W.heap.size) → (∀ x ∈ ps, sp x.block = true) → DataW.TrodAll en P W' 0 sp true ts vs ds ps
  | [], _, _, _, _, h, _, _ => by
    obtain ⟨rfl, rfl, rfl⟩ := trodAll_nil h
    exact trodAll_mk0
  | t :: ts, _, _, _, ht, h, hlt, hsp => by
    obtain ⟨v, vs1, d, ds1, a, b, rfl, rfl, rfl, h1, h2⟩ := trodAll_cons h
    obtain ⟨k1, k2⟩ := ht t (List.mem_cons_self ..)
    exact ⟨a, b, WideElems.Trod_stays hl k1 k2 h1 (fun x hx => hb.same (hlt x (List.mem_append_left _ hx))) (fun x hx => hsp x (List.mem_append_left _ hx)),
      TrodAll_stays hl hb (fun t ht' => ht t (List.mem_cons_of_mem _ ht')) h2 (fun x hx => hlt x (List.mem_append_right _ hx)) (fun x hx => hsp x (List.mem_append_right _ hx)), rfl⟩
end Go.Av

namespace Go.Av
open Enc (enc dec)
open Cel (cs dc)
open Go.Proofs Pl Go.ChangeShapes Go.WideShapes Go.RowKit

theorem Opn.weak {P : Program} {t : TypeId} {α : Type} {c : α → List V} {W W' : α → Prop} (h : Opn P t c W) (hw : ∀ a, W a → W' a) : Opn P t c W' :=
  ⟨h.1, fun en w base spare held fuel cs x hd => by
    obtain ⟨a, h1, h2⟩ := h.2 en w base spare held fuel cs x hd
    exact ⟨a, hw a h1, h2⟩⟩
theorem opn_int : Opn Try.prog 3 (fun n : Int => [enc n]) (fun n => (Lit.int .i64 n).wf = true) := Opn.int Try.underlying3 (by kernel_rfl)
theorem opn_u8 : Opn Try.prog 5 (fun b : UInt8 => cs b) (fun _ => True) := Opn.u8 Try.underlying5 (by kernel_rfl)
theorem opn_bytes : Opn Try.prog 34 (fun l : List UInt8 => [enc l]) (fun l => l.length ≤ maxLen ∧ ∀ b ∈ l, True) := Opn.slice Try.underlying34 (by kernel_rfl) (by decide) opn_u8
/-- A function of a plain answer, run. -/
theorem Pure.run {P : Program} {f : FuncId} {args : List V} {r : Value} {w : World} {vals : Array Value} (h : Pure P f args (.val r) []) (hr : RepL (oldM w) w args vals.toList) :
    Calls P f vals w fun e w' => e = .returned r ∧ Below w.heap.size w w' := by
  refine (h.2.2 (oldI w) w vals (fun b o hb => hb) hr).mono fun e w' ⟨x, M', he, hg, hx⟩ => ?_
  obtain ⟨rfl, _⟩ := hx
  exact ⟨he, hg.below⟩
end Go.Av

namespace Go.Av
open Enc (enc dec)
open Cel (cs dc)
open Go.Proofs Pl Go.ChangeShapes Go.WideShapes Go.RowKit

theorem opn_rec : Opn Try.prog 36 (fun x : Rec => cs x) (fun r => r.seq < 2 ^ 63 ∧ r.body.length ≤ maxLen) := by
  refine ⟨fun _ => Eq.symm (by kernel_rfl), fun en w base spare held fuel c x h => ?_⟩
  obtain ⟨hl, n, hf⟩ := open_flat Try.underlying36 (by rintro (_ | _ | _ | i) f hi <;> simp at hi <;> subst hi <;> exact ⟨rfl, by kernel_rfl⟩) (by kernel_rfl) h
  obtain ⟨v0, y0, g0, t0⟩ := hf 0 _ rfl
  obtain ⟨v1, y1, g1, t1⟩ := hf 1 _ rfl
  obtain ⟨v2, y2, g2, t2⟩ := hf 2 _ rfl
  obtain rfl : c = [v0, v1, v2] := by
    match c, hl with
    | [a0, a1, a2], _ => simp at g0 g1 g2; simp [g0, g1, g2]
  obtain ⟨a0, _, r0, o0⟩ := opn_int.2 en w base spare held n _ _ t0
  obtain ⟨a1, w1, r1, o1⟩ := opn_int.2 en w base spare held n _ _ t1
  obtain ⟨a2, m2, r2, o2⟩ := opn_bytes.2 en w base spare held n _ _ t2
  have hs : a1 < 2 ^ 63 := by
    simp only [Lit.wf, Bool.and_eq_true, decide_eq_true_eq] at w1
    have : a1 ≤ 9223372036854775807 := w1.2
    omega
  refine ⟨⟨a0, a1, a2⟩, ⟨hs, m2.1⟩, r0.append (r1.append r2), ?_⟩
  intro v hv
  simp only [List.mem_cons, List.not_mem_nil, or_false] at hv
  rcases hv with rfl | rfl | rfl
  · exact o0 _ (by simp)
  · exact o1 _ (by simp)
  · exact o2 _ (by simp)
theorem len5 {α : Type} {c : List α} (h : c.length = 5) : ∃ c0 c1 c2 c3 c4, c = [c0, c1, c2, c3, c4] := by
  match c, h with
  | [a0, a1, a2, a3, a4], _ => exact ⟨a0, a1, a2, a3, a4, rfl⟩
theorem len3 {α : Type} {c : List α} (h : c.length = 3) : ∃ c0 c1 c2, c = [c0, c1, c2] := by
  match c, h with
  | [a0, a1, a2], _ => exact ⟨a0, a1, a2, rfl⟩
theorem opn_fnd : Opn Try.prog 57 (fun x : Fnd => cs x) (fun f => f.rcd.seq < 2 ^ 63 ∧ f.rcd.body.length ≤ maxLen) := by
  refine ⟨fun _ => Eq.symm (by kernel_rfl), fun en w base spare held fuel c x h => ?_⟩
  obtain ⟨xs, n, _, _, hl, hlen, hf⟩ := DataW.trod_struct Try.underlying57 h
  have hc : Try.prog.cellsOf 57 = 5 := by kernel_rfl
  have h36 : Try.prog.cellsOf 36 = 3 := by kernel_rfl
  have h3 : Try.prog.cellsOf 3 = 1 := by kernel_rfl
  rw [hc] at hl
  have t0 : DataW.trod en Try.prog w base spare held n 36 ((c.drop 0).take (Try.prog.cellsOf 36)) = xs[0]? := hf 0 _ rfl
  have t1 : DataW.trod en Try.prog w base spare held n 3 ((c.drop 3).take (Try.prog.cellsOf 3)) = xs[1]? := hf 1 _ rfl
  have t2 : DataW.trod en Try.prog w base spare held n 3 ((c.drop 4).take (Try.prog.cellsOf 3)) = xs[2]? := hf 2 _ rfl
  rw [h36] at t0
  rw [h3] at t1 t2
  obtain ⟨c0, c1, c2, c3, c4, rfl⟩ := len5 hl
  obtain ⟨y0, y1, y2, rfl⟩ := len3 (show xs.length = 3 from hlen)
  obtain ⟨a0, m0, r0, o0⟩ := opn_rec.2 en w base spare held n [c0, c1, c2] y0 t0
  obtain ⟨a1, _, r1, o1⟩ := opn_int.2 en w base spare held n [c3] y1 t1
  obtain ⟨a2, _, r2, o2⟩ := opn_int.2 en w base spare held n [c4] y2 t2
  refine ⟨⟨a0, a1, a2⟩, m0, r0.append (r1.append r2), ?_⟩
  intro v hv
  simp only [List.mem_cons, List.not_mem_nil, or_false] at hv
  rcases hv with rfl | rfl | rfl | rfl | rfl
  · exact o0 _ (by simp)
  · exact o0 _ (by simp)
  · exact o0 _ (by simp)
  · exact o1 _ (by simp)
  · exact o2 _ (by simp)
theorem opn_fnds : Opn Try.prog 55 (fun l : List Fnd => [enc l]) (fun l => l.length ≤ maxLen ∧ ∀ f ∈ l, f.rcd.seq < 2 ^ 63 ∧ f.rcd.body.length ≤ maxLen) := Opn.slice Try.underlying55 (by kernel_rfl) (by decide) opn_fnd
end Go.Av

namespace Go.Av
open Enc (enc dec)
open Cel (cs dc)
open Go.Proofs Pl Go.ChangeShapes Go.WideShapes Go.RowKit

theorem opn_recs : Opn Try.prog 47 (fun l : List Rec => [enc l]) (fun l => l.length ≤ maxLen ∧ ∀ r ∈ l, r.seq < 2 ^ 63 ∧ r.body.length ≤ maxLen) := Opn.slice Try.underlying47 (by kernel_rfl) (by decide) opn_rec
theorem opn_ints : Opn Try.prog 64 (fun l : List Int => [enc l]) (fun l => l.length ≤ maxLen ∧ ∀ n ∈ l, (Lit.int .i64 n).wf = true) := Opn.slice Try.underlying64 (by kernel_rfl) (by decide) opn_int
end Go.Av
