/-
  DvZg: The plain law of records that a device holds.
  DvZb: Contracts of package log: records that follow one another.
  DvZga: The plain law of sorted records, and of those that run.
  DvZi: The plain law of records that are found.
  DvZo: The plain law of records behind a crash.
  DvZp: The law LogCrash: a record more.
  DvNd: Numbers and compact codes of functions.
  DvZa: Contracts of package log: all records, second part.
  DvZc: The calls whose answers are fixed, of logs.
  DvZj: The law LogFinds: what it asks.
  DvZq: The law LogCrash: what it computes.
  AvOp: Arguments, as a row reads them, as plain values of Lean; behind the call they read as they did.
  SnOp: What the rows hand in: numbers, and bytes.
  ToXa: What the rows hand in: records as they are found.
  ToXb: What the rows hand in: lists of records.
-/
import Derived.Test.YthjmodhemglgbaaDG
import Derived.Test.YthjmodhemglgbaaRows
import Derived.Deep.Slices
import Derived.ChangeSame
import Derived.Carry
import Derived.OpenShut
set_option linter.unusedSimpArgs false
set_option linter.unusedVariables false

namespace Go.Av.Pl
/-- The records of a zone, of zones, as they are found. -/
def zoneL (rs : List Rec) (i : Nat) : List Fnd := (List.range rs.length).map fun j => ⟨rs.getD j Rec.zero, (i : Int), (((rs.take j).flatMap recB).length : Int)⟩
def allL : List (List Rec) → Nat → List Fnd
  | [], _ => []
  | rs :: F, i => zoneL rs i ++ allL F (i + 1)
/-- A device that holds records. -/
structure Hd (d : Dv) (F : List (List Rec)) : Prop where
  data : d.zones.map (fun y => y.data) = F.map (fun rs => rs.flatMap recB)
  ok : ∀ rs ∈ F, ∀ r ∈ rs, recOk r = true
theorem zoneL_snoc (rs : List Rec) (r : Rec) (i : Nat) : zoneL (rs ++ [r]) i = zoneL rs i ++ [⟨r, i, ((rs.flatMap recB).length : Int)⟩] := by
  unfold zoneL
  rw [List.length_append, List.length_singleton, List.range_succ, List.map_append]
  congr 1
  · refine List.map_congr_left fun j hj => ?_
    have hj := List.mem_range.1 hj
    rw [List.getD_eq_getElem?_getD, List.getD_eq_getElem?_getD, List.getElem?_append_left hj, List.take_append_of_le_length (by omega)]
  · simp [List.getD_eq_getElem?_getD]
theorem zoneL_len (rs : List Rec) (i : Nat) : (zoneL rs i).length = rs.length := by simp [zoneL]
theorem scanF_held {z : Zo} {rs : List Rec} (h : z.data = rs.flatMap recB) (hok : ∀ r ∈ rs, recOk r = true) (i : Nat) : scanF z i = zoneL rs i := by
  have hl : rs.length ≤ (rs.flatMap recB).length := by
    clear h
    induction rs with
    | nil => simp
    | cons r rs ih =>
      have h1 := recB_length (hok r List.mem_cons_self)
      have h2 := ih fun x hx => hok x (List.mem_cons_of_mem _ hx)
      rw [List.flatMap_cons, List.length_append, List.length_cons]
      omega
  unfold scanF
  rw [h, scan_back rs _ 0 hok (by omega), List.map_map]
  unfold zoneL
  refine List.map_congr_left fun j _ => ?_
  simp
theorem allF_held : ∀ {zs : List Zo} {F : List (List Rec)}, zs.map (fun y => y.data) = F.map (fun rs => rs.flatMap recB) → (∀ rs ∈ F, ∀ r ∈ rs, recOk r = true) → ∀ n, allF zs n = allL F n
  | [], [], _, _, _ => rfl
  | [], _ :: _, h, _, _ => by simp at h
  | _ :: _, [], h, _, _ => by simp at h
  | z :: zs, rs :: F, h, hok, n => by
    simp only [List.map_cons, List.cons.injEq] at h
    rw [allF, allL, scanF_held h.1 (hok rs List.mem_cons_self), allF_held h.2 fun x hx => hok x (List.mem_cons_of_mem _ hx)]
theorem Hd.len {d : Dv} {F : List (List Rec)} (h : Hd d F) : F.length = d.zones.length := by
  have := congrArg List.length h.data
  simpa using this.symm
theorem Hd.get {d : Dv} {F : List (List Rec)} (h : Hd d F) {i : Nat} (hi : i < d.zones.length) : d.zones[i].data = (F[i]'(by rw [h.len]; exact hi)).flatMap recB := by
  have := congrArg (·[i]?) h.data
  simp only [List.getElem?_map, List.getElem?_eq_getElem hi, List.getElem?_eq_getElem (show i < F.length by rw [h.len]; exact hi), Option.map_some, Option.some.injEq] at this
  exact this
/-- One more in a zone: as they are found. -/
theorem allL_set : ∀ (F : List (List Rec)) (i n : Nat) (hi : i < F.length) (r : Rec), (allL (F.set i (F[i] ++ [r])) n).Perm (allL F n ++ [⟨r, ((n + i : Nat) : Int), (((F[i]).flatMap recB).length : Int)⟩])
  | rs :: F, 0, n, hi, r => by
    simp only [List.set_cons_zero, List.getElem_cons_zero, allL, zoneL_snoc, Nat.add_zero, List.append_assoc]
    refine List.Perm.append_left _ ?_
    exact List.perm_append_comm
  | rs :: F, i + 1, n, hi, r => by
    simp only [List.set_cons_succ, List.getElem_cons_succ, allL, List.append_assoc]
    refine List.Perm.append_left _ ?_
    have := allL_set F i (n + 1) (by simpa using hi) r
    rw [show n + 1 + i = n + (i + 1) by omega] at this
    exact this
theorem one_held {d : Dv} {k : Nat} {F : List (List Rec)} (hF : Hd d F) {r : Rec} (hr : recOk r = true) {d' : Dv} {i : Nat} {hi : i < d.zones.length} (hS : OneS d k (recB r) d' i hi) :
    Hd d' (F.set i (F[i]'(by rw [hF.len]; exact hi) ++ [r])) ∧ d'.zones.length = d.zones.length ∧ d'.zones.map (fun y => y.la) = d.zones.map (fun y => y.la) := by
  have hiF : i < F.length := by rw [hF.len]; exact hi
  have hla : ∀ (zs : List Zo) (j : Nat) (hj : j < zs.length) (z : Zo), z.la = zs[j].la → (zs.set j z).map (fun y => y.la) = zs.map (fun y => y.la) := fun zs j hj z hz => by
    refine List.ext_getElem (by simp) fun k h1 h2 => ?_
    rw [List.getElem_map, List.getElem_map, List.getElem_set]
    split
    · rename_i e; subst e; exact hz
    · rfl
  have hdat : d'.zones.map (fun y => y.data) = (d.zones.map (fun y => y.data)).set i (d.zones[i].data ++ recB r) ∧ d'.zones.length = d.zones.length ∧ d'.zones.map (fun y => y.la) = d.zones.map (fun y => y.la) := by
    rcases hS.zones with ⟨_, e⟩ | ⟨_, _, e | ⟨j, hj, hji, _, _, e⟩⟩
    · rw [e, hla _ _ hi (zAdd d.zones[i] d.size (recB r)) rfl, List.map_set, List.length_set]; exact ⟨rfl, rfl, rfl⟩
    · rw [e, hla _ _ hi (zAdd d.zones[i] d.size (recB r)) rfl, List.map_set, List.length_set]; exact ⟨rfl, rfl, rfl⟩
    · rw [e, hla _ _ (by rw [List.length_set]; exact hi) (zAdd d.zones[i] d.size (recB r)) (by rw [List.getElem_set_ne hji]; rfl), hla _ _ hj (zEnd d.zones[j]) rfl, List.map_set, List.map_set, List.length_set, List.length_set]
      refine ⟨?_, rfl, rfl⟩
      have : (d.zones.map (fun y => y.data)).set j (zEnd d.zones[j]).data = d.zones.map (fun y => y.data) := by
        refine List.ext_getElem (by simp) fun k h1 h2 => ?_
        rw [List.getElem_set]
        split
        · rename_i e; subst e; simp [zEnd]
        · rfl
      rw [this]
      rfl
  refine ⟨⟨?_, ?_⟩, hdat.2⟩
  · rw [hdat.1, List.map_set, ← hF.data, List.flatMap_append, List.flatMap_cons, List.flatMap_nil, List.append_nil, ← hF.get hi]
  · intro rs hrs x hx
    rcases List.mem_or_eq_of_mem_set hrs with h | rfl
    · exact hF.ok rs h x hx
    · rcases List.mem_append.1 hx with h | h
      · exact hF.ok _ (List.getElem_mem hiF) x h
      · rw [List.mem_singleton.1 h]; exact hr
def cxP (p : Nat × Nat) : Cx := ⟨FloatKind.f64.nearest (p.1 : Int), FloatKind.f64.nearest (p.2 : Int)⟩
/-- Records, and where they stand, as they are found. -/
def fndL : List Rec → List (Nat × Nat) → List Fnd
  | r :: l, p :: P => ⟨r, p.1, p.2⟩ :: fndL l P
  | _, _ => []
/-- Behind records that were appended. -/
structure AppS (d : Dv) (k : Nat) (F : List (List Rec)) (l : List Rec) (d' : Dv) (P : List (Nat × Nat)) (e : Int) (F' : List (List Rec)) : Prop where
  good : DG d' (k + 2 * l.length)
  size : d'.size = d.size
  len : d'.zones.length = d.zones.length
  held : Hd d' F'
  la : d'.zones.map (fun y => y.la) = d.zones.map (fun y => y.la)
  many : P.length ≤ l.length
  all : e = 0 → P.length = l.length
  perm : (allL F' 0).Perm (allL F 0 ++ fndL l P)
  room : (∀ r ∈ l, recOk r = true ∧ (r.body.length : Int) + 20 ≤ d.size) → e = 0 ∨ e = 60
theorem app_held : ∀ (l : List Rec) {d : Dv} {k : Nat} {F : List (List Rec)}, DG d k → k + 2 * l.length ≤ 2 ^ 61 → Hd d F → ∃ d' P e F', appR d l = some (d', P.map cxP, e) ∧ AppS d k F l d' P e F'
  | [], d, k, F, hg, hk, hF => ⟨d, [], 0, F, rfl, hg, rfl, rfl, hF, rfl, Nat.le_refl _, fun _ => rfl, by simp [fndL], fun _ => .inl rfl⟩
  | r :: l, d, k, F, hg, hk, hF => by
    have hlen : d.zones.length ≤ 2 ^ 40 := by have := (dOk_iff.1 hg.ok).2.2.1; omega
    simp only [List.length_cons] at hk
    by_cases hr : recOk r = true
    · rcases one_good hg (by omega) hr with ⟨hp, hone⟩ | ⟨i, hi, d1, hone, hS⟩
      · refine ⟨d, [], placeE d (recB r).length, F, by simp [appR, hone, hp], hg.mono (by omega), rfl, rfl, hF, rfl, by simp, fun h => absurd h hp, by simp [fndL], fun h => ?_⟩
        have h1 := (h r List.mem_cons_self).2
        have h2 := recB_length hr
        unfold placeE at hp ⊢
        rw [if_neg (by rintro (h | h | h) <;> first | (rw [hg.ok] at h; cases h) | omega)] at hp ⊢
        split
        · exact .inl rfl
        · split
          · exact .inr rfl
          · exact .inl rfl
      · obtain ⟨hF1, hl1, hla1⟩ := one_held hF hr hS
        obtain ⟨d', P, e, F', h1, h2⟩ := app_held l hS.good (by omega) hF1
        have hiF : i < F.length := by rw [hF.len]; exact hi
        refine ⟨d', (i, d.zones[i].data.length) :: P, e, F', ?_, ?_⟩
        · simp only [appR, hone, Option.bind_some, ne_eq, not_true_eq_false, if_false, h1, Option.map_some]
          rfl
        · refine ⟨by simpa [Nat.mul_add, Nat.add_assoc, Nat.add_comm, Nat.add_left_comm] using h2.good, h2.size.trans hS.size, h2.len.trans hl1, h2.held, h2.la.trans hla1, by simpa using h2.many, fun he => by simpa using h2.all he, ?_, fun h => h2.room fun x hx => ?_⟩
          · refine h2.perm.trans ?_
            have h3 := allL_set F i 0 hiF r
            rw [← hF.get hi] at h3
            have h4 := h3.append_right (fndL l P)
            simpa [fndL] using h4
          · rw [hS.size]
            exact h x (List.mem_cons_of_mem _ hx)
    · have hr' : recOk r = false := by simpa using hr
      have hone := one_bad hlen hr'
      exact ⟨d, [], 50, F, by simp [appR, hone], hg.mono (by omega), rfl, rfl, hF, rfl, by simp, fun h => (by cases h), by simp [fndL], fun h => absurd (h r List.mem_cons_self).1 hr⟩
theorem fndL_len : ∀ (l : List Rec) (P : List (Nat × Nat)), (fndL l P).length = min l.length P.length
  | [], P => by simp [fndL]
  | r :: l, [] => by simp [fndL]
  | r :: l, p :: P => by simp only [fndL, List.length_cons, fndL_len l P]; omega
theorem fndL_mem : ∀ {l : List Rec} {P : List (Nat × Nat)} {f : Fnd}, f ∈ fndL l P → f.rcd ∈ l
  | [], P, f, h => by simp [fndL] at h
  | r :: l, [], f, h => by simp [fndL] at h
  | r :: l, p :: P, f, h => by
    rcases List.mem_cons.1 h with rfl | h
    · exact List.mem_cons_self
    · exact List.mem_cons_of_mem _ (fndL_mem h)
/-- A new device holds none. -/
theorem held_new (z : Nat) (n : Int) (hz : 1 ≤ z ∧ z ≤ 64) (hn : 1 ≤ n ∧ n ≤ 1048576) : DG (dNew z n) 0 ∧ Hd (dNew z n) (List.replicate z []) ∧ (dNew z n).size = n ∧ (dNew z n).zones.length = z ∧ dNewE z n = 0 := by
  have e : dNew z n = ⟨n, List.replicate z ⟨0, 0, [], 0⟩, -1, false, 0⟩ := by
    unfold dNew
    rw [if_neg (by omega), Int.toNat_natCast]
  have e2 : dNewE z n = 0 := by
    unfold dNewE
    rw [if_neg (by omega)]
  rw [e]
  refine ⟨⟨dOk_iff.2 ⟨fun y hy => ?_, by simp; omega, by simp; omega, by show 0 < n; omega, by show n ≤ 1048576; omega⟩, rfl, rfl, by simp, ?_⟩, ⟨by simp, fun rs hrs r hr => ?_⟩, rfl, by simp, e2⟩
  · obtain ⟨_, rfl⟩ := List.mem_replicate.1 hy
    refine zOk_iff.2 ⟨⟨by show 1 ≤ n; omega, by show n ≤ 1048576; omega, by show (0 : Int) ≤ n; omega, by decide, by decide, by decide, by decide⟩, .inl ⟨rfl, rfl⟩⟩
  · have : stN 1 (List.replicate z (⟨0, 0, [], 0⟩ : Zo)) = 0 := by
      unfold stN
      rw [List.countP_eq_zero]
      intro y hy
      obtain ⟨_, rfl⟩ := List.mem_replicate.1 hy
      decide
    simp only [this]
    omega
  · obtain ⟨_, rfl⟩ := List.mem_replicate.1 hrs
    cases hr
theorem allL_none : ∀ (z n : Nat), allL (List.replicate z []) n = []
  | 0, _ => rfl
  | z + 1, n => by
    rw [List.replicate_succ, allL, allL_none z]
    rfl
theorem allL_ok : ∀ {F : List (List Rec)} {n : Nat} {f : Fnd}, (∀ rs ∈ F, ∀ r ∈ rs, recOk r = true) → f ∈ allL F n → recOk f.rcd = true
  | [], n, f, _, h => by cases h
  | rs :: F, n, f, hok, h => by
    rw [allL] at h
    rcases List.mem_append.1 h with h | h
    · unfold zoneL at h
      obtain ⟨j, hj, rfl⟩ := List.mem_map.1 h
      have hj := List.mem_range.1 hj
      simp only [List.getD_eq_getElem?_getD, List.getElem?_eq_getElem hj, Option.getD_some]
      exact hok rs List.mem_cons_self _ (List.getElem_mem hj)
    · exact allL_ok (fun x hx => hok x (List.mem_cons_of_mem _ hx)) h
end Go.Av.Pl

namespace Go.Av.Pl
open Go.Av
def runF (l : List Fnd) : Nat → Int → List Rec
  | 0, _ => []
  | k + 1, q => match lookF l q with
    | some r => r :: runF l k (q + 1)
    | none => []
end Go.Av.Pl
namespace Go.Av
open Enc (enc dec)
open Cel (cs dc)
open Go.Proofs Pl

theorem look_mem {l : List Fnd} {q : Int} {r : Rec} (h : lookF l q = some r) : ∃ f ∈ l, f.rcd.seq = q := by
  rw [lookF, Option.map_eq_some_iff] at h
  obtain ⟨f, hf, _⟩ := h
  exact ⟨f, List.mem_of_find?_eq_some hf, by simpa using List.find?_some hf⟩
theorem run_len (frm : Int) : ∀ (n : Nat) (l : List Fnd), (∀ i : Nat, i < n → (lookF l (frm + i)).isSome = true) → n ≤ l.length
  | 0, _, _ => Nat.zero_le _
  | n + 1, l, h => by
    have h0 := h n (by omega)
    rw [lookF, Option.isSome_map, List.find?_isSome] at h0
    obtain ⟨f, hf, hq⟩ := h0
    have hq : f.rcd.seq = frm + n := by simpa using hq
    have := run_len frm n (l.erase f) fun i hi => by
      have h1 := h i (by omega)
      rw [lookF, Option.isSome_map, List.find?_isSome] at h1 ⊢
      obtain ⟨g, hg, hg2⟩ := h1
      have hg3 : g.rcd.seq = frm + i := by simpa using hg2
      exact ⟨g, (List.mem_erase_of_ne (fun e => by rw [e] at hg3; omega)).2 hg, hg2⟩
    rw [List.length_erase_of_mem hf] at this
    have h2 := List.length_pos_of_mem hf
    omega
def RunM1 (l : List Fnd) (acc : List (Nat × Fnd)) : Mem := ⟨[mpV (kvF [] acc), [.ref .map 0], [.lit 5 (l.map cs)], [St.ready.v], [St.ready.v]], [(36, 3, 0)]⟩
def Dzb : Orc := Orc.nil.addL n_slices_Backward_Found sp_bw
theorem Dzb_ok : OOk Try.prog Dzb := OOk.nil.addL sp_bw_ok
def RunI (l : List Fnd) (frm : Int) (R : List Rec) (k : Nat) (s : Nat → V) (m : Mem) : Prop :=
  ∃ (acc : List Rec) (q : Int) (r0 : Rec) (p : Nat) (bx : List (List V)), R = acc ++ runF l k q ∧ q = frm + acc.length ∧ (∀ i : Nat, i < acc.length → (lookF l (frm + i)).isSome = true) ∧ k + acc.length = l.length + 1 ∧ s 1 = .val (.int .i64 q) ∧ s 4 = .row 0 3 (acc.map cs) ∧ s 5 = .ptr 1 0 ∧ s 8 = .ptr (p + 5) 0 ∧ s 9 = .val (.bool (lookF l q).isSome) ∧
    bx[p]? = some (cs ((lookF l q).getD Rec.zero)) ∧ m = ⟨mpV (kvF [] (bwTo l l.length)) :: [.ref .map 0] :: [.lit 5 (l.map cs)] :: [St.ready.v] :: [St.ready.v] :: bx, [(36, 3, acc.length)]⟩
theorem c_lRun (l : List Fnd) (frm : Int) (hl : l.length ≤ 2 ^ 30) (hf : -(2 ^ 63) ≤ frm ∧ (frm ≤ 2 ^ 62 ∨ ∀ f ∈ l, f.rcd.seq ≤ 2 ^ 62)) : Pure Try.prog n_log_Run [enc l, enc frm] (enc (runF l (l.length + 1) frm)) [] := by
  refine Pure.ofC Dzb_ok hm F_log_Run_ok (by simp [F_log_Run]) (by simp [V.res, V.res1]) ?_
  have hl2 : l.length ≤ 2 ^ 40 := by omega
  simp [F_log_Run, Dzb, sp_bw, decX_map]
  refine ⟨_, _, .tuple [], RunM1 l (bwTo l l.length), .ready, by simp, c_backward1 _ _ 2 l hl2 _ _ rfl ?run1, by simp [RunM1, loopAt], by simp, ?fin1⟩
  case run1 =>
    refine YRun.list bwArg (RunM1 l) (bwTo l l.length) ?_ ?_
    rotate_left
    · intro acc x r h
      rfl
    intro acc x r h
    refine Or.inr ⟨rfl, ?_⟩
    simp [roundW, putAll, St.of, St.cont, RunM1, loopAt, bwArg]
    refine .inr ⟨?_, ?_⟩
    · have h1 := (kvF_clean acc (kvs := []) (fun p hp => by cases hp)).put x.2.rcd.seq (Enc.cl x.2.rcd)
      rw [enc_rec] at h1
      have h2 := h1.under 5 1
      have h3 := under_map 5 1 l
      simp [underX, underL, V.under, St.v, h2, h3]
    · simp [kvF, List.foldl_append]
  case fin1 =>
    rw [show St.ready.out = Exit.normal from rfl]
    have hlook := kvF_look l
    have loop : ∀ R Q s m, RunI l frm R (l.length + 1) s m → (∀ s' m', s' 4 = .row 0 3 (R.map cs) → Q (.exit 2) s' m') → wp Try.prog noY Dzb F_log_Run_L0.loop s m Q := by
      intro R Q s m h hQ
      refine wp_loop (RunI l frm R) (l.length + 1) (IW.of h) fun k s m ⟨acc, q, r0, p, bx, hR, hq, hal, hk, s1, s4, s5, s8, s9, hp, hm⟩ => ?_
      subst hm
      cases hlk : lookF l q with
      | none =>
        rw [hlk] at s9
        have e1 : runF l k q = [] := by
          cases k with
          | zero => rfl
          | succ k => simp [runF, hlk]
        rw [e1, List.append_nil] at hR
        subst hR
        simp [F_log_Run_L0, s9]
        exact hQ _ _ s4
      | some r =>
        rw [hlk] at s9 hp
        simp only [Option.getD_some, Option.isSome_some] at s9 hp
        simp at hp
        have hal2 : ∀ i : Nat, i < acc.length + 1 → (lookF l (frm + i)).isSome = true := fun i hi => by
          by_cases e : i = acc.length
          · subst e; rw [← hq, hlk]; rfl
          · exact hal i (by omega)
        have hlen := run_len frm _ l hal2
        obtain ⟨k, rfl⟩ : ∃ j, k = j + 1 := ⟨k - 1, by omega⟩
        have hq62 : q ≤ 2 ^ 62 + 2 ^ 30 := by
          rcases hf.2 with h | h
          · omega
          · obtain ⟨f, hf1, hf2⟩ := look_mem hlk
            have := h f hf1
            omega
        have w1 := IntWalk.i64_in (q + 1) (by omega)
        have hR2 : R = (acc ++ [r]) ++ runF l k (q + 1) := by rw [hR, runF, hlk, List.append_assoc]; rfl
        cases hlk2 : lookF l (q + 1) with
        | none =>
          simp [F_log_Run_L0, s1, s4, s5, s8, s9, hp, w1, hlook, decX_map, hlk2]
          refine ⟨by omega, k, by omega, IW.of ⟨acc ++ [r], q + 1, r, bx.length, bx ++ [cs Rec.zero], hR2, by simp; omega, by simpa using hal2, by simp; omega, by simp, by simp, by simp [s5], by simp, by simp [hlk2], by simp [hlk2, Rec.zero], by simp [Rec.zero]⟩⟩
        | some r2 =>
          simp [F_log_Run_L0, s1, s4, s5, s8, s9, hp, w1, hlook, decX_map, hlk2]
          refine ⟨by omega, k, by omega, IW.of ⟨acc ++ [r], q + 1, r, bx.length, bx ++ [cs r2], hR2, by simp; omega, by simpa using hal2, by simp; omega, by simp, by simp, by simp [s5], by simp, by simp [hlk2], by simp [hlk2, Rec.zero], by simp [Rec.zero]⟩⟩
    simp [RunM1]
    cases hlk : lookF l frm with
    | none =>
      simp [hlook, hlk]
      refine loop (runF l (l.length + 1) frm) _ _ _ ⟨[], frm, Rec.zero, 0, [cs Rec.zero], rfl, by simp, by simp, by simp, by simp, by simp, by simp, by simp [RunM1], by simp [hlk], by simp [hlk], by simp [RunM1, Rec.zero]⟩ fun s' m' h4 => ?_
      simp [h4]
    | some r =>
      simp [hlook, hlk]
      refine loop (runF l (l.length + 1) frm) _ _ _ ⟨[], frm, r, 0, [cs r], rfl, by simp, by simp, by simp, by simp, by simp, by simp, by simp [RunM1], by simp [hlk], by simp [hlk], by simp [RunM1]⟩ fun s' m' h4 => ?_
      simp [h4]
end Go.Av

namespace Go.Av.Pl
theorem insS_perm (acc : List Fnd) (x : Fnd) : (insS acc x).Perm (acc ++ [x]) := by
  have h : ∀ l : List Fnd, (l.filter (fun y => decide (y.rcd.seq ≤ x.rcd.seq)) ++ l.filter (fun y => decide (x.rcd.seq < y.rcd.seq))).Perm l := fun l => by
    have := List.filter_append_perm (fun y : Fnd => decide (y.rcd.seq ≤ x.rcd.seq)) l
    have e : l.filter (fun y => decide (x.rcd.seq < y.rcd.seq)) = l.filter (fun y => !decide (y.rcd.seq ≤ x.rcd.seq)) := by
      congr 1
      funext y
      by_cases hy : y.rcd.seq ≤ x.rcd.seq
      · have : ¬ x.rcd.seq < y.rcd.seq := by omega
        simp [hy, this]
      · have : x.rcd.seq < y.rcd.seq := by omega
        simp [hy, this]
    rw [e]
    exact this
  unfold insS
  refine (List.perm_middle).trans ?_
  refine (List.Perm.cons x (h acc)).trans ?_
  exact (List.perm_append_comm (l₁ := [x]) (l₂ := acc))
theorem sortF_perm (l : List Fnd) : (sortF l).Perm l := by
  have : ∀ (l acc : List Fnd), (l.foldl insS acc).Perm (acc ++ l) := by
    intro l
    induction l with
    | nil => intro acc; simp
    | cons a l ih =>
      intro acc
      rw [List.foldl_cons]
      refine (ih _).trans ?_
      have := (insS_perm acc a).append_right l
      simpa using this
  have := this l []
  rw [List.nil_append] at this
  exact this
theorem look_seq {l : List Fnd} {q : Int} {r : Rec} (h : lookF l q = some r) : r.seq = q := by
  rw [lookF, Option.map_eq_some_iff] at h
  obtain ⟨f, hf, rfl⟩ := h
  simpa using List.find?_some hf
theorem runF_seq (l : List Fnd) : ∀ (k : Nat) (q : Int) (i : Nat) (hi : i < (runF l k q).length), (runF l k q)[i].seq = q + i
  | 0, q, i, hi => by simp [runF] at hi
  | k + 1, q, i, hi => by
    cases h : lookF l q with
    | none => simp [runF, h] at hi
    | some r =>
      have e : runF l (k + 1) q = r :: runF l k (q + 1) := by rw [runF, h]
      simp only [e]
      cases i with
      | zero => simp [look_seq h]
      | succ i =>
        have h1 : i < (runF l k (q + 1)).length := by rw [e] at hi; simpa using hi
        have := runF_seq l k (q + 1) i h1
        rw [List.getElem_cons_succ, this]
        omega
theorem runF_found (l : List Fnd) : ∀ (k : Nat) (q : Int) (i : Nat), i < (runF l k q).length → (lookF l (q + i)).isSome = true
  | 0, q, i, hi => by simp [runF] at hi
  | k + 1, q, i, hi => by
    cases h : lookF l q with
    | none => simp [runF, h] at hi
    | some r =>
      have e : runF l (k + 1) q = r :: runF l k (q + 1) := by rw [runF, h]
      cases i with
      | zero => simp [h]
      | succ i =>
        have h1 : i < (runF l k (q + 1)).length := by rw [e] at hi; simpa using hi
        have := runF_found l k (q + 1) i h1
        rwa [show q + 1 + (i : Int) = q + ((i + 1 : Nat) : Int) by omega] at this
theorem runF_stop (l : List Fnd) : ∀ (k : Nat) (q : Int), (runF l k q).length < k → lookF l (q + (runF l k q).length) = none
  | 0, q, hi => by simp at hi
  | k + 1, q, hi => by
    cases h : lookF l q with
    | none =>
      have e : runF l (k + 1) q = [] := by rw [runF, h]
      rw [e]
      simpa using h
    | some r =>
      have e : runF l (k + 1) q = r :: runF l k (q + 1) := by rw [runF, h]
      rw [e, List.length_cons] at hi ⊢
      have := runF_stop l k (q + 1) (by omega)
      rwa [show q + 1 + ((runF l k (q + 1)).length : Int) = q + (((runF l k (q + 1)).length + 1 : Nat) : Int) by omega] at this
theorem runF_end (l : List Fnd) (q : Int) : ∀ f ∈ l, f.rcd.seq ≠ q + (runF l (l.length + 1) q).length := by
  have h1 := run_len q _ l (runF_found l (l.length + 1) q)
  have h2 := runF_stop l (l.length + 1) q (by omega)
  intro f hf e
  rw [lookF, Option.map_eq_none_iff, List.find?_eq_none] at h2
  exact h2 f hf (by simpa using e)
end Go.Av.Pl

namespace Go.Av.Pl
theorem sort_eq {q L : List Fnd} (hp : q.Perm L) (hL : L.Pairwise fun a b => a.rcd.seq < b.rcd.seq) : sortF q = L := by
  have h1 : (sortF q).Perm L := (sortF_perm q).trans hp
  have h2 : (sortF q).Pairwise (fun a b => a.rcd.seq ≤ b.rcd.seq) := sortF_sorted q
  have h3 : L.Pairwise (fun a b => a.rcd.seq ≤ b.rcd.seq) := hL.imp fun h => by omega
  refine List.Perm.eq_of_pairwise (le := fun a b => a.rcd.seq ≤ b.rcd.seq) ?_ h2 h3 h1
  intro a b ha hb hab hba
  have ha' : a ∈ L := h1.mem_iff.1 ha
  refine Classical.byContradiction fun hne => ?_
  rcases List.getElem_of_mem ha' with ⟨i, hi, rfl⟩
  rcases List.getElem_of_mem hb with ⟨j, hj, rfl⟩
  rcases Nat.lt_trichotomy i j with h | h | h
  · have := List.pairwise_iff_getElem.1 hL i j hi hj h
    omega
  · subst h; exact hne rfl
  · have := List.pairwise_iff_getElem.1 hL j i hj hi h
    omega
theorem mem_allL : ∀ {F : List (List Rec)} {n : Nat} {f : Fnd}, f ∈ allL F n → ∃ (i : Nat) (hi : i < F.length) (j : Nat) (hj : j < F[i].length), f.zone = ((n + i : Nat) : Int) ∧ f.rcd = F[i][j] ∧ f.at_ = ((((F[i].take j).flatMap recB).length : Nat) : Int)
  | [], n, f, h => by cases h
  | rs :: F, n, f, h => by
    rw [allL] at h
    rcases List.mem_append.1 h with h | h
    · unfold zoneL at h
      obtain ⟨j, hj, rfl⟩ := List.mem_map.1 h
      have hj := List.mem_range.1 hj
      exact ⟨0, by simp, j, hj, by simp, by simp [List.getD_eq_getElem?_getD, List.getElem?_eq_getElem hj], by simp⟩
    · obtain ⟨i, hi, j, hj, h1, h2, h3⟩ := mem_allL h
      exact ⟨i + 1, by simpa using hi, j, by simpa using hj, by rw [h1]; omega, by simpa using h2, by simpa using h3⟩
/-- Where a record stands, its bytes are. -/
theorem found_bytes {d : Dv} {F : List (List Rec)} (hF : Hd d F) {f : Fnd} (h : f ∈ allL F 0) : ∃ (i a : Nat) (hi : i < d.zones.length), f.zone = i ∧ f.at_ = a ∧ a + (recB f.rcd).length ≤ d.zones[i].data.length ∧ ((d.zones[i].data).drop a).take (recB f.rcd).length = recB f.rcd ∧ recOk f.rcd = true := by
  obtain ⟨i, hi, j, hj, h1, h2, h3⟩ := mem_allL h
  have hi2 : i < d.zones.length := by rw [← hF.len]; exact hi
  have hd := hF.get hi2
  have e : F[i] = F[i].take j ++ (F[i][j] :: F[i].drop (j + 1)) := by simp
  have e2 : d.zones[i].data = (F[i].take j).flatMap recB ++ (recB F[i][j] ++ (F[i].drop (j + 1)).flatMap recB) := by
    rw [hd]
    conv => lhs; rw [e]
    rw [List.flatMap_append, List.flatMap_cons]
  refine ⟨i, _, hi2, by rw [h1]; simp, h3, ?_, ?_, ?_⟩
  · rw [e2, h2]; simp only [List.length_append]; omega
  · rw [e2, List.drop_left, h2, List.take_left]
  · rw [h2]; exact hF.ok _ (List.getElem_mem hi) _ (List.getElem_mem hj)
theorem fndL_get : ∀ {l : List Rec} {P : List (Nat × Nat)} {i : Nat} (hl : i < l.length) (hP : i < P.length), (fndL l P)[i]? = some ⟨l[i], P[i].1, P[i].2⟩
  | r :: l, p :: P, 0, _, _ => rfl
  | r :: l, p :: P, i + 1, hl, hP => by
    rw [fndL, List.getElem?_cons_succ]
    exact fndL_get (by simpa using hl) (by simpa using hP)
/-- Records numbered anew. -/
def someL : List Rec → Nat → List Rec
  | [], _ => []
  | r :: l, n => if r.body.length ≤ 60 ∧ recE r = 0 then ⟨r.kind, n, r.body⟩ :: someL l (n + 1) else someL l n
theorem someL_len : ∀ (l : List Rec) (n : Nat), (someL l n).length ≤ l.length
  | [], _ => Nat.le_refl _
  | r :: l, n => by
    rw [someL]
    split
    · have := someL_len l (n + 1)
      simpa using this
    · have := someL_len l n
      simp only [List.length_cons]
      omega
theorem recE_zero {r : Rec} (h : recE r = 0) : recOk r = true := by
  unfold recE at h
  split at h
  · assumption
  · cases h
theorem someL_ok : ∀ (l : List Rec) (n : Nat), n + l.length ≤ 2 ^ 40 → ∀ r ∈ someL l n, recOk r = true ∧ r.body.length ≤ 60
  | [], _, _, r, h => by cases h
  | x :: l, n, hn, r, h => by
    simp only [List.length_cons] at hn
    rw [someL] at h
    split at h
    · rename_i hx
      rcases List.mem_cons.1 h with rfl | h
      · have h1 := recOk_iff.1 (recE_zero hx.2)
        exact ⟨recOk_iff.2 ⟨h1.1, h1.2.1, by show (0 : Int) ≤ (n : Int); omega, by show (n : Int) ≤ 4611686018427387903; omega, h1.2.2.2.2⟩, hx.1⟩
      · exact someL_ok l (n + 1) (by omega) r h
    · exact someL_ok l n (by omega) r h
theorem someL_get : ∀ (l : List Rec) (n i : Nat) (hi : i < (someL l n).length), (someL l n)[i].seq = ((n + i : Nat) : Int)
  | [], n, i, hi => by simp [someL] at hi
  | x :: l, n, i, hi => by
    by_cases hx : x.body.length ≤ 60 ∧ recE x = 0
    · have e : someL (x :: l) n = ⟨x.kind, n, x.body⟩ :: someL l (n + 1) := by rw [someL, if_pos hx]
      simp only [e]
      cases i with
      | zero => simp
      | succ i =>
        rw [List.getElem_cons_succ, someL_get l (n + 1) i (by rw [e] at hi; simpa using hi)]
        omega
    · have e : someL (x :: l) n = someL l n := by rw [someL, if_neg hx]
      simp only [e]
      exact someL_get l n i (by rw [e] at hi; exact hi)
theorem look_none' {l : List Fnd} {q : Int} (h : ∀ f ∈ l, f.rcd.seq ≠ q) : lookF l q = none := by
  unfold lookF
  rw [Option.map_eq_none_iff, List.find?_eq_none]
  intro f hf
  simpa using h f hf
/-- Records with numbers from n on, one behind the other: as they are found they run. -/
theorem runF_all : ∀ (L : List Fnd) (pre : List Fnd) (k : Nat), L.length < k → (∀ (i : Nat) (hi : i < (pre ++ L).length), (pre ++ L)[i].rcd.seq = (i : Int)) → runF (pre ++ L) k (pre.length : Int) = L.map (·.rcd)
  | [], pre, k, hk, h => by
    have : lookF (pre ++ []) (pre.length : Int) = none := by
      refine look_none' fun f hf => ?_
      obtain ⟨i, hi, rfl⟩ := List.getElem_of_mem hf
      rw [h i hi]
      simp at hi
      omega
    cases k with
    | zero => omega
    | succ k => rw [runF, this]; rfl
  | f :: L, pre, k, hk, h => by
    obtain ⟨k, rfl⟩ : ∃ j, k = j + 1 := ⟨k - 1, by simp at hk; omega⟩
    have hf : lookF (pre ++ f :: L) (pre.length : Int) = some f.rcd := by
      unfold lookF
      have h0 : pre.length < (pre ++ f :: L).length := by simp
      have h1 := h pre.length h0
      have h2 : (pre ++ f :: L)[pre.length] = f := by simp
      rw [h2] at h1
      have : (pre ++ f :: L).find? (fun g => g.rcd.seq == (pre.length : Int)) = some f := by
        rw [List.find?_eq_some_iff_getElem]
        refine ⟨by simpa using h1, pre.length, h0, h2, fun i hi => ?_⟩
        have := h i (by omega)
        rw [this]
        simp
        omega
      rw [this]
      rfl
    rw [runF, hf]
    have e : pre ++ f :: L = (pre ++ [f]) ++ L := by simp
    have := runF_all L (pre ++ [f]) k (by simp at hk; omega) (by rw [← e]; exact h)
    rw [← e] at this
    simp only [List.length_append, List.length_singleton] at this
    rw [List.map_cons, ← this]
    rfl
end Go.Av.Pl

namespace Go.Av.Pl
def recN (r : Rec) : Nat := r.body.length + 20
theorem rd_cut {r : Rec} (h : recOk r = true) {q : Nat} (hq : q < recN r) : rdOk ((recB r).take q) = false := by
  have hl := recB_length h
  have hlen : ((recB r).take q).length = q := by rw [List.length_take, hl]; unfold recN at hq; omega
  by_cases h16 : 16 ≤ q
  · obtain ⟨_, _, h3⟩ := rd_back h []
    rw [List.append_nil] at h3
    have e : rdSz ((recB r).take q) = rdSz (recB r) := by
      unfold rdSz
      rw [List.drop_take, List.take_take, Nat.min_eq_left (by omega)]
    have : ¬ rdSz ((recB r).take q) ≤ ((recB r).take q).length := by
      rw [e, h3, hlen]
      unfold recN at hq
      omega
    refine Bool.eq_false_iff.2 fun hh => ?_
    unfold rdOk at hh
    simp only [Bool.and_eq_true, decide_eq_true_eq] at hh
    exact this hh.1.1.2.2
  · refine Bool.eq_false_iff.2 fun hh => ?_
    unfold rdOk at hh
    simp only [Bool.and_eq_true, decide_eq_true_eq] at hh
    have := hh.1.1.1.1.1
    omega
theorem scan_cut : ∀ (l : List Rec) (k q : Nat) (at_ : Int), (∀ r ∈ l, recOk r = true) → q < k → scanL k ((l.flatMap recB).take q) at_ = ((List.range l.length).map fun i => (l.getD i Rec.zero, at_ + (((l.take i).flatMap recB).length : Int))).filter fun p => decide (p.2 - at_ + (recN p.1 : Int) ≤ q)
  | [], k + 1, q, at_, _, _ => by
    have : rdOk [] = false := by decide
    simp [scanL, this]
  | r :: l, k + 1, q, at_, h, hk => by
    have hr := h r List.mem_cons_self
    have hl := recB_length hr
    rw [List.flatMap_cons]
    by_cases hq : q < recN r
    · have hq2 : q ≤ (recB r).length := by unfold recN at hq; omega
      have e : (recB r ++ l.flatMap recB).take q = (recB r).take q := by rw [List.take_append_of_le_length hq2]
      have hbad : ¬ rdOk ((recB r).take q) = true := by rw [rd_cut hr hq]; decide
      rw [e, scanL, if_neg hbad]
      symm
      rw [List.filter_eq_nil_iff]
      intro p hp
      obtain ⟨i, hi, rfl⟩ := List.mem_map.1 hp
      simp only [decide_eq_true_eq]
      cases i with
      | zero => simp [List.getD_eq_getElem?_getD]; omega
      | succ i =>
        simp only [List.take_succ_cons, List.flatMap_cons, List.length_append, hl]
        unfold recN at hq ⊢
        omega
    · have hq3 : recN r ≤ q := by omega
      have hql : (recB r).length ≤ q := by unfold recN at hq3; omega
      have e : (recB r ++ l.flatMap recB).take q = recB r ++ (l.flatMap recB).take (q - (recB r).length) := by
        rw [List.take_append, List.take_of_length_le hql]
      obtain ⟨h1, h2, h3⟩ := rd_back hr ((l.flatMap recB).take (q - (recB r).length))
      have ih := scan_cut l k (q - (recB r).length) (at_ + (r.body.length + 20)) (fun x hx => h x (List.mem_cons_of_mem _ hx)) (by omega)
      rw [e, scanL, if_pos h1, h2, h3, List.drop_left' (by omega), ih, List.length_cons, List.range_succ_eq_map, List.map_cons, List.map_map, List.filter_cons]
      rw [if_pos (by simp [List.getD_eq_getElem?_getD]; exact hq3)]
      congr 1
      · simp
      · have hm : ∀ (i : Nat), ((r :: l).getD (i + 1) Rec.zero, at_ + ((((r :: l).take (i + 1)).flatMap recB).length : Int)) = (l.getD i Rec.zero, at_ + (r.body.length + 20) + (((l.take i).flatMap recB).length : Int)) := fun i => by
          refine Prod.ext rfl ?_
          simp only [List.take_succ_cons, List.flatMap_cons, List.length_append, hl]
          omega
        have hmm : ((fun i => ((r :: l).getD i Rec.zero, at_ + ((((r :: l).take i).flatMap recB).length : Int))) ∘ Nat.succ) = fun i => (l.getD i Rec.zero, at_ + (r.body.length + 20) + (((l.take i).flatMap recB).length : Int)) := funext hm
        rw [hmm]
        refine List.filter_congr fun p _ => ?_
        rw [hl]
        unfold recN at hq3
        simp only [decide_eq_decide]
        omega
  | l, 0, _, _, _, hk => by omega
/-- Does a record lie within what its zone keeps? -/
def keepP (Q : Nat → Nat) (f : Fnd) : Bool := decide (f.at_ + (recN f.rcd : Int) ≤ Q f.zone.toNat)
theorem scanF_cut {z : Zo} {rs : List Rec} {q : Nat} (hq : q ≤ (rs.flatMap recB).length) (h : z.data = (rs.flatMap recB).take q) (hok : ∀ r ∈ rs, recOk r = true) (i : Nat) (Q : Nat → Nat) (hQ : Q i = q) : scanF z i = (zoneL rs i).filter (keepP Q) := by
  have hl : z.data.length = q := by rw [h, List.length_take]; omega
  unfold scanF
  rw [hl, h, scan_cut rs _ q 0 hok (Nat.lt_succ_self _)]
  unfold zoneL
  rw [List.filter_map, List.filter_map, List.map_map]
  have e1 : ((fun p : Rec × Int => decide (p.2 - 0 + (recN p.1 : Int) ≤ (q : Int))) ∘ fun j => (rs.getD j Rec.zero, (0 : Int) + (((rs.take j).flatMap recB).length : Int))) = (keepP Q ∘ fun j => (⟨rs.getD j Rec.zero, (i : Int), (((rs.take j).flatMap recB).length : Int)⟩ : Fnd)) := by
    funext j
    simp [keepP, hQ]
  rw [e1]
  refine List.map_congr_left fun j _ => ?_
  simp
theorem allF_cut (Q : Nat → Nat) : ∀ {zs : List Zo} {F : List (List Rec)} (n : Nat), zs.length = F.length → (∀ (i : Nat) (hz : i < zs.length) (hF : i < F.length), Q (n + i) ≤ (F[i].flatMap recB).length ∧ zs[i].data = (F[i].flatMap recB).take (Q (n + i))) → (∀ rs ∈ F, ∀ r ∈ rs, recOk r = true) → allF zs n = (allL F n).filter (keepP Q)
  | [], [], _, _, _, _ => rfl
  | [], _ :: _, _, h, _, _ => by simp at h
  | _ :: _, [], _, h, _, _ => by simp at h
  | z :: zs, rs :: F, n, hl, h, hok => by
    have h0 : Q n ≤ (rs.flatMap recB).length ∧ z.data = (rs.flatMap recB).take (Q n) := h 0 (by simp) (by simp)
    rw [allF, allL, List.filter_append, scanF_cut h0.1 h0.2 (hok rs List.mem_cons_self) n Q rfl, allF_cut Q (n + 1) (by simpa using hl) (fun i hz hF => by
      have := h (i + 1) (by simpa using hz) (by simpa using hF)
      rw [show n + (i + 1) = n + 1 + i by omega] at this
      exact this) fun x hx => hok x (List.mem_cons_of_mem _ hx)]
/-- What each zone keeps. -/
def crQ (d : Dv) (keeps : List Int) (i : Nat) : Nat := match d.zones[i]? with
  | some z => crN z (keeps.getD i 0)
  | none => 0
theorem zCr_data {z : Zo} {n k : Int} (h : zOk z n = true) : (zCr z n k).data = z.data.take (crN z k) := by unfold zCr; rw [if_pos h]
theorem cr_allF {d : Dv} {F : List (List Rec)} (hok : dOk d = true) (hF : Hd d F) (keeps : List Int) : allF (dCr d keeps).zones 0 = (allL F 0).filter (keepP (crQ d keeps)) := by
  refine allF_cut (crQ d keeps) 0 (by rw [hF.len]; simp [dCr]) (fun i hz hiF => ?_) hF.ok
  have hi : i < d.zones.length := by rw [← hF.len]; exact hiF
  have hzo := (dOk_iff.1 hok).1 _ (List.getElem_mem hi)
  have e : crQ d keeps (0 + i) = crN d.zones[i] (keeps.getD i 0) := by unfold crQ; rw [Nat.zero_add, List.getElem?_eq_getElem hi]
  have hd := hF.get hi
  rw [e, ← hd]
  refine ⟨crN_le _ _, ?_⟩
  have : (dCr d keeps).zones[i] = zCr d.zones[i] d.size (keeps.getD i 0) := by simp [dCr, crA]
  rw [this, zCr_data hzo]
theorem zFill_ok {z : Zo} {n keep : Int} (h : zOk z n = true) : zOk (zCr z n keep) n = true := by
  have h1 := zOk_iff.1 h
  have hc := crN_le z keep
  unfold zCr
  rw [if_pos h]
  generalize crN z keep = q at *
  refine zOk_iff.2 ⟨⟨h1.1.1, h1.1.2.1, ?_, ?_, ?_, h1.1.2.2.2.2.2.1, h1.1.2.2.2.2.2.2⟩, ?_⟩
  · simp only [List.length_take]; omega
  · show (0 : Int) ≤ (q : Int); omega
  · simp only [List.length_take]; omega
  · have hl : (z.data.take q).length = q := by rw [List.length_take]; omega
    simp only [hl]
    unfold zFill
    by_cases h0 : q = 0
    · rw [if_pos h0]; exact .inl ⟨rfl, h0⟩
    · rw [if_neg h0]
      split
      · exact .inr (.inr rfl)
      · split
        · exact .inr (.inr rfl)
        · rename_i h2 h3
          refine .inr (.inl ⟨.inr rfl, by omega, by omega⟩)
theorem cr_ok {d : Dv} (hok : dOk d = true) (keeps : List Int) : dOk (dCr d keeps) = true := by
  have h := dOk_iff.1 hok
  refine dOk_iff.2 ⟨fun y hy => ?_, by simpa [dCr] using h.2⟩
  obtain ⟨i, hi, rfl⟩ := List.getElem_of_mem hy
  have hi2 : i < d.zones.length := by simpa [dCr] using hi
  have : (dCr d keeps).zones[i] = zCr d.zones[i] d.size (keeps.getD i 0) := by simp [dCr, crA]
  rw [this]
  exact zFill_ok (h.1 _ (List.getElem_mem hi2))
/-- All zones flushed. -/
def dFl (d : Dv) : Dv := dDid d (d.zones.map zFlu)
theorem fl_good {d : Dv} {k : Nat} (hg : DG d k) : DG (dFl d) (k + 1) := by
  have h := dOk_iff.1 hg.ok
  refine ⟨dOk_iff.2 ⟨fun y hy => ?_, by simpa [dFl, dDid] using h.2⟩, hg.dn, ?_, ?_, ?_⟩
  · obtain ⟨z, hz, rfl⟩ := List.mem_map.1 hy
    have h1 := zOk_iff.1 (h.1 z hz)
    exact zOk_iff.2 ⟨⟨h1.1.1, h1.1.2.1, h1.1.2.2.1, by show (0 : Int) ≤ (z.data.length : Int); omega, by show (z.data.length : Int) ≤ (z.data.length : Int); omega, h1.1.2.2.2.2.2.1, h1.1.2.2.2.2.2.2⟩, h1.2⟩
  · simp only [dFl, dDid, dLeft, hg.lf]
    rfl
  · have := hg.dd
    simp only [dFl, dDid]
    omega
  · have := hg.op
    have e : stN 1 (d.zones.map zFlu) = stN 1 d.zones := by
      unfold stN
      rw [List.countP_map]
      rfl
    show stN 1 (d.zones.map zFlu) ≤ 3
    rw [e]
    exact this
theorem fl_held {d : Dv} {F : List (List Rec)} (h : Hd d F) : Hd (dFl d) F := by
  refine ⟨?_, h.ok⟩
  rw [← h.data]
  simp [dFl, dDid, zFlu]
/-- The first so many of records lie within what lasts. -/
def LaOk (d : Dv) (n : Nat) (l : List Fnd) : Prop := ∀ (j : Nat) (f : Fnd), j < n → l[j]? = some f → ∃ z, d.zones[f.zone.toNat]? = some z ∧ f.at_ + (recN f.rcd : Int) ≤ z.la
theorem la_fl {d : Dv} {F : List (List Rec)} (hF : Hd d F) {l : List Fnd} (hp : (allL F 0).Perm l) (n : Nat) : LaOk (dFl d) n l := by
  intro j f _ hf
  obtain ⟨i, a, hi, h1, h2, h3, _, h5⟩ := found_bytes hF (hp.mem_iff.2 (List.mem_of_getElem? hf))
  refine ⟨zFlu d.zones[i], ?_, ?_⟩
  · rw [h1, Int.toNat_natCast]
    simp [dFl, dDid, hi]
  · have := recB_length h5
    show f.at_ + (recN f.rcd : Int) ≤ (d.zones[i].data.length : Int)
    rw [h2]
    unfold recN
    omega
theorem la_mono {d d' : Dv} {n : Nat} {l r : List Fnd} (h : LaOk d n l) (hn : n ≤ l.length) (hla : d'.zones.map (fun y => y.la) = d.zones.map (fun y => y.la)) : LaOk d' n (l ++ r) := by
  intro j f hj hf
  rw [List.getElem?_append_left (by omega)] at hf
  obtain ⟨z, hz, hl⟩ := h j f hj hf
  have := congrArg (·[f.zone.toNat]?) hla
  simp only [List.getElem?_map, hz, Option.map_some] at this
  rw [Option.map_eq_some_iff] at this
  obtain ⟨z', hz', e⟩ := this
  exact ⟨z', hz', by rw [e]; exact hl⟩
theorem la_keep {d : Dv} (hok : dOk d = true) {n : Nat} {l : List Fnd} (h : LaOk d n l) (keeps : List Int) {j : Nat} (hj : j < n) {f : Fnd} (hf : l[j]? = some f) : keepP (crQ d keeps) f = true := by
  obtain ⟨z, hz, hl⟩ := h j f hj hf
  have hmem := List.mem_of_getElem? hz
  have hzo := (zOk_iff.1 ((dOk_iff.1 hok).1 z hmem)).1
  unfold keepP crQ
  rw [hz]
  simp only [decide_eq_true_eq]
  have : z.la ≤ (crN z (keeps.getD f.zone.toNat 0) : Int) := by unfold crN; omega
  omega
/-- A list with so many of its own left, that are kept, is looked through one by one. -/
theorem filter_at {α : Type} {p : α → Bool} {l : List α} {i : Nat} (hi : i < l.length) : (l.filter p) = ((l.take i).filter p) ++ (if p l[i] = true then l[i] :: (l.drop (i + 1)).filter p else (l.drop (i + 1)).filter p) := by
  have e : l = l.take i ++ (l[i] :: l.drop (i + 1)) := by simp
  conv => lhs; rw [e]
  rw [List.filter_append, List.filter_cons]
theorem filter_take_succ {α : Type} {p : α → Bool} {l : List α} {i : Nat} (hi : i < l.length) : ((l.take (i + 1)).filter p).length = ((l.take i).filter p).length + (if p l[i] = true then 1 else 0) := by
  rw [List.take_add_one, List.getElem?_eq_getElem hi, List.filter_append, List.length_append]
  simp only [Option.toList_some, List.filter_cons, List.filter_nil]
  split <;> simp
theorem fndL_snoc : ∀ (l : List Rec) (P : List (Nat × Nat)) (r : Rec) (p : Nat × Nat), l.length = P.length → fndL (l ++ [r]) (P ++ [p]) = fndL l P ++ [⟨r, p.1, p.2⟩]
  | [], [], r, p, _ => rfl
  | x :: l, q :: P, r, p, h => by
    simp only [List.cons_append, fndL, fndL_snoc l P r p (by simpa using h)]
  | [], _ :: _, _, _, h => by simp at h
  | _ :: _, [], _, _, h => by simp at h
end Go.Av.Pl

namespace Go.Av.Pl
/-- Behind so many records. -/
structure CInv (na i : Nat) (d : Dv) (L : List Rec) (P : List (Nat × Nat)) (F : List (List Rec)) : Prop where
  good : DG d (4 * i)
  size : d.size = 300
  len : d.zones.length = 12
  held : Hd d F
  ll : L.length = i
  pl : P.length = i
  seq : ∀ (j : Nat) (hj : j < L.length), L[j].seq = (j : Int)
  perm : (allL F 0).Perm (fndL L P)
  la : na < i → LaOk d na (fndL L P)
def stepD (na i : Nat) (d : Dv) : Dv := if i = na then dFl d else d
theorem step_good {na i : Nat} {d : Dv} {L : List Rec} {P : List (Nat × Nat)} {F : List (List Rec)} (h : CInv na i d L P F) : DG (stepD na i d) (4 * i + 1) ∧ Hd (stepD na i d) F ∧ (stepD na i d).size = 300 ∧ (stepD na i d).zones.length = 12 := by
  unfold stepD
  split
  · exact ⟨fl_good h.good, fl_held h.held, h.size, by rw [← h.len]; simp [dFl, dDid]⟩
  · exact ⟨h.good.mono (by omega), h.held, h.size, h.len⟩
theorem cstep {na i : Nat} {d : Dv} {L : List Rec} {P : List (Nat × Nat)} {F : List (List Rec)} (h : CInv na i d L P F) (hi : i ≤ 2 ^ 30) {b : List UInt8} (hb : b.length ≤ 60) :
    (∃ d', appR (stepD na i d) [⟨2, i, b⟩] = some (d', [], 60)) ∨ ∃ d' p F', appR (stepD na i d) [⟨2, i, b⟩] = some (d', [cxP p], 0) ∧ CInv na (i + 1) d' (L ++ [⟨2, i, b⟩]) (P ++ [p]) F' := by
  obtain ⟨g1, g2, g3, g4⟩ := step_good h
  have hr : recOk (⟨2, i, b⟩ : Rec) = true := recOk_iff.2 ⟨by show (1 : Int) ≤ 2; decide, by show (2 : Int) ≤ 5; decide, by show (0 : Int) ≤ (i : Int); omega, by show (i : Int) ≤ 4611686018427387903; omega, by show b.length ≤ 4096; omega⟩
  obtain ⟨d', Q, e, F', ha, hA⟩ := app_held [⟨2, i, b⟩] g1 (by simp; omega) g2
  have hroom := hA.room fun r hrm => by
    rw [List.mem_singleton.1 hrm, g3]
    exact ⟨hr, by show (b.length : Int) + 20 ≤ 300; omega⟩
  have hm := hA.many
  rcases hroom with he | he
  · subst he
    have hQ := hA.all rfl
    obtain ⟨p, rfl⟩ : ∃ p, Q = [p] := by
      match Q, hQ with
      | [p], _ => exact ⟨p, rfl⟩
    have hfl := fndL_snoc L P (⟨2, i, b⟩ : Rec) p (by rw [h.ll, h.pl])
    refine .inr ⟨d', p, F', ha, ⟨hA.good.mono (by simp; omega), hA.size.trans g3, hA.len.trans g4, hA.held, by simp [h.ll], by simp [h.pl], ?_, ?_, ?_⟩⟩
    · intro j hj
      by_cases hjl : j < L.length
      · rw [List.getElem_append_left hjl]; exact h.seq j hjl
      · have : j = L.length := by simp at hj; omega
        subst this
        simp [h.ll]
    · rw [hfl]
      refine hA.perm.trans ?_
      exact h.perm.append_right _
    · intro hn
      rw [hfl]
      have hfn : na ≤ (fndL L P).length := by rw [fndL_len, h.ll, h.pl]; omega
      refine la_mono ?_ hfn hA.la
      unfold stepD
      split
      · exact la_fl h.held h.perm na
      · exact h.la (by omega)
  · subst he
    refine .inl ⟨d', ?_⟩
    have hQ : Q = [] := by
      -- an error: none was placed
      match Q, hm with
      | [], _ => rfl
      | [p], _ =>
        exfalso
        have hone := one_good g1 (by omega) hr
        simp only [appR] at ha
        rcases hone with ⟨_, ho⟩ | ⟨_, _, _, ho, _⟩
        · rw [ho] at ha
          simp at ha
          split at ha <;> simp at ha
        · rw [ho] at ha
          simp at ha
    subst hQ
    exact ha
theorem c_new (na : Nat) : CInv na 0 (dNew 12 300) [] [] (List.replicate 12 []) := by
  obtain ⟨g1, g2, g3, g4, _⟩ := held_new 12 300 (by omega) (by omega)
  exact ⟨g1, g3, g4, g2, rfl, rfl, fun j hj => by simp at hj, by rw [allL_none]; simp [fndL], fun h => by omega⟩
/-- At the end, flushed: what is found, and what is found behind a crash. -/
theorem c_end {na i : Nat} {d : Dv} {L : List Rec} {P : List (Nat × Nat)} {F : List (List Rec)} (h : CInv na i d L P F) (hna : na ≤ i) (keeps : List Int) :
    dOk (stepD na i d) = true ∧ sortF (allF (stepD na i d).zones 0) = fndL L P ∧ (allF (stepD na i d).zones 0).length = i ∧ dOk (dCr (stepD na i d) keeps) = true ∧
    ∃ p : Fnd → Bool, sortF (allF (dCr (stepD na i d) keeps).zones 0) = (fndL L P).filter p ∧ (allF (dCr (stepD na i d) keeps).zones 0).length ≤ i ∧ ∀ (j : Nat) (f : Fnd), j < na → (fndL L P)[j]? = some f → p f = true := by
  obtain ⟨g1, g2, g3, g4⟩ := step_good h
  have hall := allF_held g2.data g2.ok 0
  have hfl : (fndL L P).length = i := by rw [fndL_len, h.ll, h.pl]; omega
  have hlt : (fndL L P).Pairwise fun a b => a.rcd.seq < b.rcd.seq := List.pairwise_iff_getElem.2 fun x y hx hy hxy => by
    have h1 := fndL_get (l := L) (P := P) (i := x) (by rw [h.ll]; omega) (by rw [h.pl]; omega)
    have h2 := fndL_get (l := L) (P := P) (i := y) (by rw [h.ll]; omega) (by rw [h.pl]; omega)
    rw [List.getElem?_eq_getElem hx] at h1
    rw [List.getElem?_eq_getElem hy] at h2
    rw [Option.some.inj h1, Option.some.inj h2]
    have e1 := h.seq x (by rw [h.ll]; omega)
    have e2 := h.seq y (by rw [h.ll]; omega)
    simp only [e1, e2]
    omega
  have hcr := cr_allF g1.ok g2 keeps
  have hla : LaOk (stepD na i d) na (fndL L P) := by
    unfold stepD
    split
    · exact la_fl h.held h.perm na
    · exact h.la (by omega)
  refine ⟨g1.ok, sort_eq (by rw [hall]; exact h.perm) hlt, by rw [hall, h.perm.length_eq, hfl], cr_ok g1.ok keeps, keepP (crQ (stepD na i d) keeps), sort_eq (by rw [hcr]; exact h.perm.filter _) (hlt.filter _), ?_, fun j f hj hf => la_keep g1.ok hla keeps hj hf⟩
  rw [hcr]
  have := List.length_filter_le (keepP (crQ (stepD na i d) keeps)) (allL F 0)
  rw [h.perm.length_eq, hfl] at this
  exact this
end Go.Av.Pl

namespace Go.Av
open Go.Proofs

@[simp] abbrev n_w06_LogFinds : FuncId := 15
def F_w06_LogFinds_L0 : C := (.seq (.seq (.ops [⟨(some 102), none, (.mov (.t 14))⟩, ⟨(some 103), none, (.mov (.t 6))⟩, ⟨(some 104), none, (.len (.t 103))⟩, ⟨(some 105), none, (.bin .lss (.t 102) (.t 104))⟩]) (.cond (.t 105) .skip (.exit 2))) (.seq (.block 3 (.seq (.ops [⟨(some 109), none, (.mov (.t 6))⟩, ⟨(some 110), none, (.mov (.t 14))⟩, ⟨(some 111), none, (.ixs (.t 109) (.t 110) 3)⟩, ⟨(some 112), none, (.lde (.t 111) (some 3))⟩, ⟨(some 113), none, (.call 53 [(.t 112)])⟩, ⟨(some 108), none, (.mov (.t 113))⟩, ⟨(some 114), none, (.ext (.t 108) 0)⟩, ⟨(some 115), none, (.ext (.t 108) 1)⟩, ⟨(some 15), none, (.mov (.t 114))⟩, ⟨(some 16), none, (.mov (.t 115))⟩]) (.seq (.dops false [] [⟨(some 117), none, (.ld (.t 9) (some 5))⟩, ⟨(some 118), none, (.mov (.t 10))⟩, ⟨(some 119), none, (.mov (.t 14))⟩, ⟨(some 120), none, (.ixs (.t 118) (.t 119) 1)⟩, ⟨(some 121), none, (.lde (.t 120) none)⟩, ⟨(some 122), none, (.mem (.rei false) [(.t 121)])⟩, ⟨(some 123), none, (.conv .i64 (.t 122))⟩, ⟨(some 124), none, (.mov (.t 10))⟩, ⟨(some 125), none, (.mov (.t 14))⟩, ⟨(some 126), none, (.ixs (.t 124) (.t 125) 1)⟩, ⟨(some 127), none, (.lde (.t 126) none)⟩, ⟨(some 128), none, (.mem (.rei true) [(.t 127)])⟩, ⟨(some 129), none, (.conv .i64 (.t 128))⟩, ⟨(some 130), none, (.mov (.t 15))⟩, ⟨(some 131), none, (.len (.t 130))⟩, ⟨(some 132), none, (.call 54 [(.t 117), (.t 123), (.t 129), (.t 131)])⟩, ⟨(some 116), none, (.mov (.t 132))⟩, ⟨(some 133), none, (.ext (.t 116) 0)⟩, ⟨(some 134), none, (.ext (.t 116) 1)⟩, ⟨(some 17), none, (.mov (.t 133))⟩, ⟨(some 18), none, (.mov (.t 134))⟩]) (.seq (.dops false [] [⟨(some 135), none, (.mov (.t 12))⟩, ⟨(some 136), none, (.mov (.t 14))⟩, ⟨(some 137), none, (.ixs (.t 135) (.t 136) 5)⟩, ⟨(some 138), none, (.fad (.t 137) 0)⟩, ⟨(some 139), none, (.lde (.t 138) (some 3))⟩, ⟨(some 140), none, (.mov (.t 6))⟩, ⟨(some 141), none, (.mov (.t 14))⟩, ⟨(some 142), none, (.ixs (.t 140) (.t 141) 3)⟩, ⟨(some 143), none, (.lde (.t 142) (some 3))⟩, ⟨(some 144), none, (.call 55 [(.t 139), (.t 143)])⟩, ⟨(some 19), none, (.mov (.t 144))⟩]) (.seq (.dops false [] [⟨(some 145), none, (.mov (.t 18))⟩, ⟨(some 146), none, (.bin .neq (.t 145) (.c (.int .i64 0)))⟩, ⟨(some 147), none, (.mov (.t 146))⟩, ⟨(some 148), (some (147, false)), (.mov (.t 17))⟩, ⟨(some 149), (some (147, false)), (.b2s (.t 148))⟩, ⟨(some 150), (some (147, false)), (.mov (.t 15))⟩, ⟨(some 151), (some (147, false)), (.b2s (.t 150))⟩, ⟨(some 152), (some (147, false)), (.bin .neq (.t 149) (.t 151))⟩, ⟨(some 153), none, (.pick (.t 147) (.c (.bool true)) (.t 152))⟩, ⟨(some 154), none, (.mov (.t 153))⟩, ⟨(some 155), (some (154, false)), (.mov (.t 19))⟩, ⟨(some 156), (some (154, false)), (.un .not (.t 155))⟩, ⟨(some 157), none, (.pick (.t 154) (.c (.bool true)) (.t 156))⟩, ⟨(some 158), none, (.mov (.t 157))⟩, ⟨(some 159), (some (158, false)), (.mov (.t 10))⟩, ⟨(some 160), (some (158, false)), (.mov (.t 14))⟩, ⟨(some 161), (some (158, false)), (.ixs (.t 159) (.t 160) 1)⟩, ⟨(some 162), (some (158, false)), (.lde (.t 161) none)⟩, ⟨(some 163), (some (158, false)), (.mov (.t 12))⟩, ⟨(some 164), (some (158, false)), (.mov (.t 14))⟩, ⟨(some 165), (some (158, false)), (.ixs (.t 163) (.t 164) 5)⟩, ⟨(some 166), (some (158, false)), (.fad (.t 165) 3)⟩, ⟨(some 167), (some (158, false)), (.lde (.t 166) none)⟩, ⟨(some 168), (some (158, false)), (.mem (.cvf .f64) [(.t 167)])⟩, ⟨(some 169), (some (158, false)), (.mov (.t 12))⟩, ⟨(some 170), (some (158, false)), (.mov (.t 14))⟩, ⟨(some 171), (some (158, false)), (.ixs (.t 169) (.t 170) 5)⟩, ⟨(some 172), (some (158, false)), (.fad (.t 171) 4)⟩, ⟨(some 173), (some (158, false)), (.lde (.t 172) none)⟩, ⟨(some 174), (some (158, false)), (.mem (.cvf .f64) [(.t 173)])⟩, ⟨(some 175), (some (158, false)), (.mem .cpx [(.t 168), (.t 174)])⟩, ⟨(some 176), (some (158, false)), (.bin .neq (.t 162) (.t 175))⟩, ⟨(some 177), none, (.pick (.t 158) (.c (.bool true)) (.t 176))⟩]) (.cond (.t 177) (.seq (.ops [⟨(some 2), none, (.mov (.c (.bool false)))⟩]) .ret) .skip)))))) (.ops [⟨(some 106), none, (.mov (.t 14))⟩, ⟨(some 107), none, (.bin .add (.t 106) (.c (.int .i64 1)))⟩, ⟨(some 14), none, (.mov (.t 107))⟩])))
def F_w06_LogFinds_L1 : C := (.seq (.seq (.ops [⟨(some 29), none, (.mov (.t 7))⟩, ⟨(some 30), none, (.mov (.t 0))⟩, ⟨(some 31), none, (.len (.t 30))⟩, ⟨(some 32), none, (.bin .lss (.t 29) (.t 31))⟩]) (.cond (.t 32) .skip (.exit 0))) (.seq (.block 1 (.seq (.ops [⟨(some 35), none, (.mov (.t 0))⟩, ⟨(some 36), none, (.mov (.t 7))⟩, ⟨(some 37), none, (.ixs (.t 35) (.t 36) 3)⟩, ⟨(some 38), none, (.fad (.t 37) 2)⟩, ⟨(some 39), none, (.lde (.t 38) none)⟩, ⟨(some 40), none, (.len (.t 39))⟩, ⟨(some 41), none, (.bin .leq (.t 40) (.c (.int .i64 60)))⟩, ⟨(some 42), none, (.mov (.t 41))⟩, ⟨(some 43), (some (42, true)), (.mov (.t 0))⟩, ⟨(some 44), (some (42, true)), (.mov (.t 7))⟩, ⟨(some 45), (some (42, true)), (.ixs (.t 43) (.t 44) 3)⟩, ⟨(some 46), (some (42, true)), (.lde (.t 45) (some 3))⟩, ⟨(some 47), (some (42, true)), (.call 52 [(.t 46)])⟩, ⟨(some 48), (some (42, true)), (.bin .eql (.t 47) (.c (.int .i64 0)))⟩, ⟨(some 49), none, (.pick (.t 42) (.t 48) (.c (.bool false)))⟩]) (.cond (.t 49) (.seq (.ops [⟨(some 50), none, (.mov (.t 0))⟩, ⟨(some 51), none, (.mov (.t 7))⟩, ⟨(some 52), none, (.ixs (.t 50) (.t 51) 3)⟩, ⟨(some 53), none, (.lde (.t 52) (some 3))⟩, ⟨(some 8), none, (.alc [(.val (.int .i64 0)), (.val (.int .i64 0)), (.lit 1 [])])⟩, ⟨none, none, (.st (.t 8) 3 (.t 53))⟩]) (.seq (.ops [⟨(some 54), none, (.mov (.t 6))⟩, ⟨(some 55), none, (.len (.t 54))⟩, ⟨(some 56), none, (.fad (.t 8) 1)⟩, ⟨none, none, (.st (.t 56) 1 (.t 55))⟩]) (.ops [⟨(some 57), none, (.mov (.t 6))⟩, ⟨(some 58), none, (.ld (.t 8) (some 3))⟩, ⟨(some 59), none, (.mkl 36 3 [(.t 58)] false)⟩, ⟨(some 60), none, (.app (.t 57) (.t 59) 36 3 40 true)⟩, ⟨(some 6), none, (.mov (.t 60))⟩]))) .skip))) (.ops [⟨(some 33), none, (.mov (.t 7))⟩, ⟨(some 34), none, (.bin .add (.t 33) (.c (.int .i64 1)))⟩, ⟨(some 7), none, (.mov (.t 34))⟩])))
def F_w06_LogFinds : F := ⟨(.seq (.ops [⟨(some 2), none, (.mov (.c (.bool false)))⟩]) (.seq (.ops [⟨(some 20), none, (.call 42 [])⟩, ⟨(some 3), none, (.mov (.t 20))⟩]) (.seq (.seq (.ops [⟨(some 21), none, (.mov (.t 0))⟩, ⟨(some 22), none, (.call 47 [(.t 21)])⟩, ⟨(some 23), none, (.un .not (.t 22))⟩]) (.cond (.t 23) (.seq (.ops [⟨(some 24), none, (.mov (.t 3))⟩, ⟨(some 2), none, (.mov (.t 24))⟩]) .ret) .skip)) (.seq (.ops [⟨(some 26), none, (.call 18 [(.c (.int .i64 12)), (.c (.int .i64 300))])⟩, ⟨(some 25), none, (.mov (.t 26))⟩, ⟨(some 27), none, (.ext (.t 25) 0)⟩, ⟨(some 28), none, (.ext (.t 25) 1)⟩, ⟨(some 4), none, (.alc [(.val (.int .i64 0)), (.lit 4 []), (.val (.int .i64 0)), (.val (.bool false)), (.val (.int .i64 0))])⟩, ⟨none, none, (.st (.t 4) 5 (.t 27))⟩, ⟨(some 5), none, (.mov (.t 28))⟩]) (.seq (.ops [⟨(some 6), none, (.nil 36 3 true)⟩]) (.seq (.seq (.ops [⟨(some 7), none, (.mov (.c (.int .i64 0)))⟩]) (.block 0 (.loop F_w06_LogFinds_L1))) (.seq (.ops [⟨(some 62), none, (.ld (.t 4) (some 5))⟩, ⟨(some 63), none, (.mov (.t 6))⟩, ⟨(some 64), none, (.call 19 [(.t 62), (.t 63)])⟩, ⟨(some 61), none, (.mov (.t 64))⟩, ⟨(some 65), none, (.ext (.t 61) 0)⟩, ⟨(some 66), none, (.ext (.t 61) 1)⟩, ⟨(some 67), none, (.ext (.t 61) 2)⟩, ⟨(some 9), none, (.alc [(.val (.int .i64 0)), (.lit 4 []), (.val (.int .i64 0)), (.val (.bool false)), (.val (.int .i64 0))])⟩, ⟨none, none, (.st (.t 9) 5 (.t 65))⟩, ⟨(some 10), none, (.mov (.t 66))⟩, ⟨(some 11), none, (.mov (.t 67))⟩]) (.seq (.ops [⟨(some 69), none, (.ld (.t 9) (some 5))⟩, ⟨(some 70), none, (.call 51 [(.t 69)])⟩, ⟨(some 68), none, (.mov (.t 70))⟩, ⟨(some 71), none, (.ext (.t 68) 0)⟩, ⟨(some 72), none, (.ext (.t 68) 1)⟩, ⟨(some 12), none, (.mov (.t 71))⟩, ⟨(some 13), none, (.mov (.t 72))⟩]) (.seq (.seq (.ops [⟨(some 73), none, (.mov (.t 5))⟩, ⟨(some 74), none, (.bin .neq (.t 73) (.c (.int .i64 0)))⟩, ⟨(some 75), none, (.mov (.t 74))⟩, ⟨(some 76), (some (75, false)), (.mov (.t 11))⟩, ⟨(some 77), (some (75, false)), (.bin .neq (.t 76) (.c (.int .i64 0)))⟩, ⟨(some 78), none, (.pick (.t 75) (.c (.bool true)) (.t 77))⟩, ⟨(some 79), none, (.mov (.t 78))⟩, ⟨(some 80), (some (79, false)), (.mov (.t 13))⟩, ⟨(some 81), (some (79, false)), (.bin .neq (.t 80) (.c (.int .i64 0)))⟩, ⟨(some 82), none, (.pick (.t 79) (.c (.bool true)) (.t 81))⟩, ⟨(some 83), none, (.mov (.t 82))⟩, ⟨(some 84), (some (83, false)), (.mov (.t 10))⟩, ⟨(some 85), (some (83, false)), (.len (.t 84))⟩, ⟨(some 86), (some (83, false)), (.mov (.t 6))⟩, ⟨(some 87), (some (83, false)), (.len (.t 86))⟩, ⟨(some 88), (some (83, false)), (.bin .neq (.t 85) (.t 87))⟩, ⟨(some 89), none, (.pick (.t 83) (.c (.bool true)) (.t 88))⟩, ⟨(some 90), none, (.mov (.t 89))⟩, ⟨(some 91), (some (90, false)), (.mov (.t 12))⟩, ⟨(some 92), (some (90, false)), (.len (.t 91))⟩, ⟨(some 93), (some (90, false)), (.mov (.t 6))⟩, ⟨(some 94), (some (90, false)), (.len (.t 93))⟩, ⟨(some 95), (some (90, false)), (.bin .neq (.t 92) (.t 94))⟩, ⟨(some 96), none, (.pick (.t 90) (.c (.bool true)) (.t 95))⟩]) (.cond (.t 96) (.seq (.ops [⟨(some 97), none, (.mov (.t 3))⟩, ⟨(some 98), none, (.mov (.t 97))⟩, ⟨(some 99), (some (98, true)), (.mov (.t 11))⟩, ⟨(some 100), (some (98, true)), (.bin .eql (.t 99) (.c (.int .i64 60)))⟩, ⟨(some 101), none, (.pick (.t 98) (.t 100) (.c (.bool false)))⟩, ⟨(some 2), none, (.mov (.t 101))⟩]) .ret) .skip)) (.seq (.seq (.ops [⟨(some 14), none, (.mov (.c (.int .i64 0)))⟩]) (.block 2 (.loop F_w06_LogFinds_L0))) (.seq (.ops [⟨(some 178), none, (.mov (.t 3))⟩, ⟨(some 179), none, (.mov (.t 178))⟩, ⟨(some 180), (some (179, true)), (.mov (.t 12))⟩, ⟨(some 181), (some (179, true)), (.call 43 [(.t 180), (.c (.int .i64 0))])⟩, ⟨(some 182), (some (179, true)), (.mov (.t 6))⟩, ⟨(some 183), (some (179, true)), (.call 30 [(.t 181), (.t 182)])⟩, ⟨(some 184), none, (.pick (.t 179) (.t 183) (.c (.bool false)))⟩, ⟨(some 2), none, (.mov (.t 184))⟩]) .ret))))))))))), 185, [(.tmp 2)]⟩
theorem F_w06_LogFinds_ok : compF Try.prog (fun d => !([59].contains d)) 15 = some F_w06_LogFinds := by kernel_rfl
@[simp] abbrev n_w06_bodies : FuncId := 47
def F_w06_bodies_L0 : C := (.seq (.seq (.ops [⟨(some 7), none, (.mov (.t 3))⟩, ⟨(some 8), none, (.mov (.t 0))⟩, ⟨(some 9), none, (.len (.t 8))⟩, ⟨(some 10), none, (.bin .lss (.t 7) (.t 9))⟩]) (.cond (.t 10) .skip (.exit 0))) (.seq (.block 1 (.seq (.ops [⟨(some 13), none, (.mov (.t 0))⟩, ⟨(some 14), none, (.mov (.t 3))⟩, ⟨(some 15), none, (.ixs (.t 13) (.t 14) 3)⟩, ⟨(some 16), none, (.fad (.t 15) 2)⟩, ⟨(some 17), none, (.lde (.t 16) none)⟩, ⟨(some 18), none, (.len (.t 17))⟩, ⟨(some 19), none, (.bin .gtr (.t 18) (.c (.int .i64 300)))⟩]) (.cond (.t 19) (.seq (.ops [⟨(some 2), none, (.mov (.c (.bool false)))⟩]) .ret) .skip))) (.ops [⟨(some 11), none, (.mov (.t 3))⟩, ⟨(some 12), none, (.bin .add (.t 11) (.c (.int .i64 1)))⟩, ⟨(some 3), none, (.mov (.t 12))⟩])))
def F_w06_bodies : F := ⟨(.seq (.ops [⟨(some 2), none, (.mov (.c (.bool false)))⟩]) (.seq (.seq (.ops [⟨(some 4), none, (.mov (.t 0))⟩, ⟨(some 5), none, (.len (.t 4))⟩, ⟨(some 6), none, (.bin .gtr (.t 5) (.c (.int .i64 20)))⟩]) (.cond (.t 6) (.seq (.ops [⟨(some 2), none, (.mov (.c (.bool false)))⟩]) .ret) .skip)) (.seq (.seq (.ops [⟨(some 3), none, (.mov (.c (.int .i64 0)))⟩]) (.block 0 (.loop F_w06_bodies_L0))) (.seq (.ops [⟨(some 2), none, (.mov (.c (.bool true)))⟩]) .ret)))), 20, [(.tmp 2)]⟩
theorem F_w06_bodies_ok : compF Try.prog (fun _ => true) 47 = some F_w06_bodies := by kernel_rfl
@[simp] abbrev n_dev_Read : FuncId := 54
def F_dev_Read : F := ⟨(.seq (.ops [⟨(some 4), none, (.box (.t 0))⟩, ⟨(some 8), none, (.nil 5 1 true)⟩, ⟨(some 9), none, (.mov (.c (.int .i64 0)))⟩]) (.seq (.seq (.ops [⟨(some 11), none, (.ld (.t 4) (some 5))⟩, ⟨(some 12), none, (.call 46 [(.t 11)])⟩, ⟨(some 13), none, (.un .not (.t 12))⟩, ⟨(some 14), none, (.mov (.t 13))⟩, ⟨(some 15), (some (14, false)), (.mov (.t 1))⟩, ⟨(some 16), (some (14, false)), (.bin .lss (.t 15) (.c (.int .i64 0)))⟩, ⟨(some 17), none, (.pick (.t 14) (.c (.bool true)) (.t 16))⟩, ⟨(some 18), none, (.mov (.t 17))⟩, ⟨(some 19), (some (18, false)), (.mov (.t 1))⟩, ⟨(some 20), (some (18, false)), (.fad (.t 4) 1)⟩, ⟨(some 21), (some (18, false)), (.ld (.t 20) none)⟩, ⟨(some 22), (some (18, false)), (.len (.t 21))⟩, ⟨(some 23), (some (18, false)), (.bin .geq (.t 19) (.t 22))⟩, ⟨(some 24), none, (.pick (.t 18) (.c (.bool true)) (.t 23))⟩]) (.cond (.t 24) (.seq (.ops [⟨(some 8), none, (.nil 5 1 true)⟩, ⟨(some 9), none, (.mov (.c (.int .i64 1)))⟩]) .ret) .skip)) (.seq (.ops [⟨(some 25), none, (.fad (.t 4) 1)⟩, ⟨(some 26), none, (.ld (.t 25) none)⟩, ⟨(some 27), none, (.mov (.t 1))⟩, ⟨(some 28), none, (.ixs (.t 26) (.t 27) 4)⟩, ⟨(some 29), none, (.fad (.t 28) 2)⟩, ⟨(some 30), none, (.lde (.t 29) none)⟩, ⟨(some 10), none, (.mov (.t 30))⟩]) (.seq (.seq (.ops [⟨(some 31), none, (.mov (.t 2))⟩, ⟨(some 32), none, (.bin .lss (.t 31) (.c (.int .i64 0)))⟩, ⟨(some 33), none, (.mov (.t 32))⟩, ⟨(some 34), (some (33, false)), (.mov (.t 3))⟩, ⟨(some 35), (some (33, false)), (.bin .lss (.t 34) (.c (.int .i64 0)))⟩, ⟨(some 36), none, (.pick (.t 33) (.c (.bool true)) (.t 35))⟩, ⟨(some 37), none, (.mov (.t 36))⟩, ⟨(some 38), (some (37, false)), (.mov (.t 2))⟩, ⟨(some 39), (some (37, false)), (.mov (.t 10))⟩, ⟨(some 40), (some (37, false)), (.len (.t 39))⟩, ⟨(some 41), (some (37, false)), (.bin .gtr (.t 38) (.t 40))⟩, ⟨(some 42), none, (.pick (.t 37) (.c (.bool true)) (.t 41))⟩, ⟨(some 43), none, (.mov (.t 42))⟩, ⟨(some 44), (some (43, false)), (.mov (.t 3))⟩, ⟨(some 45), (some (43, false)), (.mov (.t 10))⟩, ⟨(some 46), (some (43, false)), (.len (.t 45))⟩, ⟨(some 47), (some (43, false)), (.mov (.t 2))⟩, ⟨(some 48), (some (43, false)), (.bin .sub (.t 46) (.t 47))⟩, ⟨(some 49), (some (43, false)), (.bin .gtr (.t 44) (.t 48))⟩, ⟨(some 50), none, (.pick (.t 43) (.c (.bool true)) (.t 49))⟩]) (.cond (.t 50) (.seq (.ops [⟨(some 8), none, (.nil 5 1 true)⟩, ⟨(some 9), none, (.mov (.c (.int .i64 1)))⟩]) .ret) .skip)) (.seq (.ops [⟨(some 51), none, (.mkl 5 1 [] true)⟩, ⟨(some 52), none, (.mov (.t 10))⟩, ⟨(some 53), none, (.mov (.t 2))⟩, ⟨(some 54), none, (.mov (.t 2))⟩, ⟨(some 55), none, (.mov (.t 3))⟩, ⟨(some 56), none, (.bin .add (.t 54) (.t 55))⟩, ⟨(some 57), none, (.slc (.t 52) (some (.t 53)) (some (.t 56)) none 1)⟩, ⟨(some 58), none, (.app (.t 51) (.t 57) 5 1 1 true)⟩, ⟨(some 8), none, (.mov (.t 58))⟩, ⟨(some 9), none, (.mov (.c (.int .i64 0)))⟩]) .ret))))), 59, [(.tmp 8), (.tmp 9)]⟩
theorem F_dev_Read_ok : compF Try.prog (fun _ => true) 54 = some F_dev_Read := by kernel_rfl
end Go.Av

namespace Go.Av
open Enc (enc dec)
open Cel (cs dc)
open Go.Proofs Pl

theorem allF_len (zs : List Zo) (i : Nat) (hi : i < zs.length) (n : Nat) : allF (zs.drop i) n = scanF zs[i] n ++ allF (zs.drop (i + 1)) (n + 1) := by
  rw [List.drop_eq_getElem_cons hi, allF]
@[simp] def sp_rScan (b : List UInt8) : Option (V × List Tip) := if b.length ≤ 2 ^ 38 then some (.tuple [enc (scanR b), enc (scanP b)], []) else none
theorem sp_rScan_ok : EOk Try.prog n_record_Scan (sp1 sp_rScan) := sp1_ok fun b r h => by
  simp only [sp_rScan] at h
  split at h <;> cases h
  exact c_rScan b (by assumption)
def AllO (sp : List V → Mem → Option (V × Mem)) : Orc := ((Orc.nil.add n_dev_Check (sp1 sp_dCheck)).add n_record_Scan (sp1 sp_rScan)).addL n_slices_SortStableFunc_Found sp
theorem AllO_ok {sp : List V → Mem → Option (V × Mem)} (h : EOkL Try.prog n_slices_SortStableFunc_Found sp) : OOk Try.prog (AllO sp) := ((OOk.nil.add sp_dCheck_ok).add sp_rScan_ok).addL h
def AllI (zs : List Zo) (k : Nat) (s : Nat → V) (m : Mem) : Prop :=
  ∃ (i : Nat) (acc : List Fnd) (bx : List (List V)), i + k = zs.length ∧ allF zs 0 = acc ++ allF (zs.drop i) i ∧ (∀ c ∈ bx, isObj c = false) ∧ s 14 = .lit 4 (zs.map cs) ∧ s 15 = .val (.int .i64 zs.length) ∧ s 16 = .val (.int .i64 i) ∧ s 2 = .row 0 5 (acc.map cs) ∧ m = ⟨bx, [(57, 5, acc.length)]⟩
def AllJ (zs : List Zo) (i : Nat) (z : Zo) (acc : List Fnd) (k : Nat) (s : Nat → V) (m : Mem) : Prop :=
  ∃ (j : Nat) (bx : List (List V)), j + k = (scanF z i).length ∧ (∀ c ∈ bx, isObj c = false) ∧ s 14 = .lit 4 (zs.map cs) ∧ s 15 = .val (.int .i64 zs.length) ∧ s 16 = .val (.int .i64 i) ∧ s 4 = .val (.int .i64 i) ∧ s 27 = .lit 3 ((scanR z.data).map cs) ∧ s 7 = .lit 1 ((scanP z.data).map cs) ∧ s 28 = .val (.int .i64 (scanF z i).length) ∧ s 29 = .val (.int .i64 j) ∧
    s 2 = .row 0 5 ((acc ++ (scanF z i).take j).map cs) ∧ m = ⟨bx, [(57, 5, acc.length + j)]⟩
theorem scanF_get {z : Zo} {i j : Nat} {f : Fnd} (h : (scanF z i)[j]? = some f) : (scanR z.data)[j]? = some f.rcd ∧ (scanP z.data)[j]? = some f.at_ ∧ f.zone = i := by
  unfold scanF at h
  rw [List.getElem?_map, Option.map_eq_some_iff] at h
  obtain ⟨p, hp, rfl⟩ := h
  simp [scanR, scanP, hp]
theorem melt_fnd : ∀ l : List Fnd, (l.map cs).flatten.all meltV = true
  | [] => rfl
  | f :: l => by
    have h1 : ∀ b : List UInt8, (b.map cs).all byteE = true := fun b => by
      rw [List.all_map, List.all_eq_true]
      intro x _
      rfl
    rw [List.map_cons, List.flatten_cons, List.all_append, melt_fnd l, Bool.and_true]
    simp [meltV, h1]
theorem c_lAll (d : Dv) (hok : dOk d = true) (hn : (allF d.zones 0).length ≤ 20) : Pure Try.prog n_log_All [enc d] (.tuple [enc (sortF (allF d.zones 0)), enc (0 : Int)]) [] := by
  obtain ⟨sp, hsp, e⟩ := sp_sort_ex
  obtain ⟨hs, hne⟩ := dOk_sm hok
  have hsn := hs.n
  have hzl := (dOk_iff.1 hok).2.2.1
  by_cases h0 : allF d.zones 0 = []
  · refine Pure.ofC (AllO_ok sp_sort0_ok) hm F_log_All_ok (by simp [F_log_All]) (by simp [V.res, V.res1]) ?_
    simp only [Nat.reducePow] at hsn
    simp [F_log_All, AllO, decX_map, hsn, hok, h0, sortF]
    refine wp_loop (AllI d.zones) d.zones.length (IW.of ⟨0, [], _, by omega, by simp, ?_, by simp, by simp, by simp, by simp, rfl⟩) fun k s m ⟨i, acc, bx, hik, hall, hbx, s14, s15, s16, s2, hm⟩ => ?_
    · simp
    subst hm
    rw [h0] at hall
    obtain ⟨rfl, hal2⟩ := List.append_eq_nil_iff.1 hall.symm
    clear hall
    by_cases hi : i < d.zones.length
    · have hg : d.zones[i]? = some d.zones[i] := List.getElem?_eq_getElem hi
      have w1 := IntWalk.i64_in ((i : Int) + 1) (by omega)
      have hzd := hs.z _ (List.getElem_mem hi)
      have hzd2 : d.zones[i].data.length ≤ 274877906944 := by omega
      rw [allF_len _ _ hi] at hal2
      obtain ⟨e1, e2⟩ := List.append_eq_nil_iff.1 hal2
      have hR : scanR d.zones[i].data = [] := by
        have : (scanR d.zones[i].data).length = (scanF d.zones[i] i).length := by simp [scanR, scanF]
        rw [e1] at this
        exact List.eq_nil_of_length_eq_zero this
      simp [F_log_All_L1, AllO, s14, s15, s16, s2, hi, hg, hzd2, decX_cs, hR]
      refine wp_loop (AllJ d.zones i d.zones[i] []) 0 (IW.of ⟨0, _, by simp [e1], ?_, by simpa using s14, by simpa using s15, by simpa using s16, by simp, by simp [hR], by simp, by simp [e1], by simp, by simpa using s2, by simp; rfl⟩) fun k' s m ⟨j, bx, hjk, hbx, s14, s15, s16, s4, s27, s7, s28, s29, s2, hm⟩ => ?_
      · intro c hc
        rcases List.mem_append.1 hc with hc | hc
        · exact hbx c hc
        · simp only [List.mem_singleton] at hc
          subst hc
          rfl
      subst hm
      rw [e1] at hjk s28 s2
      have ej : j = 0 := by simp at hjk; omega
      subst ej
      simp [F_log_All_L0, s14, s15, s16, s28, s29, s2, w1]
      exact ⟨k - 1, by omega, IW.of (show AllI d.zones _ _ _ from ⟨i + 1, [], bx, by omega, by rw [h0, e2]; rfl, hbx, by simpa using s14, by simpa using s15, by simp, by simpa using s2, by simp⟩)⟩
    · simp [F_log_All_L1, s14, s15, s16, s2, hi, sp_sort0]
  · refine Pure.ofM (AllO_ok hsp) hm F_log_All_ok (by simp [F_log_All]) (0 + 1 + 1 + 1) 2 ?_ (by simp [clean_cs]) (by simp [V.res, V.res1])
    simp only [Nat.reducePow] at hsn
    simp [F_log_All, wpK, AllO, decX_map, hsn, hok]
    refine wp_loop (AllI d.zones) d.zones.length (IW.of ⟨0, [], _, by omega, by simp, ?_, by simp, by simp, by simp, by simp, rfl⟩) fun k s m ⟨i, acc, bx, hik, hall, hbx, s14, s15, s16, s2, hm⟩ => ?_
    · simp
    subst hm
    by_cases hi : i < d.zones.length
    · have hg : d.zones[i]? = some d.zones[i] := List.getElem?_eq_getElem hi
      have w1 := IntWalk.i64_in ((i : Int) + 1) (by omega)
      have hzd := hs.z _ (List.getElem_mem hi)
      have hzd2 : d.zones[i].data.length ≤ 274877906944 := by omega
      rw [allF_len _ _ hi] at hall
      have hlen : acc.length + (scanF d.zones[i] i).length ≤ 20 := by
        rw [hall] at hn
        simp only [List.length_append] at hn
        omega
      have hR : (scanR d.zones[i].data).length = (scanF d.zones[i] i).length := by simp [scanR, scanF]
      simp [F_log_All_L1, AllO, s14, s15, s16, s2, hi, hg, hzd2, decX_cs, hR]
      refine wp_loop (AllJ d.zones i d.zones[i] acc) (scanF d.zones[i] i).length (IW.of ⟨0, _, by omega, ?_, by simpa using s14, by simpa using s15, by simpa using s16, by simp, by simp, by simp, by simp, by simp, by simpa using s2, by simp; rfl⟩) fun k' s m ⟨j, bx, hjk, hbx, s14, s15, s16, s4, s27, s7, s28, s29, s2, hm⟩ => ?_
      · intro c hc
        rcases List.mem_append.1 hc with hc | hc
        · exact hbx c hc
        · simp only [List.mem_singleton] at hc
          subst hc
          rfl
      subst hm
      by_cases hj : j < (scanF d.zones[i] i).length
      · have hf : (scanF d.zones[i] i)[j]? = some (scanF d.zones[i] i)[j] := List.getElem?_eq_getElem hj
        obtain ⟨q1, q2, q3⟩ := scanF_get hf
        have hsn2 : (scanF d.zones[i] i).take (j + 1) = (scanF d.zones[i] i).take j ++ [(scanF d.zones[i] i)[j]] := by rw [List.take_add_one, hf]; rfl
        generalize hF : (scanF d.zones[i] i)[j] = f at q1 q2 q3 hsn2
        have w2 := IntWalk.i64_in ((j : Int) + 1) (by omega)
        have hjl : j ≤ (scanF d.zones[i] i).length := by omega
        simp [F_log_All_L0, AllO, s14, s15, s16, s4, s27, s7, s28, s29, s2, hj, q1, q2, w2, hjl]
        refine ⟨by omega, k' - 1, by omega, IW.of (show AllJ d.zones i d.zones[i] acc _ _ _ from ⟨j + 1, _, by omega, fun c hc => ?_, by simpa using s14, by simpa using s15, by simpa using s16, by simpa using s4, by simpa using s27, by simpa using s7, by simpa using s28, by simp, ?_, rfl⟩)⟩
        · rcases List.mem_append.1 hc with hc | hc
          · exact hbx c hc
          · simp only [List.mem_singleton] at hc
            subst hc
            rfl
        · rw [hsn2]
          simp [q3]
      · have e2 : (scanF d.zones[i] i).take j = scanF d.zones[i] i := List.take_of_length_le (by omega)
        have e3 : j = (scanF d.zones[i] i).length := by omega
        rw [e2] at s2
        simp [F_log_All_L0, s14, s15, s16, s28, s29, s2, hj, w1]
        exact ⟨k - 1, by omega, IW.of (show AllI d.zones _ _ _ from ⟨i + 1, acc ++ scanF d.zones[i] i, bx, by omega, by rw [hall, List.append_assoc], hbx, by simpa using s14, by simpa using s15, by simp, by simpa using s2, by rw [e3]; simp⟩)⟩
    · rw [List.drop_eq_nil_of_le (by omega)] at hall
      simp only [allF, List.append_nil] at hall
      simp [F_log_All_L1, s14, s15, s16, s2, hi]
      have hacc : acc ≠ [] := by rw [← hall]; exact h0
      have hal : 1 ≤ acc.length := List.length_pos_iff.2 hacc
      rw [hall] at hn
      have eM := e bx.length acc (meltM ⟨bx, [(57, 5, acc.length)]⟩ 0 57 5 (acc.map cs)) (by simp [meltM, fC]) hal hn
      have eS : ∀ s : Nat → V, meltS 2 5 (acc.map cs) ⟨bx, [(57, 5, acc.length)]⟩ s 2 = .ref (.sli 0 5 acc.length) bx.length := fun s => by simp [meltS]
      have hun : ∀ t, unref1 0 ⟨(List.replicate bx.length deadC ++ [(acc.map cs).flatten]).set bx.length (fC (sortF acc)), t⟩ (.ref (.sli 0 5 acc.length) bx.length) = .lit 5 ((sortF acc).map cs) := fun t => by
        have h1 : ((List.replicate bx.length deadC ++ [(acc.map cs).flatten]).set bx.length (fC (sortF acc)))[bx.length]? = some (fC (sortF acc)) := List.getElem?_set_self (by simp)
        simp only [unref1, h1]
        have h2 := sortF_length acc
        rw [if_pos ⟨Nat.zero_le _, fC_obj _, by rw [fC_length, h2]; omega⟩, List.drop_zero]
        have h3 : ∀ l : List Fnd, (fC l).map V.top1 = fC l := by
          intro l
          induction l with
          | nil => rfl
          | cons z l ih =>
            rw [fC_cons, List.map_append, ih]
            rfl
        rw [h3, ← h2, chunk_fC]
      have hv : ∀ (k : Nat) (m : Mem) (x : Value), unref1 k m (.val x) = .val x := fun _ _ _ => rfl
      refine ⟨0, 57, 5, acc.map cs, ⟨by simpa using s2, by simp, by simpa using hacc, melt_fnd acc, hbx⟩, ?_⟩
      have hE := hall
      simp [meltM, srtM] at eM hun
      simp [eS, eM, srtM, meltM, unref, unrefA, hun, hv, hE, clean_cs]
end Go.Av

namespace Go.Av.Pl
/-- Two records, and a device that holds them. -/
def awB : List UInt8 := List.replicate 40 0
def awA : Rec := ⟨1, 5, awB⟩
def awC : Rec := ⟨1, 6, awB⟩
def awX1 : Dv := ⟨100, [⟨1, 0, recB awA, 0⟩, ⟨0, 0, [], 0⟩], -1, false, 1⟩
def awX : Dv := ⟨100, [⟨1, 0, recB awA, 0⟩, ⟨1, 0, recB awC, 0⟩], -1, false, 2⟩
theorem awA_ok : recOk awA = true := by decide
theorem awC_ok : recOk awC = true := by decide
theorem awA_len : (recB awA).length = 60 := recB_length awA_ok
theorem awC_len : (recB awC).length = 60 := recB_length awC_ok
theorem aw_new : dNew 2 100 = ⟨100, [⟨0, 0, [], 0⟩, ⟨0, 0, [], 0⟩], -1, false, 0⟩ := by decide
theorem aw_nearest0 : FloatKind.f64.nearest (0 : Int) = 0 := by decide
theorem aw_nearest1 : FloatKind.f64.nearest (1 : Int) = 4607182418800017408 := by decide
theorem awA_ne : ¬ recB awA = [] := recB_ne awA_ok
theorem awC_ne : ¬ recB awC = [] := recB_ne awC_ok
theorem aw1 : one1 (dNew 2 100) awA = some (awX1, ⟨0, 0⟩, 0) := by
  rw [aw_new]
  simp [one1, awA_ok, awX1, placeE, placeN, placeL, dOk, zOk, awA_len, awC_len, dFirst, zIdx, zRoom, zTakes, stN, oneD, oneC, cmdL, dDoR, dDoZ, dCmd, zApp, zFill, dDid, dLeft, aw_nearest0, aw_nearest1, List.findIdx?_cons, List.findIdx?_nil, awA_ne, awC_ne]
theorem aw2 : one1 awX1 awC = some (awX, ⟨4607182418800017408, 0⟩, 0) := by
  simp [one1, awC_ok, awX1, awX, placeE, placeN, placeL, dOk, zOk, awA_len, awC_len, dFirst, zIdx, zRoom, zTakes, stN, oneD, oneC, cmdL, dDoR, dDoZ, dCmd, zApp, zFill, dDid, dLeft, aw_nearest0, aw_nearest1, List.findIdx?_cons, List.findIdx?_nil, awA_ne, awC_ne]
theorem aw3 : one1 awX awA = some (awX, ⟨0, 0⟩, 60) := by
  simp [one1, awA_ok, awX, placeE, placeN, placeL, dOk, zOk, awA_len, awC_len, dFirst, zIdx, zRoom, zTakes, stN, oneD, oneC, cmdL, dDoR, dDoZ, dCmd, zApp, zFill, dDid, dLeft, aw_nearest0, aw_nearest1, List.findIdx?_cons, List.findIdx?_nil, awA_ne, awC_ne]
theorem aw12 : appR (dNew 2 100) [awA, awC] = some (awX, [⟨0, 0⟩, ⟨4607182418800017408, 0⟩], 0) := by
  simp [appR, aw1, aw2]
theorem aw4 : appR awX [awA] = some (awX, [], 60) := by
  simp [appR, aw3]
theorem aw_place : placeN awX 40 = 0 ∧ placeL awX 40 = [] ∧ placeE awX 40 = 0 ∧ placeE awX 101 = 1 := by
  simp [awX, placeE, placeN, placeL, dOk, zOk, awA_len, awC_len, dFirst, zIdx, zRoom, zTakes, stN, oneD, oneC, cmdL, dDoR, dDoZ, dCmd, zApp, zFill, dDid, dLeft, aw_nearest0, aw_nearest1, List.findIdx?_cons, List.findIdx?_nil, awA_ne, awC_ne]
theorem aw_dOk : dOk awX = true := by simp [awX, placeE, placeN, placeL, dOk, zOk, awA_len, awC_len, dFirst, zIdx, zRoom, zTakes, stN, oneD, oneC, cmdL, dDoR, dDoZ, dCmd, zApp, zFill, dDid, dLeft, aw_nearest0, aw_nearest1, List.findIdx?_cons, List.findIdx?_nil, awA_ne, awC_ne]
theorem aw_emp : stN 0 awX.zones = 0 ∧ stN 0 (dNew 2 100).zones = 2 := by
  rw [aw_new]
  simp [awX, stN]
theorem scan_one {r : Rec} (h : recOk r = true) (a b c : Int) (i : Nat) : scanF ⟨a, b, recB r, c⟩ i = [⟨r, i, 0⟩] := by
  have := scan_back [r] ((recB r).length + 1) 0 (by simpa using h) (by have := recB_length h; simp; omega)
  rw [List.flatMap_cons, List.flatMap_nil, List.append_nil] at this
  rw [scanF, this]
  rfl
theorem aw_allF : allF awX.zones 0 = [⟨awA, 0, 0⟩, ⟨awC, 1, 0⟩] := by
  simp only [awX, allF, scan_one awA_ok, scan_one awC_ok]
  rfl
theorem aw_sort : sortF [⟨awA, 0, 0⟩, ⟨awC, 1, 0⟩] = [⟨awA, 0, 0⟩, ⟨awC, 1, 0⟩] := rfl
theorem aw_run : runF [⟨awA, 0, 0⟩, ⟨awC, 1, 0⟩] 3 5 = [awA, awC] ∧ runF [⟨awA, 0, 0⟩, ⟨awC, 1, 0⟩] 3 4 = [] := by
  simp [runF, lookF, awA, awC]
end Go.Av.Pl
namespace Go.Av
open Enc (enc dec)
open Cel (cs dc)
open Go.Proofs Pl

@[simp] def sp_lAll (d : Dv) : Option (V × List Tip) := if dOk d = true ∧ (allF d.zones 0).length ≤ 20 then some (.tuple [enc (sortF (allF d.zones 0)), enc (0 : Int)], []) else none
theorem sp_lAll_ok : EOk Try.prog n_log_All (sp1 sp_lAll) := sp1_ok fun d r h => by
  simp only [sp_lAll] at h
  split at h <;> cases h
  rename_i hc
  exact c_lAll d hc.1 hc.2
@[simp] def sp_lRun (l : List Fnd) (n : Int) : Option (V × List Tip) := if l.length ≤ 2 ^ 30 ∧ -(2 ^ 63) ≤ n ∧ (n ≤ 2 ^ 62 ∨ l.all (fun f => decide (f.rcd.seq ≤ 2 ^ 62)) = true) then some (enc (runF l (l.length + 1) n), []) else none
theorem sp_lRun_ok : EOk Try.prog n_log_Run (sp2 sp_lRun) := sp2_ok fun l n r h => by
  simp only [sp_lRun] at h
  split at h <;> cases h
  rename_i hc
  exact c_lRun l n hc.1 ⟨hc.2.1, hc.2.2.imp id fun h f hf => by simpa using List.all_eq_true.1 h f hf⟩
def DawO : Orc := (((((Orc.nil.add n_dev_New (sp2 sp_dNew)).add n_log_Append (sp2 sp_lApp)).add n_log_All (sp1 sp_lAll)).add n_log_Place (sp2 sp_lPlace)).add n_log_Run (sp2 sp_lRun)).add n_log_Empty (sp1 sp_lEmpty)
theorem DawO_ok : OOk Try.prog DawO := (((((OOk.nil.add sp_dNew_ok).add sp_lApp_ok).add sp_lAll_ok).add sp_lPlace_ok).add sp_lRun_ok).add sp_lEmpty_ok
set_option maxRecDepth 8000 in
theorem c_w06awake : Pure Try.prog n_w06_awake [] (.val (.bool true)) [] := by
  refine Pure.ofC DawO_ok hm F_w06_awake_ok (by simp [F_w06_awake]) rfl ?_
  have h12 := aw12
  have h4 := aw4
  simp only [awA, awC, awB, List.replicate] at h12 h4
  have z1 : (dNew 2 100).zones.length = 2 := by rw [aw_new]; rfl
  have z2 : ∀ z ∈ (dNew 2 100).zones, z.data.length ≤ 1073741824 := by rw [aw_new]; simp
  have z3 : ¬ (dNew 2 100).zones = [] := by rw [aw_new]; simp
  have x1 : awX.zones.length = 2 := rfl
  have x2 : ∀ z ∈ awX.zones, z.data.length ≤ 1073741824 := by simp [awX, awA_len, awC_len]
  have x3 : ¬ awX.zones = [] := by simp [awX]
  have hN : dNewE 2 100 = 0 := by decide
  have a1 := aw_allF
  have a2 := aw_sort
  obtain ⟨p1, p2, p3, p4⟩ := aw_place
  obtain ⟨e1, e2⟩ := aw_emp
  obtain ⟨r1, r2⟩ := aw_run
  have f0 : Op.floatEq .f64 0 0 = true := by decide
  have f1 : Op.floatEq .f64 4607182418800017408 4607182418800017408 = true := by decide
  have q6 : awC.seq = 6 := rfl
  simp [F_w06_awake, DawO, z1, z3, h12]
  simp [x1, x3, h4, p1, p2, p3, p4, e1, e2, aw_dOk, a1, a2, r1, r2, f0, f1, q6]
  refine ⟨z2, x2, ?_⟩
  rw [show (⟨awC.kind, 6, awC.body⟩ : Rec) = awC from rfl, r1, r2, z1]
  decide
end Go.Av

namespace Go.Av
open Enc (enc dec)
open Cel (cs dc)
open Go.Proofs Pl

theorem near_all : ((List.range 301).all fun n => decide ((FloatKind.f64.decode (FloatKind.f64.nearest ((n : Nat) : Int))).toInt .zero = some ((n : Nat) : Int)) && Op.floatEq .f64 (FloatKind.f64.nearest ((n : Nat) : Int)) (FloatKind.f64.nearest ((n : Nat) : Int))) = true := by decide +kernel
theorem near_get {n : Nat} (h : n ≤ 300) : (FloatKind.f64.decode (FloatKind.f64.nearest ((n : Nat) : Int))).toInt .zero = some ((n : Nat) : Int) ∧ Op.floatEq .f64 (FloatKind.f64.nearest ((n : Nat) : Int)) (FloatKind.f64.nearest ((n : Nat) : Int)) = true := by
  have := List.all_eq_true.1 near_all n (List.mem_range.2 (by omega))
  simp only [Bool.and_eq_true, decide_eq_true_eq] at this
  exact this
theorem near_int {n : Nat} (h : n ≤ 300) : convV .i64 (.val (.float .f64 (FloatKind.f64.nearest ((n : Nat) : Int)))) = some (.val (.int .i64 ((n : Nat) : Int))) := by
  have e1 : IntKind.i64.min = -9223372036854775808 := by decide
  have e2 : IntKind.i64.max = 9223372036854775807 := by decide
  simp only [convV, (near_get h).1]
  rw [if_pos ⟨by rw [e1]; omega, by rw [e2]; omega⟩]
theorem near_eq {n : Nat} (h : n ≤ 300) : Op.floatEq .f64 (FloatKind.f64.nearest ((n : Nat) : Int)) (FloatKind.f64.nearest ((n : Nat) : Int)) = true := (near_get h).2
def BodI (l : List Rec) (k : Nat) (s : Nat → V) (m : Mem) : Prop :=
  ∃ i : Nat, i + k = l.length ∧ s 0 = .lit 3 (l.map cs) ∧ s 3 = .val (.int .i64 i) ∧ ∀ (j : Nat) (hj : j < l.length), j < i → l[j].body.length ≤ 300
def bodB (l : List Rec) : Bool := decide (l.length ≤ 20) && l.all fun r => decide (r.body.length ≤ 300)
theorem c_bodies (l : List Rec) : Pure Try.prog n_w06_bodies [enc l] (.val (.bool (bodB l))) [] := by
  refine Pure.ofC OOk.nil hm F_w06_bodies_ok (by simp [F_w06_bodies]) rfl ?_
  by_cases h1 : 20 < (l.length : Int)
  · have e : bodB l = false := by
      have : ¬ l.length ≤ 20 := by omega
      simp [bodB, this]
    simp [F_w06_bodies, h1, e]
  · have e : bodB l = l.all fun r => decide (r.body.length ≤ 300) := by
      have : l.length ≤ 20 := by omega
      simp [bodB, this]
    rw [e]
    simp [F_w06_bodies, h1]
    refine wp_loop (BodI l) l.length (IW.of ⟨0, by omega, by simp, by simp, fun j hj h => by omega⟩) fun k s m ⟨i, hik, s0, s3, hall⟩ => ?_
    cases k with
    | zero =>
      have hi : i = l.length := by omega
      subst hi
      have : (l.all fun r => decide (r.body.length ≤ 300)) = true := List.all_eq_true.2 fun r hr => by
        obtain ⟨j, hj, rfl⟩ := List.getElem_of_mem hr
        simpa using hall j hj hj
      simp only [this]
      simp [F_w06_bodies_L0, s0, s3]
      try exact fun x hx => by simpa using List.all_eq_true.1 this x hx
    | succ k =>
      have hi : i < l.length := by omega
      have w1 := IntWalk.i64_in ((i : Int) + 1) (by omega)
      by_cases h3 : 300 < (l[i].body.length : Int)
      · have : (l.all fun r => decide (r.body.length ≤ 300)) = false := List.all_eq_false.2 ⟨l[i], List.getElem_mem hi, by simp; omega⟩
        simp only [this]
        simp [F_w06_bodies_L0, s0, s3, hi, h3]
      · simp [F_w06_bodies_L0, s0, s3, hi, h3, w1]
        exact ⟨k, by omega, IW.of ⟨i + 1, by omega, by simp [s0], by simp, fun j hj h => by
          by_cases e : j = i
          · subst e; omega
          · exact hall j hj (by omega)⟩⟩
def sp_dRead (d : Dv) (n a b : Int) : Option (V × List Tip) := match d.zones[n.toNat]? with
  | some z => if dOk d = true ∧ 0 ≤ n ∧ 0 ≤ a ∧ 0 < b ∧ a + b ≤ z.data.length then some (.tuple [enc ((z.data.drop a.toNat).take b.toNat), enc (0 : Int)], []) else none
  | none => none
def DrdO : Orc := Orc.nil.add n_dev_Check (sp1 sp_dCheck)
theorem DrdO_ok : OOk Try.prog DrdO := OOk.nil.add sp_dCheck_ok
theorem c_dRead (d : Dv) (n a b : Nat) (hok : dOk d = true) (hn : n < d.zones.length) (hb : 0 < b) (hab : a + b ≤ d.zones[n].data.length) :
    Pure Try.prog n_dev_Read [enc d, enc (n : Int), enc (a : Int), enc (b : Int)] (.tuple [enc ((d.zones[n].data.drop a).take b), enc (0 : Int)]) [] := by
  refine Pure.ofC DrdO_ok hm F_dev_Read_ok (by simp [F_dev_Read]) (by simp [V.res, V.res1]) ?_
  obtain ⟨hs, hne⟩ := dOk_sm hok
  have hl := hs.n
  have hz := hs.z _ (List.getElem_mem hn)
  have c1 : d.zones.length ≤ 1099511627776 := hl
  have c2 : ¬ d.zones.length ≤ n := by omega
  have w1 := IntWalk.i64_in ((d.zones[n].data.length : Int) - a) (by omega)
  have w2 := IntWalk.i64_in ((a : Int) + b) (by omega)
  have c3 : ¬ d.zones[n].data.length < a := by omega
  have c4 : ¬ (d.zones[n].data.length : Int) - a < b := by omega
  simp [F_dev_Read, DrdO, c1, hok, c2, hn, c3, c4, w1, w2]
  refine ⟨⟨by omega, by omega⟩, by omega, ?_⟩
  rw [show ((a : Int) + b).toNat = a + b by omega, List.drop_take, Nat.add_sub_cancel_left]
end Go.Av

namespace Go.Av
open Enc (enc dec)
open Cel (cs dc)
open Go.Proofs Pl

def sp_dFl (d : Dv) (c : Rec) : Option (V × List Tip) := if c.kind = 5 ∧ dOk d = true ∧ d.down = false ∧ d.left = -1 ∧ (0 ≤ d.done ∧ d.done ≤ 2 ^ 62) then some (.tuple [enc (dFl d), .val (.int .i64 0)], []) else none
theorem sp_dFl_ok : EOk Try.prog n_dev_Do (sp2 sp_dFl) := sp2_ok fun d c r h => by
  unfold sp_dFl at h
  split at h <;> cases h
  rename_i hc
  obtain ⟨h1, h2, h3, h4, h5⟩ := hc
  obtain ⟨k, q, b⟩ := c
  simp only at h1
  subst h1
  exact c_dFlush q b d h2 h3 (by rw [h4]; decide) (by rw [h4]; decide) h5
@[simp] def sp_dCr (d : Dv) (l : List Int) : Option (V × List Tip) := if dOk d = true then some (enc (dCr d l), []) else none
theorem sp_dCr_ok : EOk Try.prog n_dev_Crash (sp2 sp_dCr) := sp2_ok fun d l r h => by
  simp only [sp_dCr] at h
  split at h <;> cases h
  exact c_dCrash d l (by assumption)
theorem sp_bodc_ok : EOk Try.prog n_w06_bodies (sp1 fun l : List Rec => some (.val (.bool (bodB l)), [])) := sp1_ok fun l r h => by cases h; exact c_bodies l
theorem sp_awake6c_ok : EOk Try.prog n_w06_awake (sp0 sp_true) := sp0_ok fun r h => by cases h; exact c_w06awake
def DlcO : Orc := (((((((Orc.nil.add n_w06_awake (sp0 sp_true)).add n_w06_bodies (sp1 fun l : List Rec => some (.val (.bool (bodB l)), []))).add n_dev_New (sp2 sp_dNew)).add n_dev_Do (sp2 sp_dFl)).add n_log_Append (sp2 sp_lApp)).add n_log_All (sp1 sp_lAll)).add n_dev_Crash (sp2 sp_dCr)).add n_r05_Same (sp2 sp_rsame)
theorem DlcO_ok : OOk Try.prog DlcO := (((((((OOk.nil.add sp_awake6c_ok).add sp_bodc_ok).add sp_dNew_ok).add sp_dFl_ok).add sp_lApp_ok).add sp_lAll_ok).add sp_dCr_ok).add sp_rsame_ok
def LcI (a b : List Rec) (keeps : List Int) (k : Nat) (s : Nat → V) (m : Mem) : Prop :=
  ∃ (i : Nat) (d : Dv) (L : List Rec) (P : List (Nat × Nat)) (F : List (List Rec)) (r : List (List V)), i + k = a.length + b.length ∧ CInv a.length i d L P F ∧ s 0 = .lit 3 (a.map cs) ∧ s 1 = .lit 3 (b.map cs) ∧ s 2 = .lit 1 (keeps.map cs) ∧ s 7 = .val (.bool true) ∧ s 8 = .ptr 0 0 ∧ s 10 = .val (.int .i64 i) ∧ s 11 = .val (.int .i64 i) ∧ m.boxes = cs d :: r
def LcJ (a : List Rec) (L : List Fnd) (p : Fnd → Bool) (k : Nat) (s : Nat → V) (m : Mem) : Prop :=
  ∃ (i : Nat), i + k = L.length ∧ s 0 = .lit 3 (a.map cs) ∧ s 7 = .val (.bool true) ∧ s 20 = .lit 5 (L.map cs) ∧ s 21 = .val (.int .i64 0) ∧ s 22 = .lit 5 ((L.filter p).map cs) ∧ s 23 = .val (.int .i64 0) ∧ s 24 = .val (.int .i64 ((L.take i).filter p).length) ∧ s 25 = .val (.int .i64 i)
theorem c_LogCrash (a b : List Rec) (keeps : List Int) : Pure Try.prog n_w06_LogCrash [enc a, enc b, enc keeps] (.val (.bool true)) [] := by
  refine Pure.ofC DlcO_ok hm F_w06_LogCrash_ok (by simp [F_w06_LogCrash]) rfl ?_
  cases hba : bodB a with
  | false => simp [F_w06_LogCrash, DlcO, hba]
  | true =>
  cases hbb : bodB b with
  | false => simp [F_w06_LogCrash, DlcO, hba, hbb]
  | true =>
  by_cases h1 : 10 < (a.length : Int)
  · simp [F_w06_LogCrash, DlcO, hba, hbb, h1]
  by_cases h2 : 10 < (b.length : Int)
  · simp [F_w06_LogCrash, DlcO, hba, hbb, h1, h2]
  by_cases h3 : 100 < (keeps.length : Int)
  · simp [F_w06_LogCrash, DlcO, hba, hbb, h1, h2, h3]
  simp [F_w06_LogCrash, DlcO, hba, hbb, h1, h2, h3]
  refine wp_loop (LcI a b keeps) (a.length + b.length) (IW.of ⟨0, dNew 12 300, [], [], List.replicate 12 [], [], by omega, c_new _, by simp, by simp, by simp, by simp, by simp, by simp, by simp, by simp⟩) fun k s m ⟨i, d, L, P, F, r, hik, hC, s0, s1, s2, s7, s8, s10, s11, hm⟩ => ?_
  obtain ⟨bx, tips⟩ := m
  simp only at hm
  subst hm
  have w0 := IntWalk.i64_in ((a.length : Int) + b.length) (by omega)
  cases k with
  | zero =>
    have hi : i = a.length + b.length := by omega
    have hnl : ¬ (i : Int) < a.length + b.length := by omega
    have hCg := hC.good
    have hdd : 0 ≤ d.done ∧ d.done ≤ 4611686018427387904 := by have := hCg.dd; omega
    have hFl : sp_dFl d ⟨5, 0, []⟩ = some (.tuple [enc (dFl d), .val (.int .i64 0)], []) := by
      unfold sp_dFl
      rw [if_pos ⟨rfl, hCg.ok, hCg.dn, hCg.lf, hdd⟩]
    simp at hFl
    obtain ⟨e1, e2, e3, e4, p, e5, e6, e7⟩ := c_end hC (by omega) keeps
    have c1 : (allF (stepD a.length i d).zones 0).length ≤ 20 := by omega
    have c2 : (allF (dCr (stepD a.length i d) keeps).zones 0).length ≤ 20 := by omega
    have hLl : (fndL L P).length = i := by rw [fndL_len, hC.ll, hC.pl]; omega
    have hLs : ∀ (x : Nat) (hx : x < (fndL L P).length), (fndL L P)[x].rcd.seq = (x : Int) := fun x hx => by
      have h1 := fndL_get (l := L) (P := P) (i := x) (by rw [hC.ll]; omega) (by rw [hC.pl]; omega)
      rw [List.getElem?_eq_getElem hx] at h1
      rw [Option.some.inj h1]
      exact hC.seq x (by rw [hC.ll]; omega)
    generalize fndL L P = Q at *
    have key : ∀ s m (Z : Exit → (Nat → V) → Mem → Prop), LcJ a Q p Q.length s m → (∀ s m, s 7 = .val (.bool true) → s 21 = .val (.int .i64 0) → s 22 = .lit 5 ((Q.filter p).map cs) → s 23 = .val (.int .i64 0) → s 24 = .val (.int .i64 (Q.filter p).length) → Z (.exit 2) s m) → wp Try.prog noY DlcO F_w06_LogCrash_L0.loop s m Z := by
      intro s m Z h hZ
      refine wp_loop (LcJ a Q p) Q.length (IW.of h) fun k s m ⟨x, hxk, s0, s7, s20, s21, s22, s23, s24, s25⟩ => ?_
      cases k with
      | zero =>
        have hx : x = Q.length := by omega
        subst hx
        rw [List.take_length] at s24
        simp [F_w06_LogCrash_L0, DlcO, s0, s7, s20, s21, s22, s23, s24, s25]
        exact hZ _ _ (by simp [s7]) (by simp [s21]) (by simp [s22]) (by simp [s23]) (by simp [s24])
      | succ k =>
        have hx : x < Q.length := by omega
        have hF := filter_at (p := p) hx
        have hS := filter_take_succ (p := p) hx
        have hQ20 : Q.length ≤ 20 := by omega
        have w1 := IntWalk.i64_in ((x : Int) + 1) (by omega)
        have hnl := List.length_filter_le p (Q.take x)
        rw [List.length_take] at hnl
        have hS' : ∀ n : Nat, n = ((Q.take (x + 1)).filter p).length → (n : Int) = ((Q.take (x + 1)).filter p).length := fun n h => by rw [h]
        by_cases hp : p Q[x] = true
        · rw [if_pos hp] at hF hS
          have hT : (Q.filter p)[((Q.take x).filter p).length]? = some Q[x] := by rw [hF]; simp
          have hlt : ((Q.take x).filter p).length < (Q.filter p).length := (List.getElem?_eq_some_iff.1 hT).1
          generalize ((Q.take x).filter p).length = n at *
          have w2 := IntWalk.i64_in ((n : Int) + 1) (by omega)
          have hT' : (Q.filter p)[n]'hlt = Q[x] := by rw [List.getElem?_eq_getElem hlt] at hT; exact Option.some.inj hT
          simp [F_w06_LogCrash_L0, DlcO, s0, s7, s20, s21, s22, s23, s24, s25, hx, w1, w2, hT', hlt]
          refine ⟨k, by omega, IW.of ⟨x + 1, by omega, by simp [s0], by simp [s7], by simp [s20], by simp [s21], by simp [s22], by simp [s23], ?_, by simp⟩⟩
          rw [hS]
          simp
        · rw [if_neg hp] at hF hS
          have hxa : ¬ x < a.length := fun h => hp (e7 x _ h (List.getElem?_eq_getElem hx))
          have hT : ∀ g, (Q.filter p)[((Q.take x).filter p).length]? = some g → ¬ Q[x].rcd = g.rcd := fun g hg => by
            rw [hF, List.getElem?_append_right (Nat.le_refl _), Nat.sub_self] at hg
            have := List.mem_of_getElem? hg
            have := (List.mem_filter.1 this).1
            obtain ⟨y, hy, rfl⟩ := List.getElem_of_mem this
            rw [List.getElem_drop]
            intro e
            have e1 := hLs x hx
            rw [e, hLs (x + 1 + y) (by rw [List.length_drop] at hy; omega)] at e1
            omega
          by_cases hlt : ((Q.take x).filter p).length < (Q.filter p).length
          · generalize ((Q.take x).filter p).length = n at *
            have hne := hT _ (List.getElem?_eq_getElem hlt)
            simp [F_w06_LogCrash_L0, DlcO, s0, s7, s20, s21, s22, s23, s24, s25, hx, w1, hne, hlt, hxa]
            refine ⟨k, by omega, IW.of ⟨x + 1, by omega, by simp [s0], by simp [s7], by simp [s20], by simp [s21], by simp [s22], by simp [s23], ?_, by simp⟩⟩
            rw [hS]
            simp [s24]
          · generalize ((Q.take x).filter p).length = n at *
            simp [F_w06_LogCrash_L0, DlcO, s0, s7, s20, s21, s22, s23, s24, s25, hx, w1, hlt, hxa]
            refine ⟨k, by omega, IW.of ⟨x + 1, by omega, by simp [s0], by simp [s7], by simp [s20], by simp [s21], by simp [s22], by simp [s23], ?_, by simp⟩⟩
            rw [hS]
            simp [s24]
    by_cases hb : b.length = 0
    · have hb' : b = [] := List.length_eq_zero_iff.1 hb
      subst hb'
      have hia : i = a.length := by simpa using hi
      subst hia
      have hst : stepD a.length a.length d = dFl d := by unfold stepD; rw [if_pos rfl]
      rw [hst] at e1 e2 c1 e4 e5 c2
      have w3 := IntWalk.i64_in (a.length : Int) (by omega)
      simp [F_w06_LogCrash_L1, DlcO, s0, s1, s2, s7, s8, s10, s11, w3, hFl, e1, e2, c1, e4, e5, c2]
      refine key _ _ _ ⟨0, by omega, by simp [s0], by simp [s7], by simp, by simp, by simp, by simp, by simp, by simp⟩ fun s m h7 h21 h22 h23 h24 => ?_
      simp [h7, h21, h22, h23, h24]
    · have hne : ¬ i = a.length := by omega
      have hst : stepD a.length i d = d := by unfold stepD; rw [if_neg hne]
      rw [hst] at e1 e2 c1 e4 e5 c2
      have hbI : ¬ (b.length : Int) = 0 := by omega
      have hb2 : ¬ b = [] := fun e => hb (by rw [e]; rfl)
      simp [F_w06_LogCrash_L1, DlcO, s0, s1, s2, s7, s8, s10, s11, w0, hnl, hb2, hbI, e1, e2, c1, e4, e5, c2]
      refine key _ _ _ ⟨0, by omega, by simp [s0], by simp [s7], by simp, by simp, by simp, by simp, by simp, by simp⟩ fun s m h7 h21 h22 h23 h24 => ?_
      simp [h7, h21, h22, h23, h24]
  | succ k =>
    have hil : (i : Int) < a.length + b.length := by omega
    have w1 := IntWalk.i64_in ((i : Int) + 1) (by omega)
    have hgood := step_good hC
    obtain ⟨g1, g2, g3⟩ := dg_app hgood.1
    simp at g1 g2
    have hCg := hC.good
    have hdd : 0 ≤ d.done ∧ d.done ≤ 4611686018427387904 := by have := hCg.dd; omega
    have hFl : sp_dFl d ⟨5, 0, []⟩ = some (.tuple [enc (dFl d), .val (.int .i64 0)], []) := by
      unfold sp_dFl
      rw [if_pos ⟨rfl, hCg.ok, hCg.dn, hCg.lf, hdd⟩]
    simp at hFl
    by_cases hia : i < a.length
    · have hne : ¬ i = a.length := by omega
      have hneI : ¬ (i : Int) = a.length := by omega
      have hst : stepD a.length i d = d := by unfold stepD; rw [if_neg hne]
      rw [hst] at g1 g2 g3
      obtain ⟨q, hq, hq60, hql⟩ : ∃ q : Nat, min (a[i].body.length : Int) 60 = q ∧ q ≤ 60 ∧ (q : Int) ≤ a[i].body.length := ⟨min a[i].body.length 60, by omega, by omega, by omega⟩
      rcases cstep hC (by omega) (b := a[i].body.take q) (by simp; omega) with ⟨d', ha⟩ | ⟨d', p, F', ha, hC'⟩
      · rw [hst] at ha
        simp [F_w06_LogCrash_L1, DlcO, s0, s1, s2, s7, s8, s10, s11, hil, w0, w1, hia, hne, hneI, decX_map, hq, hql, g1, g3, ha]
        exact g2
      · rw [hst] at ha
        simp [F_w06_LogCrash_L1, DlcO, s0, s1, s2, s7, s8, s10, s11, hil, w0, w1, hia, hne, hneI, decX_map, hq, hql, g1, g3, ha]
        refine ⟨g2, k, by omega, IW.of ⟨i + 1, d', _, _, _, _, by omega, hC', by simp [s0], by simp [s1], by simp [s2], by simp [s7], by simp [s8], by simp, by simp, by simp; rfl⟩⟩
    · by_cases hne : i = a.length
      · subst hne
        have hst : stepD a.length a.length d = dFl d := by unfold stepD; rw [if_pos rfl]
        rw [hst] at g1 g2 g3
        have hb0 : 0 < b.length := by omega
        have w2 : IntKind.i64.wrap 0 = 0 := by decide
        obtain ⟨q, hq, hq60, hql⟩ : ∃ q : Nat, min (b[0].body.length : Int) 60 = q ∧ q ≤ 60 ∧ (q : Int) ≤ b[0].body.length := ⟨min b[0].body.length 60, by omega, by omega, by omega⟩
        rcases cstep hC (by omega) (b := b[0].body.take q) (by simp; omega) with ⟨d', ha⟩ | ⟨d', p, F', ha, hC'⟩
        · rw [hst] at ha
          simp [F_w06_LogCrash_L1, DlcO, s0, s1, s2, s7, s8, s10, s11, hil, w0, w1, w2, hb0, decX_map, hq, hql, g1, g3, ha, hFl]
          exact g2
        · rw [hst] at ha
          simp [F_w06_LogCrash_L1, DlcO, s0, s1, s2, s7, s8, s10, s11, hil, w0, w1, w2, hb0, decX_map, hq, hql, g1, g3, ha, hFl]
          refine ⟨g2, k, by omega, IW.of ⟨a.length + 1, d', _, _, _, _, by omega, hC', by simp [s0], by simp [s1], by simp [s2], by simp [s7], by simp [s8], by simp, by simp, by simp; rfl⟩⟩
      · have hneI : ¬ (i : Int) = a.length := by omega
        have hst : stepD a.length i d = d := by unfold stepD; rw [if_neg hne]
        rw [hst] at g1 g2 g3
        have hb0 : i - a.length < b.length := by omega
        have w2 : IntKind.i64.wrap ((i : Int) - a.length) = ((i - a.length : Nat) : Int) := by rw [IntWalk.i64_in _ (by omega)]; omega
        obtain ⟨q, hq, hq60, hql⟩ : ∃ q : Nat, min (b[i - a.length].body.length : Int) 60 = q ∧ q ≤ 60 ∧ (q : Int) ≤ b[i - a.length].body.length := ⟨min b[i - a.length].body.length 60, by omega, by omega, by omega⟩
        rcases cstep hC (by omega) (b := b[i - a.length].body.take q) (by simp; omega) with ⟨d', ha⟩ | ⟨d', p, F', ha, hC'⟩
        · rw [hst] at ha
          simp [F_w06_LogCrash_L1, DlcO, s0, s1, s2, s7, s8, s10, s11, hil, w0, w1, w2, hia, hne, hneI, hb0, decX_map, hq, hql, g1, g3, ha]
          exact g2
        · rw [hst] at ha
          simp [F_w06_LogCrash_L1, DlcO, s0, s1, s2, s7, s8, s10, s11, hil, w0, w1, w2, hia, hne, hneI, hb0, decX_map, hq, hql, g1, g3, ha]
          refine ⟨g2, k, by omega, IW.of ⟨i + 1, d', _, _, _, _, by omega, hC', by simp [s0], by simp [s1], by simp [s2], by simp [s7], by simp [s8], by simp, by simp, by simp; rfl⟩⟩
end Go.Av

namespace Go.Av
open Enc (enc dec)
open Cel (cs dc)
open Go.RowKit Go.ChangeShapes Go.WideShapes Go.Deep

/-- The old memory. -/
def oldI (w : World) (b _o : Nat) : Prop := b < w.heap.size
def oldM (w : World) : Mp := ⟨[], [], oldI w, fun _ => none⟩
/-- Cells of a type are those of a plain value that has a property. -/
def Opn (P : Program) (t : TypeId) {α : Type} (c : α → List V) (Wf : α → Prop) : Prop :=
  (∀ a, (c a).length = P.cellsOf t) ∧ ∀ {H : Type} (en : TypeId × Value → H) (w : World) (base : Nat) (spare : Nat → Bool) (held : Bool) (fuel : Nat) (cs : List Value) (x : DataW H × List MemPlace),
    DataW.trod en P w base spare held fuel t cs = some x → ∃ a : α, Wf a ∧ RepL (oldM w) w (c a) cs ∧ ∀ v ∈ cs, v.oneCell' = true
theorem block_lt {w : World} {a : Addr} {v : Value} (h : w.cell? a = some v) : a.block < w.heap.size ∧ a.spot = none := by
  unfold World.cell? at h
  split at h
  · rename_i c e f hh
    refine ⟨(Array.getElem?_eq_some_iff.1 hh).1, ?_⟩
    cases hs : a.spot with
    | none => rfl
    | some s => simp [hs] at h
  · cases h
theorem Opn.int {P : Program} {t : TypeId} (ht : P.underlying t = some (.int .i64)) (hc : P.cellsOf t = 1) : Opn P t (fun n : Int => [enc n]) fun n => (Lit.int .i64 n).wf = true := by
  refine ⟨fun _ => hc.symm, fun en w base spare held fuel cs x h => ?_⟩
  obtain ⟨n, rfl, _, hw⟩ := DataW.trod_int ht h
  exact ⟨n, hw, ⟨_, _, rfl, ⟨rfl, rfl⟩, rfl⟩, by simp [Value.oneCell']⟩
theorem Opn.u8 {P : Program} {t : TypeId} (ht : P.underlying t = some (.int .u8)) (hc : P.cellsOf t = 1) : Opn P t (fun b : UInt8 => Cel.cs b) fun _ => True := by
  refine ⟨fun _ => hc.symm, fun en w base spare held fuel cs x h => ?_⟩
  obtain ⟨n, rfl, _, hw⟩ := DataW.trod_int ht h
  have hw := bounds_u8 hw
  have e : ((UInt8.ofNat n.toNat).toNat : Int) = n := by
    rw [UInt8.toNat_ofNat']
    omega
  refine ⟨UInt8.ofNat n.toNat, trivial, ⟨_, _, rfl, ⟨?_, rfl⟩, rfl⟩, by simp [Value.oneCell']⟩
  rw [e]
theorem cellsRep {w : World} {base n : Nat} {a : Addr} {cs : List Value} {l : List V} (h : w.cells? base a n = some cs) (hr : RepL (oldM w) w l cs) (ho : ∀ v ∈ cs, v.oneCell' = true) : RepC (oldM w) w l a.block a.off ∧ (l = [] ∨ a.spot = none) := by
  obtain ⟨_, hlen, hget⟩ := World.cells?_some h
  have hll := hr.length
  refine ⟨RepC.of_get fun i v hi => ?_, ?_⟩
  · obtain ⟨x, hx, hrep⟩ := hr.get hi
    have hin : i < n := by
      have := (List.getElem?_eq_some_iff.1 hx).1
      omega
    have hc := hget i hin
    rw [hx] at hc
    have hb := block_lt hc
    have e : a.add i = ⟨a.block, a.off + i, none⟩ := by
      unfold Addr.add at hb ⊢
      split
      · rename_i h0
        rw [if_pos h0] at hb
        subst h0
        cases a
        simp at hb ⊢
        exact hb.2
      · rfl
    rw [e] at hc hb
    exact ⟨x, hb.1, hc, ho x (List.mem_of_getElem? hx), hrep⟩
  · cases l with
    | nil => exact .inl rfl
    | cons v l =>
      right
      obtain ⟨x, hx, _⟩ := hr.get (i := 0) (v := v) rfl
      have hin : 0 < n := by
        have := (List.getElem?_eq_some_iff.1 hx).1
        omega
      have hc := hget 0 hin
      rw [hx] at hc
      exact (block_lt (a := a) (by simpa [Addr.add] using hc)).2
theorem Opn.slice {P : Program} {t e : TypeId} {α : Type} [Cel α] {Wf : α → Prop} (ht : P.underlying t = some (.slice e)) (hc : P.cellsOf t = 1) (hz : 0 < Cel.sz α) (he : Opn P e (Cel.cs (α := α)) Wf) : Opn P t (fun l : List α => [enc l]) fun l => l.length ≤ maxLen ∧ ∀ a ∈ l, Wf a := by
  refine ⟨fun _ => hc.symm, fun en w base spare held fuel cs x h => ?_⟩
  rcases open_slice ht h with ⟨rfl, rfl⟩ | ⟨a, len, cap, m, n, D, Pl, rfl, hb, hl, hm, hmm, rfl, hx⟩
  · exact ⟨[], ⟨Nat.zero_le _, by simp⟩, ⟨_, _, rfl, .inl ⟨rfl, rfl⟩, rfl⟩, by simp [Value.oneCell']⟩
  · have hlm : len ≤ m := by rw [hmm]; split <;> omega
    have key : ∀ j, j ≤ len → ∃ l : List α, l.length = j ∧ (∀ b ∈ l, Wf b) ∧ RepX (oldM w) w (l.map Cel.cs) a.block (a.off + (len - j) * Cel.sz α) ∧ (l = [] ∨ len - j ≠ 0 ∨ a.spot = none) := by
      intro j
      induction j with
      | zero => intro _; exact ⟨[], rfl, by simp, trivial, .inl rfl⟩
      | succ j ih =>
        intro hj
        obtain ⟨l, h1, h2, h3, _⟩ := ih (by omega)
        obtain ⟨cs', h4, h5⟩ := hx (len - (j + 1)) (by omega)
        obtain ⟨b, h6, h7, h8⟩ := he.2 en w base spare held n cs' _ h5
        obtain ⟨h9, h10⟩ := cellsRep h4 h7 h8
        have eo : (a.add ((len - (j + 1)) * P.cellsOf e)).block = a.block ∧ (a.add ((len - (j + 1)) * P.cellsOf e)).off = a.off + (len - (j + 1)) * Cel.sz α := by
          rw [← he.1 b, Cel.len]
          unfold Addr.add
          split
          · rename_i h0; exact ⟨rfl, by rw [h0]; rfl⟩
          · exact ⟨rfl, rfl⟩
        rw [eo.1, eo.2] at h9
        refine ⟨b :: l, by simp [h1], ?_, ⟨h9, ?_⟩, ?_⟩
        · intro c hc
          rcases List.mem_cons.1 hc with rfl | hc
          · exact h6
          · exact h2 c hc
        · have e2 : a.off + (len - (j + 1)) * Cel.sz α + (Cel.cs b).length = a.off + (len - j) * Cel.sz α := by
            rw [Cel.len]
            have : len - j = (len - (j + 1)) + 1 := by omega
            rw [this, Nat.add_mul]
            omega
          rw [e2]
          exact h3
        · by_cases h0 : len - (j + 1) = 0
          · right; right
            rw [h0, Nat.zero_mul] at h10
            rcases h10 with h10 | h10
            · have := congrArg List.length h10
              rw [Cel.len] at this
              simp at this
              omega
            · simpa [Addr.add] using h10
          · exact .inr (.inl h0)
    obtain ⟨l, h1, h2, h3, h4⟩ := key len (Nat.le_refl _)
    refine ⟨l, ⟨by omega, h2⟩, ⟨_, _, rfl, .inr ⟨a, cap, by simp [h1], by simp; omega, ?_, ?_, ?_⟩, rfl⟩, by simp [Value.oneCell']⟩
    · rcases h4 with h4 | h4 | h4
      · left; simp [h4]
      · omega
      · exact .inr h4
    · intro c hc
      obtain ⟨b, _, rfl⟩ := List.mem_map.1 hc
      exact Cel.len b
    · simpa using h3
/-- A struct's fields, of a cell each. -/
theorem open_flat {P : Program} {t : TypeId} {fs : Array Field} {H : Type} {en : TypeId × Value → H} {w : World} {base : Nat} {spare : Nat → Bool} {held : Bool} {fuel : Nat} {cs : List Value} {x : DataW H × List MemPlace}
    (ht : P.underlying t = some (.struct fs)) (hof : ∀ (i : Nat) (f : Field), fs[i]? = some f → f.offset = i ∧ P.cellsOf f.type = 1) (hc : P.cellsOf t = fs.size) (h : DataW.trod en P w base spare held fuel t cs = some x) :
    cs.length = fs.size ∧ ∃ n, ∀ (i : Nat) (f : Field), fs[i]? = some f → ∃ v y, cs[i]? = some v ∧ DataW.trod en P w base spare held n f.type [v] = some y := by
  obtain ⟨xs, n, _, _, hl, hlen, hf⟩ := DataW.trod_struct ht h
  refine ⟨by rw [hl, hc], n, fun i f hi => ?_⟩
  have h1 := hf i f hi
  obtain ⟨h2, h3⟩ := hof i f hi
  have hi2 := (Array.getElem?_eq_some_iff.1 hi).1
  rw [h2, h3, List.getElem?_eq_getElem (by omega)] at h1
  have h4 : i < cs.length := by omega
  refine ⟨cs[i], xs[i], List.getElem?_eq_getElem h4, ?_⟩
  rw [← h1, List.drop_eq_getElem_cons h4]
  rfl
/-- A value of more cells than one. -/
theorem Opn.agg {P : Program} {t : TypeId} {α : Type} {c : α → List V} {Wf : α → Prop} (h : Opn P t c Wf) {H : Type} {en : TypeId × Value → H} {w : World} {base : Nat} {spare : Nat → Bool} {held : Bool} {v : Value} {d : DataW H} {ps : List MemPlace} {xs : Array Value} (hv : v = .agg xs) (hd : DataW.Trod en P w base spare held t v d ps) :
    ∃ a : α, Wf a ∧ Rep (oldM w) w (.agg (c a)) v := by
  obtain ⟨fuel, hd⟩ := hd
  subst hv
  obtain ⟨a, h1, h2, _⟩ := h.2 en w base spare held fuel _ _ hd
  exact ⟨a, h1, xs, rfl, h2⟩
/-- A value of one cell. -/
theorem Opn.one {P : Program} {t : TypeId} {α : Type} {e : α → V} {Wf : α → Prop} (h : Opn P t (fun a => [e a]) Wf) {H : Type} {en : TypeId × Value → H} {w : World} {base : Nat} {spare : Nat → Bool} {held : Bool} {v : Value} {d : DataW H} {ps : List MemPlace} (hv : v.oneCell' = true) (hd : DataW.Trod en P w base spare held t v d ps) :
    ∃ a : α, Wf a ∧ Rep (oldM w) w (e a) v := by
  obtain ⟨fuel, hd⟩ := hd
  have hc : v.cells.toList = [v] := by cases v <;> first | rfl | simp [Value.oneCell'] at hv
  rw [hc] at hd
  obtain ⟨a, h1, ⟨x, r, h2, h3, h4⟩, _⟩ := h.2 en w base spare held fuel _ _ hd
  cases h2
  exact ⟨a, h1, h3⟩
/-- Behind the call: the answer is plain, what was there reads as it did. -/
theorem post_of_below {H : Type} {en : TypeId × Value → H} {P : Program} {f : Func} {s : ChangeSpec} {apart fresh handsOn again : Bool} {W W' : World} {args : Array Value} {v : Value} {ds gs : List (DataW H)} {before pa pv : List MemPlace}
    (hW : DataW.Whole en P f.params.toList s.vars apart W args.toList ds gs before) (hb : Below W.heap.size W W')
    (hres : ∀ (b : Nat) (sp : Nat → Bool) (hd : Bool), DataW.TrodAll en P W' b sp hd f.resultTypes.toList (v.resultList f.resultTypes.size) (s.fn H (ds ++ gs)).results [])
    (hargs : ∀ sp : Nat → Bool, (∀ p ∈ before, sp p.block = true) → DataW.TrodAll en P W' 0 sp true f.params.toList args.toList (s.fn H (ds ++ gs)).args pa)
    (hvars : ∀ sp : Nat → Bool, (∀ p ∈ before, sp p.block = true) → DataW.TrodVars en P W' sp s.vars (s.fn H (ds ++ gs)).vars pv)
    (hps : before = pa ++ pv)
    (hok : ∀ (j : Nat) (t : TypeId) (r : Value), f.resultTypes[j]? = some t → (v.resultList f.resultTypes.size)[j]? = some r → Value.okWide P W' .any 0 t r) :
    s.post en P f apart fresh handsOn again W args v W' := by
  have hold : ∀ p ∈ before, (fun b => decide (b < W.heap.size)) p.block = true := fun p hp => by simpa using hW.lt p hp
  refine ⟨ds, gs, before, [], pa, pv, hW, hres _ _ _, hargs _ hold, hvars _ hold, World.keptBut_mono (fun p hp => ⟨hp, ?_⟩) (hb.frame (· ∈ before)), fun _ => ?_⟩
  · rw [hps, List.mem_append] at hp
    exact Or.inr hp
  · have hlt := hW.lt
    obtain ⟨_, _, _, _, _, hz, hn⟩ := hW
    refine ⟨hok, _, _, ([] ++ pa) ++ pv, ⟨[] ++ pa, pv, trodAll_append (hargs _ (fun _ _ => rfl)) (hres _ _ _), hvars _ (fun _ _ => rfl), rfl, ?_, ?_⟩, ?_⟩
    · intro b off hp
      have hp' : MemPlace.cell b off ∈ before := by rw [hps]; simpa using hp
      rw [hb.frozen (p := ⟨b, off, none⟩) (hlt _ hp')]
      exact hz b off hp'
    · intro ha
      have := hn ha
      rw [hps] at this
      simpa using this
    · intro p hp _
      rw [hps]
      simpa using hp
/-- What was handed in reads as it did. -/
theorem TrodAll_stays {H : Type} {en : TypeId × Value → H} {P : Program} {W W' : World} (hl : laidOutB P = true) {sp : Nat → Bool} (hb : Below W.heap.size W W') : ∀ {ts : List TypeId} {vs : List Value} {ds : List (DataW H)} {ps : List MemPlace},
    (∀ t ∈ ts, P.readableRec t = true ∧ t < P.types.size) → DataW.TrodAll en P W 0 (fun _ => true) true ts vs ds ps → (∀ x ∈ ps, x.block < W.heap.size) → (∀ x ∈ ps, sp x.block = true) → DataW.TrodAll en P W' 0 sp true ts vs ds ps
  | [], _, _, _, _, h, _, _ => by
    obtain ⟨rfl, rfl, rfl⟩ := trodAll_nil h
    exact trodAll_mk0
  | t :: ts, _, _, _, ht, h, hlt, hsp => by
    obtain ⟨v, vs1, d, ds1, a, b, rfl, rfl, rfl, h1, h2⟩ := trodAll_cons h
    obtain ⟨k1, k2⟩ := ht t (List.mem_cons_self ..)
    exact ⟨a, b, WideElems.Trod_stays hl k1 k2 h1 (fun x hx => hb.same (hlt x (List.mem_append_left _ hx))) (fun x hx => hsp x (List.mem_append_left _ hx)),
      TrodAll_stays hl hb (fun t ht' => ht t (List.mem_cons_of_mem _ ht')) h2 (fun x hx => hlt x (List.mem_append_right _ hx)) (fun x hx => hsp x (List.mem_append_right _ hx)), rfl⟩
end Go.Av

namespace Go.Av
open Enc (enc dec)
open Cel (cs dc)
open Go.Proofs Pl Go.ChangeShapes Go.WideShapes Go.RowKit

theorem Opn.weak {P : Program} {t : TypeId} {α : Type} {c : α → List V} {W W' : α → Prop} (h : Opn P t c W) (hw : ∀ a, W a → W' a) : Opn P t c W' :=
  ⟨h.1, fun en w base spare held fuel cs x hd => by
    obtain ⟨a, h1, h2⟩ := h.2 en w base spare held fuel cs x hd
    exact ⟨a, hw a h1, h2⟩⟩
theorem opn_int : Opn Try.prog 3 (fun n : Int => [enc n]) (fun n => (Lit.int .i64 n).wf = true) := Opn.int Try.underlying3 (by kernel_rfl)
theorem opn_u8 : Opn Try.prog 5 (fun b : UInt8 => cs b) (fun _ => True) := Opn.u8 Try.underlying5 (by kernel_rfl)
theorem opn_bytes : Opn Try.prog 34 (fun l : List UInt8 => [enc l]) (fun l => l.length ≤ maxLen ∧ ∀ b ∈ l, True) := Opn.slice Try.underlying34 (by kernel_rfl) (by decide) opn_u8
/-- A function of a plain answer, run. -/
theorem Pure.run {P : Program} {f : FuncId} {args : List V} {r : Value} {w : World} {vals : Array Value} (h : Pure P f args (.val r) []) (hr : RepL (oldM w) w args vals.toList) :
    Calls P f vals w fun e w' => e = .returned r ∧ Below w.heap.size w w' := by
  refine (h.2.2 (oldI w) w vals (fun b o hb => hb) hr).mono fun e w' ⟨x, M', he, hg, hx⟩ => ?_
  obtain ⟨rfl, _⟩ := hx
  exact ⟨he, hg.below⟩
end Go.Av

namespace Go.Av
open Enc (enc dec)
open Cel (cs dc)
open Go.Proofs Pl Go.ChangeShapes Go.WideShapes Go.RowKit

theorem opn_rec : Opn Try.prog 36 (fun x : Rec => cs x) (fun r => r.seq < 2 ^ 63 ∧ r.body.length ≤ maxLen) := by
  refine ⟨fun _ => Eq.symm (by kernel_rfl), fun en w base spare held fuel c x h => ?_⟩
  obtain ⟨hl, n, hf⟩ := open_flat Try.underlying36 (by rintro (_ | _ | _ | i) f hi <;> simp at hi <;> subst hi <;> exact ⟨rfl, by kernel_rfl⟩) (by kernel_rfl) h
  obtain ⟨v0, y0, g0, t0⟩ := hf 0 _ rfl
  obtain ⟨v1, y1, g1, t1⟩ := hf 1 _ rfl
  obtain ⟨v2, y2, g2, t2⟩ := hf 2 _ rfl
  obtain rfl : c = [v0, v1, v2] := by
    match c, hl with
    | [a0, a1, a2], _ => simp at g0 g1 g2; simp [g0, g1, g2]
  obtain ⟨a0, _, r0, o0⟩ := opn_int.2 en w base spare held n _ _ t0
  obtain ⟨a1, w1, r1, o1⟩ := opn_int.2 en w base spare held n _ _ t1
  obtain ⟨a2, m2, r2, o2⟩ := opn_bytes.2 en w base spare held n _ _ t2
  have hs : a1 < 2 ^ 63 := by
    simp only [Lit.wf, Bool.and_eq_true, decide_eq_true_eq] at w1
    have : a1 ≤ 9223372036854775807 := w1.2
    omega
  refine ⟨⟨a0, a1, a2⟩, ⟨hs, m2.1⟩, r0.append (r1.append r2), ?_⟩
  intro v hv
  simp only [List.mem_cons, List.not_mem_nil, or_false] at hv
  rcases hv with rfl | rfl | rfl
  · exact o0 _ (by simp)
  · exact o1 _ (by simp)
  · exact o2 _ (by simp)
theorem len5 {α : Type} {c : List α} (h : c.length = 5) : ∃ c0 c1 c2 c3 c4, c = [c0, c1, c2, c3, c4] := by
  match c, h with
  | [a0, a1, a2, a3, a4], _ => exact ⟨a0, a1, a2, a3, a4, rfl⟩
theorem len3 {α : Type} {c : List α} (h : c.length = 3) : ∃ c0 c1 c2, c = [c0, c1, c2] := by
  match c, h with
  | [a0, a1, a2], _ => exact ⟨a0, a1, a2, rfl⟩
theorem opn_fnd : Opn Try.prog 57 (fun x : Fnd => cs x) (fun f => f.rcd.seq < 2 ^ 63 ∧ f.rcd.body.length ≤ maxLen) := by
  refine ⟨fun _ => Eq.symm (by kernel_rfl), fun en w base spare held fuel c x h => ?_⟩
  obtain ⟨xs, n, _, _, hl, hlen, hf⟩ := DataW.trod_struct Try.underlying57 h
  have hc : Try.prog.cellsOf 57 = 5 := by kernel_rfl
  have h36 : Try.prog.cellsOf 36 = 3 := by kernel_rfl
  have h3 : Try.prog.cellsOf 3 = 1 := by kernel_rfl
  rw [hc] at hl
  have t0 : DataW.trod en Try.prog w base spare held n 36 ((c.drop 0).take (Try.prog.cellsOf 36)) = xs[0]? := hf 0 _ rfl
  have t1 : DataW.trod en Try.prog w base spare held n 3 ((c.drop 3).take (Try.prog.cellsOf 3)) = xs[1]? := hf 1 _ rfl
  have t2 : DataW.trod en Try.prog w base spare held n 3 ((c.drop 4).take (Try.prog.cellsOf 3)) = xs[2]? := hf 2 _ rfl
  rw [h36] at t0
  rw [h3] at t1 t2
  obtain ⟨c0, c1, c2, c3, c4, rfl⟩ := len5 hl
  obtain ⟨y0, y1, y2, rfl⟩ := len3 (show xs.length = 3 from hlen)
  obtain ⟨a0, m0, r0, o0⟩ := opn_rec.2 en w base spare held n [c0, c1, c2] y0 t0
  obtain ⟨a1, _, r1, o1⟩ := opn_int.2 en w base spare held n [c3] y1 t1
  obtain ⟨a2, _, r2, o2⟩ := opn_int.2 en w base spare held n [c4] y2 t2
  refine ⟨⟨a0, a1, a2⟩, m0, r0.append (r1.append r2), ?_⟩
  intro v hv
  simp only [List.mem_cons, List.not_mem_nil, or_false] at hv
  rcases hv with rfl | rfl | rfl | rfl | rfl
  · exact o0 _ (by simp)
  · exact o0 _ (by simp)
  · exact o0 _ (by simp)
  · exact o1 _ (by simp)
  · exact o2 _ (by simp)
theorem opn_fnds : Opn Try.prog 55 (fun l : List Fnd => [enc l]) (fun l => l.length ≤ maxLen ∧ ∀ f ∈ l, f.rcd.seq < 2 ^ 63 ∧ f.rcd.body.length ≤ maxLen) := Opn.slice Try.underlying55 (by kernel_rfl) (by decide) opn_fnd
end Go.Av

namespace Go.Av
open Enc (enc dec)
open Cel (cs dc)
open Go.Proofs Pl Go.ChangeShapes Go.WideShapes Go.RowKit

theorem opn_recs : Opn Try.prog 47 (fun l : List Rec => [enc l]) (fun l => l.length ≤ maxLen ∧ ∀ r ∈ l, r.seq < 2 ^ 63 ∧ r.body.length ≤ maxLen) := Opn.slice Try.underlying47 (by kernel_rfl) (by decide) opn_rec
theorem opn_ints : Opn Try.prog 64 (fun l : List Int => [enc l]) (fun l => l.length ≤ maxLen ∧ ∀ n ∈ l, (Lit.int .i64 n).wf = true) := Opn.slice Try.underlying64 (by kernel_rfl) (by decide) opn_int
end Go.Av
