/-
  DvA: Contracts of package zone.
  DvB: Contracts of package zone, second part: zones with which something is done.
  DvC: Contracts of package zone, third part.
  DvD: Contracts of package zone, last part.
  DvE: Contracts of package dev, first part: what is read.
  DvF: Contracts of package dev, second part: counts, a new one, commands.
  DvG: Contracts of package dev, third part: devices whose zones lie in a box.
  DvH: Contracts of package dev, fourth part: the commands.
  DvI: Contracts of package dev, fifth part: a command done.
  DvJ: Contracts of package dev, sixth part: a device in memory of its own.
  DvK: Contracts of package dev, seventh part: own, Limit, Do.
  DvL: Contracts of package record: what is written; of package log: where it may be.
  DvM: Contracts of package log: a record appended.
  DvO: Contracts of package log: records appended.
  DvQ: The plain law of appending: what a device is behind a record.
  DvR: The plain law of appending, second part.
  DvS: The plain law of room: records take no more zones than their bytes.
  DvP: Contracts of package space, as far as the law asks.
  DvT: The law SpaceHolds: what it computes.
  DvU: What the row hands in: numbers of sixteen bits.
-/
import Derived.Test.YthjmodhemglgbaaKH
set_option linter.unusedSimpArgs false
set_option linter.unusedVariables false

namespace Go.Av.Pl
structure Zo where
  st : Int
  rs : Int
  data : List UInt8
  la : Int
deriving DecidableEq
def zTakes (z : Zo) : Bool := decide (z.st = 0 ∨ z.st = 1 ∨ z.st = 2)
def zOk (z : Zo) (n : Int) : Bool := decide (1 ≤ n ∧ n ≤ 1048576 ∧ z.data.length ≤ n ∧ 0 ≤ z.la ∧ z.la ≤ z.data.length ∧ 0 ≤ z.rs ∧ z.rs ≤ 1073741824) &&
  (if z.st = 0 then decide (z.data.length = 0) else if zTakes z = true then decide (0 < z.data.length ∧ (z.data.length : Int) < n) else decide (z.st = 3))
def zRoom (z : Zo) (n : Int) : Int := if zOk z n = true ∧ zTakes z = true then n - z.data.length else 0
def zFill (k : Nat) (n some : Int) : Int := if k = 0 then 0 else if (k : Int) = n then 3 else some
end Go.Av.Pl
namespace Go.Av
open Enc (enc dec)
open Cel (cs dc)
open Go.Proofs Pl

instance : Cel Zo where
  sz := 4
  cs x := [enc x.st, enc x.rs, enc x.data, enc x.la]
  dc l := match l with
    | [a, b, c, d] => (dec a).bind fun a => (dec b).bind fun b => (dec c).bind fun c => (dec d).bind fun d => some ⟨a, b, c, d⟩
    | _ => none
  len _ := rfl
  ok l x h := by
    split at h
    · simp only [Option.bind_eq_some_iff] at h
      obtain ⟨a, ha, b, hb, c, hc, d, hd, h⟩ := h
      cases h
      exact wk_dec (wk_dec (wk_dec (wk_dec wk_nil hd) hc) hb) ha
    · cases h
  cl x := by simp [clean_cs]
  de x := by simp [decX_map]
instance : Enc Zo := encC
@[simp] theorem sz_zo : Cel.sz Zo = 4 := rfl
@[simp] theorem cs_zo (x : Zo) : cs x = [.val (.int .i64 x.st), .val (.int .i64 x.rs), .lit 1 (x.data.map cs), .val (.int .i64 x.la)] := rfl
@[simp] theorem enc_zo (x : Zo) : (enc x : V) = .agg [.val (.int .i64 x.st), .val (.int .i64 x.rs), .lit 1 (x.data.map cs), .val (.int .i64 x.la)] := rfl
@[simp] theorem dc_zo (a b c d : V) : (dc [a, b, c, d] : Option Zo) = (dec a).bind fun a => (dec b).bind fun b => (dec c).bind fun c => (dec d).bind fun d => some ⟨a, b, c, d⟩ := rfl
@[simp] theorem dec_zo (l : List V) : (dec (.agg l) : Option Zo) = dc l := rfl

theorem c_takes (z : Zo) : Pure Try.prog n_zone_takes [enc z] (enc (zTakes z)) [] := by
  refine Pure.ofC OOk.nil hm F_zone_takes_ok (by simp [F_zone_takes]) rfl ?_
  obtain ⟨a, b, c, d⟩ := z
  by_cases h0 : a = 0
  · simp [F_zone_takes, zTakes, h0]
  · by_cases h1 : a = 1
    · simp [F_zone_takes, zTakes, h1]
    · by_cases h2 : a = 2
      · simp [F_zone_takes, zTakes, h2]
      · simp [F_zone_takes, zTakes, h0, h1, h2]
@[simp] def sp_takes (z : Zo) : Option (V × List Tip) := some (enc (zTakes z), [])
theorem sp_takes_ok : EOk Try.prog n_zone_takes (sp1 sp_takes) := sp1_ok fun a r h => by cases h; exact c_takes a
def Dz1 : Orc := Orc.nil.add n_zone_takes (sp1 sp_takes)
theorem Dz1_ok : OOk Try.prog Dz1 := OOk.nil.add sp_takes_ok
theorem c_zCheck (z : Zo) (n : Int) : Pure Try.prog n_zone_Check [enc z, enc n] (enc (zOk z n)) [] := by
  refine Pure.ofC Dz1_ok hm F_zone_Check_ok (by simp [F_zone_Check]) rfl ?_
  obtain ⟨a, b, c, d⟩ := z
  by_cases g1 : n < 1
  · have : ¬ 1 ≤ n := by omega
    simp [F_zone_Check, Dz1, g1, zOk, this]
  by_cases g2 : 1048576 < n
  · have : ¬ n ≤ 1048576 := by omega
    simp [F_zone_Check, Dz1, g1, g2, zOk, this]
  by_cases g3 : n < c.length
  · have : ¬ (c.length : Int) ≤ n := by omega
    simp [F_zone_Check, Dz1, g1, g2, g3, zOk, this]
  by_cases g4 : d < 0
  · have : ¬ 0 ≤ d := by omega
    simp [F_zone_Check, Dz1, g1, g2, g3, g4, zOk, this]
  by_cases g5 : (c.length : Int) < d
  · have : ¬ d ≤ c.length := by omega
    simp [F_zone_Check, Dz1, g1, g2, g3, g4, g5, zOk, this]
  by_cases g6 : b < 0
  · have : ¬ 0 ≤ b := by omega
    simp [F_zone_Check, Dz1, g1, g2, g3, g4, g5, g6, zOk, this]
  by_cases g7 : 1073741824 < b
  · have : ¬ b ≤ 1073741824 := by omega
    simp [F_zone_Check, Dz1, g1, g2, g3, g4, g5, g6, g7, zOk, this]
  have e1 : 1 ≤ n := by omega
  have e2 : n ≤ 1048576 := by omega
  have e3 : (c.length : Int) ≤ n := by omega
  have e4 : 0 ≤ d := by omega
  have e5 : d ≤ c.length := by omega
  have e6 : 0 ≤ b := by omega
  have e7 : b ≤ 1073741824 := by omega
  by_cases h0 : a = 0
  · simp [F_zone_Check, Dz1, g1, g2, g3, g4, g5, g6, g7, zOk, e1, e2, e3, e4, e5, e6, e7, h0]
  · by_cases ht : zTakes ⟨a, b, c, d⟩ = true
    · by_cases hc : 0 < c.length
      · have hc' : c ≠ [] := by rintro rfl; simp at hc
        simp [F_zone_Check, Dz1, g1, g2, g3, g4, g5, g6, g7, zOk, e1, e2, e3, e4, e5, e6, e7, h0, ht, hc]
      · have hc' : c = [] := by simpa using hc
        simp [F_zone_Check, Dz1, g1, g2, g4, g6, g7, zOk, e1, e2, e4, e6, e7, h0, ht, hc', hc] at *
        try simp_all
    · have ht' : zTakes ⟨a, b, c, d⟩ = false := by simpa using ht
      simp [F_zone_Check, Dz1, g1, g2, g3, g4, g5, g6, g7, zOk, e1, e2, e3, e4, e5, e6, e7, h0, ht']
end Go.Av

namespace Go.Av
open Enc (enc dec)
open Cel (cs dc)
open Go.Proofs Pl

@[simp] def sp_zCheck (z : Zo) (n : Int) : Option (V × List Tip) := some (enc (zOk z n), [])
theorem sp_zCheck_ok : EOk Try.prog n_zone_Check (sp2 sp_zCheck) := sp2_ok fun a b r h => by cases h; exact c_zCheck a b
def Dz2 : Orc := Dz1.add n_zone_Check (sp2 sp_zCheck)
theorem Dz2_ok : OOk Try.prog Dz2 := Dz1_ok.add sp_zCheck_ok
theorem zOk_len {z : Zo} {n : Int} (h : zOk z n = true) : 1 ≤ n ∧ n ≤ 1048576 ∧ (z.data.length : Int) ≤ n := by
  simp only [zOk, Bool.and_eq_true, decide_eq_true_eq] at h
  exact ⟨h.1.1, h.1.2.1, h.1.2.2.1⟩
theorem c_zRoom (z : Zo) (n : Int) : Pure Try.prog n_zone_Room [enc z, enc n] (enc (zRoom z n)) [] := by
  refine Pure.ofC Dz2_ok hm F_zone_Room_ok (by simp [F_zone_Room]) rfl ?_
  by_cases h : zOk z n = true
  · obtain ⟨h1, h2, h3⟩ := zOk_len h
    have w1 := IntWalk.i64_in (n - z.data.length) (by omega)
    by_cases ht : zTakes z = true
    · simp [F_zone_Room, Dz2, Dz1, zRoom, h, ht, w1]
    · have ht' : zTakes z = false := by simpa using ht
      simp [F_zone_Room, Dz2, Dz1, zRoom, h, ht']
  · have h' : zOk z n = false := by simpa using h
    simp [F_zone_Room, Dz2, Dz1, zRoom, h']
theorem c_filled (z : Zo) (n some : Int) : Pure Try.prog n_zone_filled [enc z, enc n, enc some] (enc (zFill z.data.length n some)) [] := by
  refine Pure.ofC OOk.nil hm F_zone_filled_ok (by simp [F_zone_filled]) rfl ?_
  by_cases h : z.data.length = 0
  · simp [F_zone_filled, zFill, h]
  · by_cases h2 : (z.data.length : Int) = n
    · have : ¬ n = 0 := by omega
      simp [F_zone_filled, zFill, h, h2, this]
    · simp [F_zone_filled, zFill, h, h2]
@[simp] def sp_filled (z : Zo) (n s : Int) : Option (V × List Tip) := some (enc (zFill z.data.length n s), [])
theorem sp_filled_ok : EOk Try.prog n_zone_filled (sp3 sp_filled) := sp3_ok fun a b c r h => by cases h; exact c_filled a b c
def Dz3 : Orc := Orc.nil.add n_zone_filled (sp3 sp_filled)
theorem Dz3_ok : OOk Try.prog Dz3 := OOk.nil.add sp_filled_ok

/-- A zone's box. -/
def zoB (z : Zo) (t : Nat) (xs : List (List V)) : List V := [.val (.int .i64 z.st), .val (.int .i64 z.rs), .row t 1 xs, .val (.int .i64 z.la)]
/-- What is appended: of a box, and the size. -/
structure ApA (m : Mem) (b s : Nat) (ys : List (List V)) (l : List UInt8) (n : Int) : Prop where
  hb : m.boxes[b]? = some [.lit 1 ys]
  hd : decX ys = some l
  hs : m.boxes[s]? = some [.val (.int .i64 n)]
theorem decX_len {α : Type} [Cel α] : ∀ {xs : List (List V)} {l : List α}, decX xs = some l → xs.length = l.length
  | [], l, h => by cases h; rfl
  | e :: xs, l, h => by
    rw [decX_cons] at h
    simp only [Option.bind_eq_some_iff] at h
    obtain ⟨a, _, r, hr, h⟩ := h
    cases h
    simp [decX_len hr]
theorem c_ap1 (m : Mem) (p b s t : Nat) (z : Zo) (xs ys : List (List V)) (l : List UInt8) (n : Int) (hp : m.boxes[p]? = some (zoB z t xs)) (hx : decX xs = some z.data) (hA : ApA m b s ys l n) (hbp : p ≠ b) (hsp : p ≠ s) (ht : m.tips[t]? = some (5, 1, xs.length)) (hl : xs.length + ys.length ≤ 2 ^ 40) :
    Loc Try.prog n_zone_Append_1 [.ptr p 0, .ptr b 0, .ptr s 0] m (.tuple []) ⟨m.boxes.set p (zoB { z with st := zFill (xs.length + ys.length) n 1 } t (xs ++ ys)), m.tips.set t (5, 1, xs.length + ys.length)⟩ := by
  refine Loc.ofX Dz3_ok hm F_zone_Append_1_ok (by simp [F_zone_Append_1]) ?_
  have f1 : ∀ x, (m.boxes.set p x)[p]? = some x := fun x => List.getElem?_set_self (lt_of_some hp)
  have f2 : ∀ x, (m.boxes.set p x)[b]? = m.boxes[b]? := fun x => List.getElem?_set_ne hbp
  have f3 : ∀ x, (m.boxes.set p x)[s]? = m.boxes[s]? := fun x => List.getElem?_set_ne hsp
  obtain ⟨h1, h2, h3⟩ := hA
  have hyl : ys.length = l.length := decX_len h2
  obtain ⟨a, r, c, d⟩ := z
  have hxl : xs.length = c.length := decX_len hx
  simp only [zoB] at hp ⊢
  simp at hl ht hx
  simp [F_zone_Append_1, Dz3, hp, h1, h2, h3, ht, f1, f2, f3, hyl, hx, hxl, decX_append, decX_map]
  omega
theorem c_flush1 (m : Mem) (p t : Nat) (z : Zo) (xs : List (List V)) (hp : m.boxes[p]? = some (zoB z t xs)) :
    Loc Try.prog n_zone_Flush_1 [.ptr p 0] m (.tuple []) ⟨m.boxes.set p (zoB { z with la := xs.length } t xs), m.tips⟩ := by
  refine Loc.ofX OOk.nil hm F_zone_Flush_1_ok (by simp [F_zone_Flush_1]) ?_
  simp only [zoB] at hp ⊢
  simp [F_zone_Flush_1, hp]
theorem c_finish1 (m : Mem) (p t : Nat) (z : Zo) (xs : List (List V)) (hp : m.boxes[p]? = some (zoB z t xs)) :
    Loc Try.prog n_zone_Finish_1 [.ptr p 0] m (.tuple []) ⟨m.boxes.set p (zoB { z with st := 3 } t xs), m.tips⟩ := by
  refine Loc.ofX OOk.nil hm F_zone_Finish_1_ok (by simp [F_zone_Finish_1]) ?_
  simp only [zoB] at hp ⊢
  simp [F_zone_Finish_1, hp]
theorem c_close1 (m : Mem) (p t : Nat) (z : Zo) (xs : List (List V)) (hp : m.boxes[p]? = some (zoB z t xs)) :
    Loc Try.prog n_zone_Close_1 [.ptr p 0] m (.tuple []) ⟨m.boxes.set p (zoB { z with st := 2 } t xs), m.tips⟩ := by
  refine Loc.ofX OOk.nil hm F_zone_Close_1_ok (by simp [F_zone_Close_1]) ?_
  simp only [zoB] at hp ⊢
  simp [F_zone_Close_1, hp]
theorem c_reset1 (m : Mem) (p t : Nat) (z : Zo) (xs : List (List V)) (hp : m.boxes[p]? = some (zoB z t xs)) (hr : 0 ≤ z.rs ∧ z.rs < 1073741824) :
    Loc Try.prog n_zone_Reset_1 [.ptr p 0] m (.tuple []) ⟨m.boxes.set p [.val (.int .i64 0), .val (.int .i64 (z.rs + 1)), .lit 1 [], .val (.int .i64 0)], m.tips⟩ := by
  refine Loc.ofX OOk.nil hm F_zone_Reset_1_ok (by simp [F_zone_Reset_1]) ?_
  have w1 := IntWalk.i64_in (z.rs + 1) (by omega)
  simp only [zoB] at hp ⊢
  simp [F_zone_Reset_1, hp, w1]
theorem box_new (l bs : List (List V)) (a : List V) : (l ++ a :: bs)[l.length]? = some a := by simp
theorem box_new2 (l bs : List (List V)) (a b : List V) : (l ++ a :: b :: bs)[l.length + 1]? = some b := by simp
theorem box_set (l bs : List (List V)) (a x : List V) : (l ++ a :: bs).set l.length x = l ++ x :: bs := by simp
theorem box_set2 (l bs : List (List V)) (a b x : List V) : (l ++ a :: b :: bs).set (l.length + 1) x = l ++ a :: x :: bs := by
  rw [List.set_append_right _ _ (by omega)]; simp
theorem c_zdone (f : FuncId) (cap : List V) (z : Zo) (sp : List V → Mem → Option (V × Mem)) (he : EOkL Try.prog f sp) (m : Mem) (tip : Tip) (dv : V) (a' r' c' : Int) (xs : List (List V)) (hl : z.data.length ≤ 2 ^ 40)
    (hv : dv = .row m.tips.length 1 xs ∨ dv = .lit 1 xs) (hx : cleanX xs = true)
    (hsp : ∀ out, sp (.ptr m.boxes.length 0 :: cap) ⟨m.boxes ++ [zoB z m.tips.length (z.data.map cs), out], m.tips ++ [(5, 1, z.data.length)]⟩ = some (.tuple [], ⟨m.boxes ++ [[.val (.int .i64 a'), .val (.int .i64 r'), dv, .val (.int .i64 c')], out], m.tips ++ [tip]⟩)) :
    Loc Try.prog n_zone_done [enc z, .val (.bool true), .func f cap] m (.tuple [.agg [.val (.int .i64 a'), .val (.int .i64 r'), .lit 1 xs, .val (.int .i64 c')], .val (.int .i64 0)]) m := by
  refine Loc.ofC (OOk.nil.addL he) hm F_zone_done_ok (by simp [F_zone_done]) (.inr ⟨_, rfl, by simp [hx]⟩) m.boxes.length m.tips.length (Nat.le_refl _) (Nat.le_refl _) fun hu => ?_
  obtain ⟨a, b, c, d⟩ := z
  simp only [zoB] at hsp
  simp at hl hsp
  rcases hv with rfl | rfl
  · simp [F_zone_done, box_new, box_new2, box_set, box_set2, hsp, hu, hx]
    omega
  · simp [F_zone_done, box_new, box_new2, box_set, box_set2, hsp, hu, hx]
    omega
theorem c_zdone0 (v : V) (z : Zo) (m : Mem) (hl : z.data.length ≤ 2 ^ 40) :
    Loc Try.prog n_zone_done [enc z, .val (.bool false), v] m (.tuple [enc z, .val (.int .i64 30)]) m := by
  refine Loc.ofC OOk.nil hm F_zone_done_ok (by simp [F_zone_done]) (.inr ⟨[enc z, .val (.int .i64 30)], rfl, by simp [clean_cs]⟩) m.boxes.length m.tips.length (Nat.le_refl _) (Nat.le_refl _) fun hu => ?_
  obtain ⟨a, b, c, d⟩ := z
  simp at hl
  simp [F_zone_done, box_new, box_new2, box_set, box_set2, hu]
  omega
def sp_ap1 : List V → Mem → Option (V × Mem)
  | [.ptr p 0, .ptr b 0, .ptr s 0], m => match m.boxes[p]?, m.boxes[b]?, m.boxes[s]? with
    | some [.val (.int .i64 a), .val (.int .i64 r), .row t 1 xs, .val (.int .i64 c)], some [.lit 1 ys], some [.val (.int .i64 n)] =>
      if m.tips[t]? = some (5, 1, xs.length) ∧ xs.length + ys.length ≤ 2 ^ 40 ∧ p ≠ b ∧ p ≠ s ∧ (decX xs : Option (List UInt8)).isSome = true ∧ (decX ys : Option (List UInt8)).isSome = true then
        some (.tuple [], ⟨m.boxes.set p [.val (.int .i64 (zFill (xs.length + ys.length) n 1)), .val (.int .i64 r), .row t 1 (xs ++ ys), .val (.int .i64 c)], m.tips.set t (5, 1, xs.length + ys.length)⟩) else none
    | _, _, _ => none
  | _, _ => none
theorem sp_ap1_ok : EOkL Try.prog n_zone_Append_1 sp_ap1 := by
  intro args m v m' h
  unfold sp_ap1 at h
  split at h
  · split at h
    · rename_i hp hb hs
      split at h
      · rename_i hc
        cases h
        obtain ⟨k1, k2, k3, k4, k5, k6⟩ := hc
        obtain ⟨l, hl⟩ := Option.isSome_iff_exists.1 k5
        obtain ⟨l2, hl2⟩ := Option.isSome_iff_exists.1 k6
        exact c_ap1 m _ _ _ _ ⟨_, _, l, _⟩ _ _ l2 _ hp hl ⟨hb, hl2, hs⟩ k3 k4 k1 k2
      · cases h
    · cases h
  · cases h
end Go.Av

namespace Go.Av
open Enc (enc dec)
open Cel (cs dc)
open Go.Proofs Pl

def sp_flush1 : List V → Mem → Option (V × Mem)
  | [.ptr p 0], m => match m.boxes[p]? with
    | some [.val (.int .i64 a), .val (.int .i64 r), .row t 1 xs, .val (.int .i64 _)] => some (.tuple [], ⟨m.boxes.set p [.val (.int .i64 a), .val (.int .i64 r), .row t 1 xs, .val (.int .i64 xs.length)], m.tips⟩)
    | _ => none
  | _, _ => none
theorem sp_flush1_ok : EOkL Try.prog n_zone_Flush_1 sp_flush1 := by
  intro args m v m' h
  unfold sp_flush1 at h
  split at h
  · split at h
    · rename_i hp
      cases h
      exact c_flush1 m _ _ ⟨_, _, [], _⟩ _ hp
    · cases h
  · cases h
def sp_state1 (q : Int) : List V → Mem → Option (V × Mem)
  | [.ptr p 0], m => match m.boxes[p]? with
    | some [.val (.int .i64 _), .val (.int .i64 r), .row t 1 xs, .val (.int .i64 c)] => some (.tuple [], ⟨m.boxes.set p [.val (.int .i64 q), .val (.int .i64 r), .row t 1 xs, .val (.int .i64 c)], m.tips⟩)
    | _ => none
  | _, _ => none
theorem sp_finish1_ok : EOkL Try.prog n_zone_Finish_1 (sp_state1 3) := by
  intro args m v m' h
  unfold sp_state1 at h
  split at h
  · split at h
    · rename_i hp
      cases h
      exact c_finish1 m _ _ ⟨_, _, [], _⟩ _ hp
    · cases h
  · cases h
theorem sp_close1_ok : EOkL Try.prog n_zone_Close_1 (sp_state1 2) := by
  intro args m v m' h
  unfold sp_state1 at h
  split at h
  · split at h
    · rename_i hp
      cases h
      exact c_close1 m _ _ ⟨_, _, [], _⟩ _ hp
    · cases h
  · cases h
def sp_reset1 : List V → Mem → Option (V × Mem)
  | [.ptr p 0], m => match m.boxes[p]? with
    | some [.val (.int .i64 _), .val (.int .i64 r), .row _ 1 _, .val (.int .i64 _)] => if 0 ≤ r ∧ r < 1073741824 then some (.tuple [], ⟨m.boxes.set p [.val (.int .i64 0), .val (.int .i64 (r + 1)), .lit 1 [], .val (.int .i64 0)], m.tips⟩) else none
    | _ => none
  | _, _ => none
theorem sp_reset1_ok : EOkL Try.prog n_zone_Reset_1 sp_reset1 := by
  intro args m v m' h
  unfold sp_reset1 at h
  split at h
  · split at h
    · rename_i hp
      split at h
      · rename_i hr
        cases h
        exact c_reset1 m _ _ ⟨_, _, [], _⟩ _ hp hr
      · cases h
    · cases h
  · cases h
/-- What is done with a zone: by functions, and on what memory. -/
def zdo (f : FuncId) (cap : List V) (m : Mem) (z : Zo) : Option V :=
  if f = n_zone_Append_1 then match cap with
    | [.ptr b 0, .ptr s 0] => (match m.boxes[b]?, m.boxes[s]? with
      | some [.lit 1 ys], some [.val (.int .i64 n)] => if z.data.length + ys.length ≤ 2 ^ 40 ∧ (decX ys : Option (List UInt8)).isSome = true ∧ cleanX ys = true then
          some (.agg [.val (.int .i64 (zFill (z.data.length + ys.length) n 1)), .val (.int .i64 z.rs), .lit 1 (z.data.map cs ++ ys), .val (.int .i64 z.la)]) else none
      | _, _ => none)
    | _ => none
  else if f = n_zone_Flush_1 then (if cap = [] then some (enc { z with la := (z.data.length : Int) }) else none)
  else if f = n_zone_Finish_1 then (if cap = [] then some (enc { z with st := 3 }) else none)
  else if f = n_zone_Close_1 then (if cap = [] then some (enc { z with st := 2 }) else none)
  else if f = n_zone_Reset_1 then (if cap = [] ∧ 0 ≤ z.rs ∧ z.rs < 1073741824 then some (enc (⟨0, z.rs + 1, [], 0⟩ : Zo)) else none)
  else none
theorem decX_cs (l : List UInt8) : (decX (l.map cs) : Option (List UInt8)) = some l := decX_map l
theorem c_zdo (f : FuncId) (cap : List V) (m : Mem) (z : Zo) (r : V) (hl : z.data.length ≤ 2 ^ 40) (h : zdo f cap m z = some r) :
    Loc Try.prog n_zone_done [enc z, .val (.bool true), .func f cap] m (.tuple [r, .val (.int .i64 0)]) m := by
  unfold zdo at h
  split at h
  · rename_i hf
    subst hf
    split at h
    · rename_i b s
      split at h
      · rename_i ys n hb hs
        split at h
        · rename_i hc
          cases h
          refine c_zdone _ _ z sp_ap1 sp_ap1_ok m (5, 1, z.data.length + ys.length) (.row m.tips.length 1 (z.data.map cs ++ ys)) _ _ _ _ hl (.inl rfl) (by simp [clean_cs, hc.2.2]) fun out => ?_
          have hbl := lt_of_some hb
          have hsl := lt_of_some hs
          have f2 : ∀ x : List (List V), (m.boxes ++ x)[b]? = m.boxes[b]? := fun x => List.getElem?_append_left hbl
          have f3 : ∀ x : List (List V), (m.boxes ++ x)[s]? = m.boxes[s]? := fun x => List.getElem?_append_left hsl
          have n1 : ¬ m.boxes.length = b := by omega
          have n2 : ¬ m.boxes.length = s := by omega
          clear hbl hsl
          simp only [sp_ap1, zoB, box_new, f2, f3, hb, hs]
          rw [if_pos ⟨by simp, by simpa using hc.1, n1, n2, by rw [decX_cs]; rfl, hc.2.1⟩]
          simp [box_set]
        · cases h
      · cases h
    · cases h
  split at h
  · rename_i hf
    subst hf
    split at h
    · rename_i hc
      subst hc
      cases h
      refine c_zdone _ _ z sp_flush1 sp_flush1_ok m (5, 1, z.data.length) (.row m.tips.length 1 (z.data.map cs)) _ _ _ _ hl (.inl rfl) (by simp [clean_cs]) fun out => ?_
      simp only [sp_flush1, zoB, box_new, box_set]
      simp
    · cases h
  split at h
  · rename_i hf
    subst hf
    split at h
    · rename_i hc
      subst hc
      cases h
      refine c_zdone _ _ z (sp_state1 3) sp_finish1_ok m (5, 1, z.data.length) (.row m.tips.length 1 (z.data.map cs)) _ _ _ _ hl (.inl rfl) (by simp [clean_cs]) fun out => ?_
      simp only [sp_state1, zoB, box_new, box_set]
    · cases h
  split at h
  · rename_i hf
    subst hf
    split at h
    · rename_i hc
      subst hc
      cases h
      refine c_zdone _ _ z (sp_state1 2) sp_close1_ok m (5, 1, z.data.length) (.row m.tips.length 1 (z.data.map cs)) _ _ _ _ hl (.inl rfl) (by simp [clean_cs]) fun out => ?_
      simp only [sp_state1, zoB, box_new, box_set]
    · cases h
  split at h
  · rename_i hf
    subst hf
    split at h
    · rename_i hc
      obtain ⟨rfl, h1, h2⟩ := hc
      cases h
      refine c_zdone _ _ z sp_reset1 sp_reset1_ok m (5, 1, z.data.length) (.lit 1 []) _ _ _ _ hl (.inr rfl) rfl fun out => ?_
      simp only [sp_reset1, zoB, box_new, box_set]
      rw [if_pos ⟨h1, h2⟩]
    · cases h
  · cases h
def sp_zdone : List V → Mem → Option (V × Mem)
  | [a, .val (.bool may), fv], m => (dec a : Option Zo).bind fun z => if z.data.length ≤ 2 ^ 40 then (if may = true then (match fv with
      | .func f cap => (zdo f cap m z).map fun r => (.tuple [r, .val (.int .i64 0)], m)
      | _ => none) else some (.tuple [enc z, .val (.int .i64 30)], m)) else none
  | _, _ => none
theorem sp_zdone_ok : EOkL Try.prog n_zone_done sp_zdone := by
  intro args m v m' h
  unfold sp_zdone at h
  split at h
  · rename_i a may fv
    simp only [Option.bind_eq_some_iff] at h
    obtain ⟨z, hz, h⟩ := h
    split at h
    · rename_i hl
      split at h
      · rename_i hm
        subst hm
        split at h
        · simp only [Option.map_eq_some_iff] at h
          obtain ⟨r, hr, h⟩ := h
          cases h
          exact (c_zdo _ _ m z r hl hr).wk (wk_dec (WkL.refl _) hz)
        · cases h
      · rename_i hm
        have : may = false := by simpa using hm
        subst this
        cases h
        exact (c_zdone0 fv z m hl).wk (wk_dec (WkL.refl _) hz)
    · cases h
  · cases h
end Go.Av

namespace Go.Av.Pl
def zApp (z : Zo) (n : Int) (b : List UInt8) : Zo × Int := if zOk z n = false ∨ b = [] then (z, 1) else if (b.length : Int) ≤ zRoom z n then ({ z with data := z.data ++ b, st := zFill (z.data ++ b).length n 1 }, 0) else (z, 30)
def zFin (z : Zo) : Zo × Int := if zTakes z = true ∧ z.st ≠ 0 then ({ z with st := 3 }, 0) else (z, 30)
def zClo (z : Zo) : Zo × Int := if z.st = 1 then ({ z with st := 2 }, 0) else (z, 30)
def zRes (z : Zo) : Zo × Int := if (zTakes z = true ∨ z.st = 3) ∧ 0 ≤ z.rs ∧ z.rs < 1073741824 then (⟨0, z.rs + 1, [], 0⟩, 0) else (z, 30)
def zFlu (z : Zo) : Zo := { z with la := z.data.length }
end Go.Av.Pl
namespace Go.Av
open Enc (enc dec)
open Cel (cs dc)
open Go.Proofs Pl

@[simp] def sp_zRoom (z : Zo) (n : Int) : Option (V × List Tip) := some (enc (zRoom z n), [])
theorem sp_zRoom_ok : EOk Try.prog n_zone_Room (sp2 sp_zRoom) := sp2_ok fun a b r h => by cases h; exact c_zRoom a b
theorem sp_clone_ok : EOk Try.prog n_bytes_Clone (sp1 sp_clone) := sp1_ok fun l r h => by
  simp only [sp_clone] at h
  split at h <;> cases h
  exact c_clone l (by assumption)
def Dz4 : Orc := ((Dz2.add n_zone_Room (sp2 sp_zRoom)).add n_bytes_Clone (sp1 sp_clone)).addL n_zone_done sp_zdone
theorem Dz4_ok : OOk Try.prog Dz4 := ((Dz2_ok.add sp_zRoom_ok).add sp_clone_ok).addL sp_zdone_ok
theorem c_zAppend (z : Zo) (n : Int) (b : List UInt8) (hz : z.data.length ≤ 2 ^ 30) (hb : b.length ≤ 2 ^ 30) : Pure Try.prog n_zone_Append [enc z, enc n, enc b] (.tuple [enc (zApp z n b).1, enc (zApp z n b).2]) [] := by
  refine Pure.ofC Dz4_ok hm F_zone_Append_ok (by simp [F_zone_Append]) (by simp [V.res, V.res1]) ?_
  obtain ⟨a, r, c, d⟩ := z
  simp at hz hb
  by_cases h1 : zOk ⟨a, r, c, d⟩ n = true
  · by_cases h2 : b = []
    · simp [F_zone_Append, Dz4, Dz2, Dz1, zApp, h1, h2]
      omega
    · by_cases h3 : (b.length : Int) ≤ zRoom ⟨a, r, c, d⟩ n
      · have g1 : c.length + b.length ≤ 1099511627776 := by omega
        simp [F_zone_Append, Dz4, Dz2, Dz1, zApp, h1, h2, h3, sp_zdone, zdo, decX_cs, clean_cs, keepB, g1]
        omega
      · simp [F_zone_Append, Dz4, Dz2, Dz1, zApp, h1, h2, h3, sp_zdone, zdo, decX_cs, clean_cs, keepB]
        omega
  · have h1' : zOk ⟨a, r, c, d⟩ n = false := by simpa using h1
    simp [F_zone_Append, Dz4, Dz2, Dz1, zApp, h1']
    omega
theorem c_zReset (z : Zo) (hz : z.data.length ≤ 2 ^ 30) : Pure Try.prog n_zone_Reset [enc z] (.tuple [enc (zRes z).1, enc (zRes z).2]) [] := by
  refine Pure.ofC Dz4_ok hm F_zone_Reset_ok (by simp [F_zone_Reset]) (by simp [V.res, V.res1]) ?_
  obtain ⟨a, r, c, d⟩ := z
  simp at hz
  have g1 : c.length ≤ 1099511627776 := by omega
  by_cases h1 : zTakes ⟨a, r, c, d⟩ = true
  · by_cases h2 : 0 ≤ r
    · by_cases h3 : r < 1073741824
      · simp [F_zone_Reset, Dz4, Dz2, Dz1, zRes, h1, h2, h3, sp_zdone, zdo, decX_cs, g1]
      · simp [F_zone_Reset, Dz4, Dz2, Dz1, zRes, h1, h2, h3, sp_zdone, zdo, decX_cs, g1]
    · simp [F_zone_Reset, Dz4, Dz2, Dz1, zRes, h1, h2, sp_zdone, zdo, decX_cs, g1]
  · have h1' : zTakes ⟨a, r, c, d⟩ = false := by simpa using h1
    by_cases h0 : a = 3
    · by_cases h2 : 0 ≤ r
      · by_cases h3 : r < 1073741824
        · simp [F_zone_Reset, Dz4, Dz2, Dz1, zRes, h0, h2, h3, sp_zdone, zdo, decX_cs, g1]
        · simp [F_zone_Reset, Dz4, Dz2, Dz1, zRes, h0, h2, h3, sp_zdone, zdo, decX_cs, g1]
      · simp [F_zone_Reset, Dz4, Dz2, Dz1, zRes, h0, h2, sp_zdone, zdo, decX_cs, g1]
    · simp [F_zone_Reset, Dz4, Dz2, Dz1, zRes, h1', h0, sp_zdone, zdo, decX_cs, g1]
theorem c_zFinish (z : Zo) (hz : z.data.length ≤ 2 ^ 30) : Pure Try.prog n_zone_Finish [enc z] (.tuple [enc (zFin z).1, enc (zFin z).2]) [] := by
  refine Pure.ofC Dz4_ok hm F_zone_Finish_ok (by simp [F_zone_Finish]) (by simp [V.res, V.res1]) ?_
  obtain ⟨a, r, c, d⟩ := z
  simp at hz
  have g1 : c.length ≤ 1099511627776 := by omega
  by_cases h1 : zTakes ⟨a, r, c, d⟩ = true
  · by_cases h2 : a = 0
    · subst h2
      simp [F_zone_Finish, Dz4, Dz2, Dz1, zFin, h1, sp_zdone, zdo, decX_cs, g1, keepB]
    · simp [F_zone_Finish, Dz4, Dz2, Dz1, zFin, h1, h2, sp_zdone, zdo, decX_cs, g1, keepB]
  · have h1' : zTakes ⟨a, r, c, d⟩ = false := by simpa using h1
    simp [F_zone_Finish, Dz4, Dz2, Dz1, zFin, h1', sp_zdone, zdo, decX_cs, g1, keepB]
theorem c_zClose (z : Zo) (hz : z.data.length ≤ 2 ^ 30) : Pure Try.prog n_zone_Close [enc z] (.tuple [enc (zClo z).1, enc (zClo z).2]) [] := by
  refine Pure.ofC Dz4_ok hm F_zone_Close_ok (by simp [F_zone_Close]) (by simp [V.res, V.res1]) ?_
  obtain ⟨a, r, c, d⟩ := z
  simp at hz
  have g1 : c.length ≤ 1099511627776 := by omega
  by_cases h2 : a = 1
  · subst h2
    simp [F_zone_Close, Dz4, zClo, sp_zdone, zdo, decX_cs, g1]
  · simp [F_zone_Close, Dz4, zClo, h2, sp_zdone, zdo, decX_cs, g1]
theorem c_zFlush (z : Zo) (hz : z.data.length ≤ 2 ^ 30) : Pure Try.prog n_zone_Flush [enc z] (enc (zFlu z)) [] := by
  refine Pure.ofC Dz4_ok hm F_zone_Flush_ok (by simp [F_zone_Flush]) (by simp [V.res, V.res1]) ?_
  obtain ⟨a, r, c, d⟩ := z
  simp at hz
  have g1 : c.length ≤ 1099511627776 := by omega
  simp [F_zone_Flush, Dz4, zFlu, sp_zdone, zdo, decX_cs, g1]
end Go.Av

namespace Go.Av.Pl
structure Dv where
  size : Int
  zones : List Zo
  left : Int
  down : Bool
  done : Int
deriving DecidableEq
def dOk (d : Dv) : Bool := !(d.zones.any fun z => !zOk z d.size) && decide (0 < d.zones.length ∧ d.zones.length ≤ 64 ∧ 0 < d.size ∧ d.size ≤ 1048576)
def zIdx (pr : Zo → Bool) (l : List Zo) : Int := match l.findIdx? pr with
  | some i => i
  | none => -1
/-- How many zones are in a state. -/
def stN (q : Int) (l : List Zo) : Nat := l.countP fun z => decide (z.st = q)
end Go.Av.Pl
namespace Go.Av
open Enc (enc dec)
open Cel (cs dc)
open Go.Proofs Pl

instance : Cel Dv where
  sz := 5
  cs x := [enc x.size, enc x.zones, enc x.left, enc x.down, enc x.done]
  dc l := match l with
    | [a, b, c, d, e] => (dec a).bind fun a => (dec b).bind fun b => (dec c).bind fun c => (dec d).bind fun d => (dec e).bind fun e => some ⟨a, b, c, d, e⟩
    | _ => none
  len _ := rfl
  ok l x h := by
    split at h
    · simp only [Option.bind_eq_some_iff] at h
      obtain ⟨a, ha, b, hb, c, hc, d, hd, e, he, h⟩ := h
      cases h
      exact wk_dec (wk_dec (wk_dec (wk_dec (wk_dec wk_nil he) hd) hc) hb) ha
    · cases h
  cl x := by simp [clean_cs]
  de x := by simp [decX_map]
instance : Enc Dv := encC
@[simp] theorem cs_dv (x : Dv) : cs x = [.val (.int .i64 x.size), .lit 4 (x.zones.map cs), .val (.int .i64 x.left), .val (.bool x.down), .val (.int .i64 x.done)] := rfl
@[simp] theorem enc_dv (x : Dv) : (enc x : V) = .agg [.val (.int .i64 x.size), .lit 4 (x.zones.map cs), .val (.int .i64 x.left), .val (.bool x.down), .val (.int .i64 x.done)] := rfl
@[simp] theorem dc_dv (a b c d e : V) : (dc [a, b, c, d, e] : Option Dv) = (dec a).bind fun a => (dec b).bind fun b => (dec c).bind fun c => (dec d).bind fun d => (dec e).bind fun e => some ⟨a, b, c, d, e⟩ := rfl
@[simp] theorem dec_dv (l : List V) : (dec (.agg l) : Option Dv) = dc l := rfl

theorem zIdx_nonneg (pr : Zo → Bool) (l : List Zo) : decide (0 ≤ zIdx pr l) = l.any pr := by
  unfold zIdx
  cases h : l.findIdx? pr with
  | none =>
    have h1 := List.findIdx?_eq_none_iff.1 h
    have : l.any pr = false := by
      rw [List.any_eq_false]
      intro x hx
      simpa using h1 x hx
    rw [this]; rfl
  | some i =>
    obtain ⟨hi, hp, _⟩ := List.findIdx?_eq_some_iff_getElem.1 h
    rw [List.any_eq_true.2 ⟨l[i], List.getElem_mem hi, hp⟩]
    simp
def ZIdxI (m0 : Mem) (l : List Zo) (f : FuncId) (cap : List V) (pr : Zo → Bool) (k : Nat) (s : Nat → V) (m : Mem) : Prop :=
  ∃ (i : Nat), i + k = l.length ∧ (∀ j (hj : j < l.length), j < i → pr l[j] = false) ∧ s 0 = .lit 4 (l.map cs) ∧ s 1 = .func f cap ∧ s 7 = .val (.int .i64 l.length) ∧ s 8 = .val (.int .i64 i) ∧ m = m0
theorem c_zIndexF (f : FuncId) (cap : List V) (sp : List V → Mem → Option (V × Mem)) (he : EOkL Try.prog f sp) (m : Mem) (l : List Zo) (pr : Zo → Bool) (hl : l.length ≤ 2 ^ 40) (hsp : ∀ z, sp (enc z :: cap) m = some (.val (.bool (pr z)), m)) :
    Loc Try.prog n_slices_IndexFunc_Zone [enc l, .func f cap] m (enc (zIdx pr l)) m := by
  refine Loc.ofC (OOk.nil.addL he) hm F_slices_IndexFunc_Zone_ok (by simp [F_slices_IndexFunc_Zone]) (.inl rfl) m.boxes.length m.tips.length (Nat.le_refl _) (Nat.le_refl _) fun hu => ?_
  simp at hsp
  simp [F_slices_IndexFunc_Zone]
  refine wp_loop (ZIdxI m l f cap pr) l.length (IW.of ⟨0, by omega, by simp, by simp, by simp, by simp, by simp, rfl⟩) fun k s m' ⟨i, hik, hno, h0, h1, h7, h8, hm'⟩ => ?_
  subst hm'
  by_cases hi : i < l.length
  · have hg : l[i]? = some l[i] := List.getElem?_eq_getElem hi
    have w1 := IntWalk.i64_in ((i : Int) + 1) (by omega)
    by_cases hx : pr l[i] = true
    · have e : zIdx pr l = i := by
        unfold zIdx
        rw [List.findIdx?_eq_some_iff_getElem.2 ⟨hi, by simpa using hx, fun j hj => by simpa using hno j (by omega) hj⟩]
      simp [F_slices_IndexFunc_Zone_L0, h0, h1, h7, h8, hi, hg, hsp, hx, hu, e]
    · have hx' : pr l[i] = false := by simpa using hx
      simp [F_slices_IndexFunc_Zone_L0, h0, h1, h7, h8, hi, hg, hsp, hx', w1]
      refine ⟨k - 1, by omega, IW.of (show ZIdxI m' l f cap pr _ _ _ from ⟨i + 1, by omega, fun j hj hji => ?_, by simpa using h0, by simpa using h1, by simpa using h7, by simp, rfl⟩)⟩
      by_cases hj' : j = i
      · subst hj'; exact hx'
      · exact hno j hj (by omega)
  · have e : zIdx pr l = -1 := by
      unfold zIdx
      rw [List.findIdx?_eq_none_iff.2]
      intro x hx
      obtain ⟨j, hj, rfl⟩ := List.getElem_of_mem hx
      simpa using hno j hj (by omega)
    simp [F_slices_IndexFunc_Zone_L0, h0, h1, h7, h8, hi, hu, e]

/-- The number that a box begins with. -/
def boxH (m : Mem) (p : Nat) : Option Int := match m.boxes[p]? with
  | some (.val (.int .i64 n) :: _) => some n
  | _ => none
theorem boxH_some {m : Mem} {p : Nat} {n : Int} (h : boxH m p = some n) : ∃ r, m.boxes[p]? = some (.val (.int .i64 n) :: r) := by
  unfold boxH at h
  split at h
  · cases h; exact ⟨_, by assumption⟩
  · cases h
theorem isObj_int (k : IntKind) (n : Int) (r : List V) : isObj (.val (.int k n) :: r) = false := by cases r <;> rfl
theorem c_check1 (m : Mem) (p : Nat) (n : Int) (z : Zo) (hp : boxH m p = some n) : Loc Try.prog n_dev_Check_1 [enc z, .ptr p 0] m (enc (!zOk z n)) m := by
  refine Loc.ofC Dz2_ok hm F_dev_Check_1_ok (by simp [F_dev_Check_1]) (.inl rfl) m.boxes.length m.tips.length (Nat.le_refl _) (Nat.le_refl _) fun hu => ?_
  obtain ⟨r, hp⟩ := boxH_some hp
  have hpl : p < m.boxes.length := lt_of_some hp
  have f1 : ∀ (b : List (List V)), (m.boxes ++ b)[p]? = m.boxes[p]? := fun b => List.getElem?_append_left hpl
  clear hpl
  simp [F_dev_Check_1, Dz2, f1, hp, hu, isObj_int]
theorem c_first1 (m : Mem) (p q r : Nat) (a n b : Int) (z : Zo) (hp : boxI m p = some a) (hq : boxH m q = some n) (hr : boxI m r = some b) :
    Loc Try.prog n_log_first_1 [enc z, .ptr p 0, .ptr q 0, .ptr r 0] m (enc (decide (z.st = a) && decide (b ≤ zRoom z n))) m := by
  refine Loc.ofC Dz4_ok hm F_log_first_1_ok (by simp [F_log_first_1]) (.inl rfl) m.boxes.length m.tips.length (Nat.le_refl _) (Nat.le_refl _) fun hu => ?_
  have hp := boxI_some hp
  have hr := boxI_some hr
  obtain ⟨t, hq⟩ := boxH_some hq
  have f1 : ∀ (b : List (List V)), (m.boxes ++ b)[p]? = m.boxes[p]? := fun b => List.getElem?_append_left (lt_of_some hp)
  have f2 : ∀ (b : List (List V)), (m.boxes ++ b)[q]? = m.boxes[q]? := fun b => List.getElem?_append_left (lt_of_some hq)
  have f3 : ∀ (b : List (List V)), (m.boxes ++ b)[r]? = m.boxes[r]? := fun b => List.getElem?_append_left (lt_of_some hr)
  by_cases h : z.st = a
  · obtain ⟨x, _, _, _⟩ := z
    simp only at h
    subst h
    simp [F_log_first_1, Dz4, f1, f2, f3, hp, hq, hr, hu, isObj_int]
  · simp [F_log_first_1, Dz4, f1, f2, f3, hp, hq, hr, hu, isObj_int, h]
def sp_check1 : List V → Mem → Option (V × Mem)
  | [a, .ptr p 0], m => (dec a : Option Zo).bind fun z => (boxH m p).map fun n => (.val (.bool (!zOk z n)), m)
  | _, _ => none
theorem sp_check1_ok : EOkL Try.prog n_dev_Check_1 sp_check1 := by
  intro args m v m' h
  unfold sp_check1 at h
  split at h
  · simp only [Option.bind_eq_some_iff, Option.map_eq_some_iff] at h
    obtain ⟨z, hz, n, hn, h⟩ := h
    cases h
    exact (c_check1 m _ n z hn).wk (wk_dec (WkL.refl _) hz)
  · cases h
def sp_first1 : List V → Mem → Option (V × Mem)
  | [x, .ptr p 0, .ptr q 0, .ptr r 0], m => (dec x : Option Zo).bind fun z => (boxI m p).bind fun a => (boxH m q).bind fun n => (boxI m r).map fun b => (.val (.bool (decide (z.st = a) && decide (b ≤ zRoom z n))), m)
  | _, _ => none
theorem sp_first1_ok : EOkL Try.prog n_log_first_1 sp_first1 := by
  intro args m v m' h
  unfold sp_first1 at h
  split at h
  · simp only [Option.bind_eq_some_iff, Option.map_eq_some_iff] at h
    obtain ⟨z, hz, a, ha, n, hn, b, hb, h⟩ := h
    cases h
    exact (c_first1 m _ _ _ a n b z ha hn hb).wk (wk_dec (WkL.refl _) hz)
  · cases h
/-- What a closure asks of a zone. -/
def zPred (f : FuncId) (cap : List V) (m : Mem) : Option (Zo → Bool) :=
  if f = n_dev_Check_1 then match cap with
    | [.ptr p 0] => (boxH m p).map fun n z => !zOk z n
    | _ => none
  else if f = n_log_first_1 then match cap with
    | [.ptr p 0, .ptr q 0, .ptr r 0] => (boxI m p).bind fun a => (boxH m q).bind fun n => (boxI m r).map fun b z => decide (z.st = a) && decide (b ≤ zRoom z n)
    | _ => none
  else none
def sp_zIdxF : List V → Mem → Option (V × Mem)
  | [a, .func f cap], m => (dec a : Option (List Zo)).bind fun l => (zPred f cap m).bind fun pr => if l.length ≤ 2 ^ 40 then some (.val (.int .i64 (zIdx pr l)), m) else none
  | _, _ => none
theorem sp_zIdxF_ok : EOkL Try.prog n_slices_IndexFunc_Zone sp_zIdxF := by
  intro args m v m' h
  unfold sp_zIdxF at h
  split at h
  · rename_i a f cap
    simp only [Option.bind_eq_some_iff] at h
    obtain ⟨l, hl, pr, hpr, h⟩ := h
    split at h
    · rename_i hll
      cases h
      unfold zPred at hpr
      split at hpr
      · rename_i hf
        subst hf
        split at hpr
        · simp only [Option.map_eq_some_iff] at hpr
          obtain ⟨n, hn, rfl⟩ := hpr
          refine (c_zIndexF _ _ sp_check1 sp_check1_ok m l _ hll fun z => ?_).wk (wk_dec (WkL.refl _) hl)
          simp only [sp_check1, Enc.de, Option.bind_some, hn, Option.map_some]
        · cases hpr
      split at hpr
      · rename_i hf
        subst hf
        split at hpr
        · simp only [Option.bind_eq_some_iff, Option.map_eq_some_iff] at hpr
          obtain ⟨a, ha, n, hn, b, hb, rfl⟩ := hpr
          refine (c_zIndexF _ _ sp_first1 sp_first1_ok m l _ hll fun z => ?_).wk (wk_dec (WkL.refl _) hl)
          simp only [sp_first1, Enc.de, Option.bind_some, ha, hn, hb, Option.map_some]
        · cases hpr
      · cases hpr
    · cases h
  · cases h
def De1 : Orc := Orc.nil.addL n_slices_IndexFunc_Zone sp_zIdxF
theorem De1_ok : OOk Try.prog De1 := OOk.nil.addL sp_zIdxF_ok
theorem c_zContF (m : Mem) (f : FuncId) (cap : List V) (pr : Zo → Bool) (hpr : zPred f cap m = some pr) (l : List Zo) (hl : l.length ≤ 2 ^ 40) :
    Loc Try.prog n_slices_ContainsFunc_Zone [enc l, .func f cap] m (enc (l.any pr)) m := by
  refine Loc.ofC De1_ok hm F_slices_ContainsFunc_Zone_ok (by simp [F_slices_ContainsFunc_Zone]) (.inl rfl) m.boxes.length m.tips.length (Nat.le_refl _) (Nat.le_refl _) fun hu => ?_
  have e := zIdx_nonneg pr l
  simp [F_slices_ContainsFunc_Zone, De1, sp_zIdxF, hpr, decX_map, hl, hu, e]
def sp_zContF : List V → Mem → Option (V × Mem)
  | [a, .func f cap], m => (dec a : Option (List Zo)).bind fun l => (zPred f cap m).bind fun pr => if l.length ≤ 2 ^ 40 then some (.val (.bool (l.any pr)), m) else none
  | _, _ => none
theorem sp_zContF_ok : EOkL Try.prog n_slices_ContainsFunc_Zone sp_zContF := by
  intro args m v m' h
  unfold sp_zContF at h
  split at h
  · simp only [Option.bind_eq_some_iff] at h
    obtain ⟨l, hl, pr, hpr, h⟩ := h
    split at h
    · rename_i hll
      cases h
      exact (c_zContF m _ _ pr hpr l hll).wk (wk_dec (WkL.refl _) hl)
    · cases h
  · cases h
def De2 : Orc := De1.addL n_slices_ContainsFunc_Zone sp_zContF
theorem De2_ok : OOk Try.prog De2 := De1_ok.addL sp_zContF_ok
theorem c_dCheck (d : Dv) (hl : d.zones.length ≤ 2 ^ 40) : Pure Try.prog n_dev_Check [enc d] (enc (dOk d)) [] := by
  refine Pure.ofC De2_ok hm F_dev_Check_ok (by simp [F_dev_Check]) rfl ?_
  obtain ⟨s, l, a, b, c⟩ := d
  simp only at hl
  cases h : l.any (fun z => !zOk z s) with
  | true => simp [F_dev_Check, De2, De1, sp_zContF, zPred, boxH, decX_map, hl, dOk, h]
  | false =>
    by_cases h1 : 0 < l.length
    · by_cases h2 : (l.length : Int) ≤ 64
      · have h2' : l.length ≤ 64 := by omega
        by_cases h3 : 0 < s
        · simp [F_dev_Check, De2, De1, sp_zContF, zPred, boxH, decX_map, hl, dOk, h, h1, h2, h2', h3]
        · simp [F_dev_Check, De2, De1, sp_zContF, zPred, boxH, decX_map, hl, dOk, h, h1, h2, h2', h3]
      · have h2' : ¬ l.length ≤ 64 := by omega
        simp [F_dev_Check, De2, De1, sp_zContF, zPred, boxH, decX_map, hl, dOk, h, h1, h2, h2']
    · have h1' : l = [] := by simpa using h1
      subst h1'
      simp [F_dev_Check, De2, De1, sp_zContF, zPred, boxH, dOk]
theorem c_logFirst (d : Dv) (a b : Int) (hl : d.zones.length ≤ 2 ^ 40) : Pure Try.prog n_log_first [enc d, enc a, enc b] (enc (zIdx (fun z => decide (z.st = a) && decide (b ≤ zRoom z d.size)) d.zones)) [] := by
  refine Pure.ofC De1_ok hm F_log_first_ok (by simp [F_log_first]) rfl ?_
  simp [F_log_first, De1, sp_zIdxF, zPred, boxH, boxI, decX_map, hl]
end Go.Av

namespace Go.Av
open Enc (enc dec)
open Cel (cs dc)
open Go.Proofs Pl

theorem stN_succ (q : Int) (l : List Zo) (i : Nat) (hi : i < l.length) : stN q (l.take (i + 1)) = stN q (l.take i) + (if l[i].st = q then 1 else 0) := by
  have hg : l[i]? = some l[i] := List.getElem?_eq_getElem hi
  unfold stN
  rw [List.take_add_one, hg, List.countP_append]
  simp [List.countP_cons]
theorem stN_le (q : Int) (l : List Zo) : stN q l ≤ l.length := List.countP_le_length
def OpenI (l : List Zo) (q : Int) (k : Nat) (s : Nat → V) (m : Mem) : Prop :=
  ∃ (i : Nat), i + k = l.length ∧ s 6 = .lit 4 (l.map cs) ∧ s 7 = .val (.int .i64 l.length) ∧ s 8 = .val (.int .i64 i) ∧ s 2 = .val (.int .i64 (stN q (l.take i) : Nat))
theorem c_dOpen (d : Dv) (hl : d.zones.length ≤ 2 ^ 40) : Pure Try.prog n_dev_Open [enc d] (enc (stN 1 d.zones : Int)) [] := by
  refine Pure.ofC OOk.nil hm F_dev_Open_ok (by simp [F_dev_Open]) rfl ?_
  obtain ⟨sz, l, a, b, c⟩ := d
  simp only at hl ⊢
  simp [F_dev_Open]
  refine wp_loop (OpenI l 1) l.length (IW.of ⟨0, by omega, by simp, by simp, by simp, by simp [stN]⟩) fun k s m ⟨i, hik, h6, h7, h8, h2⟩ => ?_
  by_cases hi : i < l.length
  · have hg : l[i]? = some l[i] := List.getElem?_eq_getElem hi
    have w1 := IntWalk.i64_in ((i : Int) + 1) (by omega)
    have h3 := stN_le 1 (l.take i)
    have h4 : (l.take i).length ≤ i := by simp; omega
    have w2 := IntWalk.i64_in ((stN 1 (l.take i) : Int) + 1) (by omega)
    have e := stN_succ 1 l i hi
    by_cases hx : l[i].st = 1
    · simp only [hx, if_true] at e
      simp [F_dev_Open_L0, h6, h7, h8, h2, hi, hg, hx, w1, w2]
      exact ⟨k - 1, by omega, IW.of (show OpenI l 1 _ _ _ from ⟨i + 1, by omega, by simpa using h6, by simpa using h7, by simp, by simp [e]⟩)⟩
    · simp only [hx, if_false, Nat.add_zero] at e
      simp [F_dev_Open_L0, h6, h7, h8, h2, hi, hg, hx, w1]
      exact ⟨k - 1, by omega, IW.of (show OpenI l 1 _ _ _ from ⟨i + 1, by omega, by simpa using h6, by simpa using h7, by simp, by simp [e, h2]⟩)⟩
  · have e : l.take i = l := List.take_of_length_le (by omega)
    rw [e] at h2
    simp [F_dev_Open_L0, h6, h7, h8, h2, hi]
theorem c_lEmpty (d : Dv) (hl : d.zones.length ≤ 2 ^ 40) : Pure Try.prog n_log_Empty [enc d] (enc (stN 0 d.zones : Int)) [] := by
  refine Pure.ofC OOk.nil hm F_log_Empty_ok (by simp [F_log_Empty]) rfl ?_
  obtain ⟨sz, l, a, b, c⟩ := d
  simp only at hl ⊢
  simp [F_log_Empty]
  refine wp_loop (OpenI l 0) l.length (IW.of ⟨0, by omega, by simp, by simp, by simp, by simp [stN]⟩) fun k s m ⟨i, hik, h6, h7, h8, h2⟩ => ?_
  by_cases hi : i < l.length
  · have hg : l[i]? = some l[i] := List.getElem?_eq_getElem hi
    have w1 := IntWalk.i64_in ((i : Int) + 1) (by omega)
    have h3 := stN_le 0 (l.take i)
    have h4 : (l.take i).length ≤ i := by simp; omega
    have w2 := IntWalk.i64_in ((stN 0 (l.take i) : Int) + 1) (by omega)
    have e := stN_succ 0 l i hi
    by_cases hx : l[i].st = 0
    · simp only [hx, if_true] at e
      simp [F_log_Empty_L0, h6, h7, h8, h2, hi, hg, hx, w1, w2]
      exact ⟨k - 1, by omega, IW.of (show OpenI l 0 _ _ _ from ⟨i + 1, by omega, by simpa using h6, by simpa using h7, by simp, by simp [e]⟩)⟩
    · simp only [hx, if_false, Nat.add_zero] at e
      simp [F_log_Empty_L0, h6, h7, h8, h2, hi, hg, hx, w1]
      exact ⟨k - 1, by omega, IW.of (show OpenI l 0 _ _ _ from ⟨i + 1, by omega, by simpa using h6, by simpa using h7, by simp, by simp [e, h2]⟩)⟩
  · have e : l.take i = l := List.take_of_length_le (by omega)
    rw [e] at h2
    simp [F_log_Empty_L0, h6, h7, h8, h2, hi]
def dNew (n s : Int) : Dv := if n < 1 ∨ 64 < n ∨ s < 1 ∨ 1048576 < s then ⟨0, [], 0, false, 0⟩ else ⟨s, List.replicate n.toNat ⟨0, 0, [], 0⟩, -1, false, 0⟩
def dNewE (n s : Int) : Int := if n < 1 ∨ 64 < n ∨ s < 1 ∨ 1048576 < s then 1 else 0
theorem c_dNew (n s : Int) : Pure Try.prog n_dev_New [enc n, enc s] (.tuple [enc (dNew n s), enc (dNewE n s)]) [] := by
  refine Pure.ofC OOk.nil hm F_dev_New_ok (by simp [F_dev_New]) (by simp [V.res, V.res1]) ?_
  by_cases h1 : n < 1
  · simp [F_dev_New, h1, dNew, dNewE]
  by_cases h2 : 64 < n
  · simp [F_dev_New, h1, h2, dNew, dNewE]
  by_cases h3 : s < 1
  · simp [F_dev_New, h1, h2, h3, dNew, dNewE]
  by_cases h4 : 1048576 < s
  · simp [F_dev_New, h1, h2, h3, h4, dNew, dNewE]
  simp [F_dev_New, h1, h2, h3, h4, dNew, dNewE]
  omega
/-- The commands' functions, by kinds. -/
def doesM : List (Int × V) := [(1, .func n_dev_command_append []), (2, .func n_dev_command_reset []), (3, .func n_dev_command_finish []), (4, .func n_dev_command_close [])]
theorem c_does (m : Mem) : ∃ kvs, (∀ k, mpAt kvs k = mpAt doesM k) ∧ Loc Try.prog n_dev_does [] m (.ref .map m.boxes.length) ⟨m.boxes ++ [mpV kvs], m.tips⟩ := by
  refine ⟨mpPut (mpPut (mpPut (mpPut [] 1 (.func n_dev_command_append [])) 2 (.func n_dev_command_reset [])) 3 (.func n_dev_command_finish [])) 4 (.func n_dev_command_close []), fun k => ?_, ?_⟩
  · rfl
  · refine Loc.ofX OOk.nil hm F_dev_does_ok (by simp [F_dev_does]) ?_
    simp [F_dev_does]
end Go.Av

namespace Go.Av
open Enc (enc dec)
open Cel (cs dc)
open Go.Proofs Pl

/-- The cells of zones. -/
def zC (l : List Zo) : List V := (l.map cs).flatten
theorem cs4 (z : Zo) : (cs z : List V).length = 4 := rfl
theorem zC_nil : zC [] = [] := rfl
theorem zC_cons (z : Zo) (l : List Zo) : zC (z :: l) = cs z ++ zC l := rfl
theorem zC_app (a b : List Zo) : zC (a ++ b) = zC a ++ zC b := by simp [zC]
theorem zC_length : ∀ (l : List Zo), (zC l).length = l.length * 4
  | [] => rfl
  | z :: l => by rw [zC_cons, List.length_append, zC_length l, cs4, List.length_cons]; omega
theorem zC_split (l : List Zo) (i : Nat) (hi : i < l.length) : zC l = zC (l.take i) ++ (cs l[i] ++ zC (l.drop (i + 1))) := by
  have : l = l.take i ++ l[i] :: l.drop (i + 1) := by simp
  rw [← zC_cons, ← zC_app]
  exact congrArg zC this
theorem zC_take_len (l : List Zo) (i : Nat) (hi : i < l.length) : (zC (l.take i)).length = i * 4 := by rw [zC_length, List.length_take, Nat.min_eq_left (by omega)]
theorem zC_drop (l : List Zo) (i k : Nat) (hi : i < l.length) : (zC l).drop (i * 4 + k) = (cs l[i] ++ zC (l.drop (i + 1))).drop k := by
  rw [zC_split l i hi, ← zC_take_len l i hi, List.drop_append, List.drop_eq_nil_of_le (by omega), Nat.add_sub_cancel_left]
  rfl
theorem zC_set (l : List Zo) (i : Nat) (hi : i < l.length) (z : Zo) : (zC l).take (i * 4) ++ cs z ++ (zC l).drop (i * 4 + 4) = zC (l.set i z) := by
  rw [zC_drop l i 4 hi]
  have h1 : (zC l).take (i * 4) = zC (l.take i) := by rw [zC_split l i hi, ← zC_take_len l i hi, List.take_left']; rfl
  have h2 : (cs l[i] ++ zC (l.drop (i + 1))).drop 4 = zC (l.drop (i + 1)) := by rw [← cs4 l[i], List.drop_left']; rfl
  rw [h1, h2, List.append_assoc, ← zC_cons, ← zC_app, List.set_eq_take_append_cons_drop, if_pos hi]
theorem zC_set2 (l : List Zo) (i : Nat) (hi : i < l.length) : (zC l).take (i * 4 + 2) ++ [.lit 1 (l[i].data.map cs)] ++ (zC l).drop (i * 4 + 2 + 1) = zC l := by
  have h3 : (zC l)[i * 4 + 2]? = some (.lit 1 (l[i].data.map cs)) := by
    have := congrArg (·[0]?) (zC_drop l i 2 hi)
    simpa using this
  have hlt := lt_of_some h3
  have h4 : (zC l)[i * 4 + 2] = .lit 1 (l[i].data.map cs) := by
    rw [List.getElem?_eq_getElem hlt] at h3
    exact Option.some.inj h3
  rw [List.append_assoc, ← h4]
  simp
theorem chunk_zC (l : List Zo) : chunkV 4 l.length (zC l) = l.map cs := by
  have := chunkV_of (sz := 4) (l.map cs) (by intro e he; obtain ⟨z, _, rfl⟩ := List.mem_map.1 he; rfl) []
  simpa [zC] using this

/-- Of zones in a box. -/
def rdZ (m : Mem) : V → Option (List Zo)
  | .ref (.sli 0 4 n) b => (m.boxes[b]?).bind fun c => if c.length = n * 4 then decX (chunkV 4 n (c.map V.top1)) else none
  | _ => none
def rdD (m : Mem) : V → Option Dv
  | .agg [a, z, b, c, d] => (dec a).bind fun a => (rdZ m z).bind fun z => (dec b).bind fun b => (dec c).bind fun c => (dec d).bind fun d => some ⟨a, z, b, c, d⟩
  | _ => none
theorem zC_top1 : ∀ l : List Zo, (zC l).map V.top1 = zC l
  | [] => rfl
  | z :: l => by
    rw [zC_cons, List.map_append, zC_top1 l]
    rfl
theorem rdZ_of {m : Mem} {b : Nat} {l : List Zo} {n : Nat} (hn : n = l.length) (h : m.boxes[b]? = some (zC l)) : rdZ m (.ref (.sli 0 4 n) b) = some l := by
  subst hn
  simp only [rdZ, h, Option.bind_some, zC_length, if_true, zC_top1, chunk_zC, decX_map]
theorem rdZ_unref {m : Mem} {v : V} {l : List Zo} (h : rdZ m v = some l) : dec (unref1 0 m v) = some l := by
  unfold rdZ at h
  split at h
  · rename_i n b
    simp only [Option.bind_eq_some_iff] at h
    obtain ⟨c, hc, h⟩ := h
    split at h
    · rename_i hl
      have ho : isObj c = false := by
        unfold isObj
        split
        · simp at hl; omega
        · rfl
      simp only [unref1, hc]
      rw [if_pos ⟨Nat.zero_le _, ho, by omega⟩, List.drop_zero]
      exact h
    · cases h
  · cases h
theorem unref1_nr (m : Mem) (v : V) (h : ∀ k b, v ≠ .ref k b) : unref1 0 m v = v := by
  unfold unref1
  split
  · exact absurd rfl (h _ _)
  · rfl
theorem dec_int_nr {v : V} {n : Int} (h : dec v = some n) (k : Rk) (b : Nat) : v ≠ .ref k b := by rintro rfl; cases h
theorem dec_bool_nr {v : V} {n : Bool} (h : dec v = some n) (k : Rk) (b : Nat) : v ≠ .ref k b := by rintro rfl; cases h
theorem rdD_unref {m : Mem} {v : V} {d : Dv} (h : rdD m v = some d) : dec (unref 0 m v) = some d := by
  unfold rdD at h
  split at h
  · rename_i a z b c e
    simp only [Option.bind_eq_some_iff] at h
    obtain ⟨a', ha, z', hz, b', hb, c', hc, e', he, h⟩ := h
    simp only [unref, unrefA, List.map_cons, List.map_nil, unref1_nr m a (dec_int_nr ha), unref1_nr m b (dec_int_nr hb), unref1_nr m c (dec_bool_nr hc), unref1_nr m e (dec_int_nr he), dec_dv, dc_dv, ha, hb, hc, he, rdZ_unref hz, Option.bind_some]
    exact h
  · cases h
/-- Functions that read such a device. -/
def sp_rd {α : Type} [Enc α] (f : Dv → α) : List V → Mem → Option (V × Mem)
  | [v], m => (rdD m v).bind fun d => if d.zones.length ≤ 2 ^ 40 then some (enc (f d), m) else none
  | _, _ => none
theorem sp_rd_ok {α : Type} [Enc α] {n : FuncId} {f : Dv → α} (hs : ∀ a : α, scal (enc a) = true) (h : ∀ d : Dv, d.zones.length ≤ 2 ^ 40 → Pure Try.prog n [enc d] (enc (f d)) []) : EOkL Try.prog n (sp_rd f) := by
  intro args m v m' hh
  unfold sp_rd at hh
  split at hh
  · simp only [Option.bind_eq_some_iff] at hh
    obtain ⟨d, hd, hh⟩ := hh
    split at hh
    · rename_i hl
      cases hh
      exact Pure.lend (h d hl) (wk_dec (WkL.refl _) (rdD_unref hd)) (by simp [clean_cs]) (hs _)
    · cases hh
  · cases hh
theorem sp_openL_ok : EOkL Try.prog n_dev_Open (sp_rd fun d => (stN 1 d.zones : Int)) := sp_rd_ok (fun _ => rfl) c_dOpen
theorem sp_checkL_ok : EOkL Try.prog n_dev_Check (sp_rd dOk) := sp_rd_ok (fun _ => rfl) c_dCheck

/-- Zones copied to a box. -/
theorem c_zClone (m : Mem) (l : List Zo) (hne : l ≠ []) (hl : l.length ≤ 2 ^ 40) : Loc Try.prog n_slices_Clone_Zone [enc l] m (.ref (.sli 0 4 l.length) m.boxes.length) ⟨m.boxes ++ [zC l], m.tips⟩ := by
  refine Loc.ofX OOk.nil hm F_slices_Clone_Zone_ok (by simp [F_slices_Clone_Zone]) ?_
  obtain ⟨z, r, rfl⟩ := List.exists_cons_of_ne_nil hne
  simp at hl
  simp [F_slices_Clone_Zone, zC]
  omega
def sp_zClone : List V → Mem → Option (V × Mem)
  | [v], m => (dec v : Option (List Zo)).bind fun l => if l ≠ [] ∧ l.length ≤ 2 ^ 40 then some (.ref (.sli 0 4 l.length) m.boxes.length, ⟨m.boxes ++ [zC l], m.tips⟩) else none
  | _, _ => none
theorem sp_zClone_ok : EOkL Try.prog n_slices_Clone_Zone sp_zClone := by
  intro args m v m' h
  unfold sp_zClone at h
  split at h
  · simp only [Option.bind_eq_some_iff] at h
    obtain ⟨l, hl, h⟩ := h
    split at h
    · rename_i hc
      cases h
      exact (c_zClone m l hc.1 hc.2).wk (wk_dec (WkL.refl _) hl)
    · cases h
  · cases h
end Go.Av

namespace Go.Av.Pl
/-- What a command does to a zone. -/
def dCmd (k : Int) (d : Dv) (z : Zo) (b : List UInt8) : Zo × Int :=
  if k = 1 then (if z.st ≠ 1 ∧ 3 ≤ stN 1 d.zones then (z, 30) else zApp z d.size b) else if k = 2 then zRes z else if k = 3 then zFin z else zClo z
end Go.Av.Pl
namespace Go.Av
open Enc (enc dec)
open Cel (cs dc)
open Go.Proofs Pl

theorem Mem.le_app (m : Mem) (bs : List (List V)) (t : List Tip) : m.le ⟨m.boxes ++ bs, t⟩ := fun b cs h => by
  rw [List.getElem?_append_left (lt_of_some h)]; exact h
theorem rdZ_le {m m1 : Mem} (h : m.le m1) {v : V} {l : List Zo} (hr : rdZ m v = some l) : rdZ m1 v = some l := by
  unfold rdZ at hr ⊢
  split at hr
  · rename_i n b
    simp only [Option.bind_eq_some_iff] at hr
    obtain ⟨c, hc, hr⟩ := hr
    simp only [h b c hc, Option.bind_some]
    exact hr
  · cases hr
theorem rdD_le {m m1 : Mem} (h : m.le m1) {v : V} {d : Dv} (hr : rdD m v = some d) : rdD m1 v = some d := by
  unfold rdD at hr ⊢
  split at hr
  · simp only [Option.bind_eq_some_iff] at hr
    obtain ⟨a, ha, z, hz, r⟩ := hr
    simp only [ha, rdZ_le h hz, Option.bind_some, Option.bind_eq_some_iff]
    exact r
  · cases hr
theorem dec_int_eq {v : V} {n : Int} (h : dec v = some n) : v = .val (.int .i64 n) := by
  cases v with
  | val x => cases x with
    | int k i => cases k <;> first | (cases h; rfl) | cases h
    | _ => cases h
  | _ => cases h
theorem dec_bool_eq {v : V} {n : Bool} (h : dec v = some n) : v = .val (.bool n) := by
  cases v with
  | val x => cases x with
    | bool b => cases h; rfl
    | _ => cases h
  | _ => cases h
/-- A device's box. -/
def dvAt (m : Mem) (p : Nat) : Option Dv := (m.boxes[p]?).bind fun c => rdD m (.agg c)
theorem dvAt_some {m : Mem} {p : Nat} {d : Dv} (h : dvAt m p = some d) : ∃ z, m.boxes[p]? = some [.val (.int .i64 d.size), z, .val (.int .i64 d.left), .val (.bool d.down), .val (.int .i64 d.done)] ∧ rdZ m z = some d.zones ∧ rdD m (.agg [.val (.int .i64 d.size), z, .val (.int .i64 d.left), .val (.bool d.down), .val (.int .i64 d.done)]) = some d := by
  unfold dvAt at h
  simp only [Option.bind_eq_some_iff] at h
  obtain ⟨c, hc, h⟩ := h
  have h0 := h
  unfold rdD at h
  split at h
  · rename_i e
    cases e
    simp only [Option.bind_eq_some_iff] at h
    obtain ⟨a, ha, z, hz, b, hb, c', hc', e, he, h⟩ := h
    cases h
    have e1 := dec_int_eq ha
    have e2 := dec_int_eq hb
    have e3 := dec_bool_eq hc'
    have e4 := dec_int_eq he
    subst e1 e2 e3 e4
    exact ⟨_, hc, hz, h0⟩
  · cases h
theorem dvAt_le {m m1 : Mem} (h : m.le m1) {p : Nat} {d : Dv} (hr : dvAt m p = some d) : dvAt m1 p = some d := by
  unfold dvAt at hr ⊢
  simp only [Option.bind_eq_some_iff] at hr
  obtain ⟨c, hc, hr⟩ := hr
  simp only [h p c hc, Option.bind_some]
  exact rdD_le h hr
@[simp] def sp_zAppend (z : Zo) (n : Int) (b : List UInt8) : Option (V × List Tip) := if z.data.length ≤ 2 ^ 30 ∧ b.length ≤ 2 ^ 30 then some (.tuple [enc (zApp z n b).1, enc (zApp z n b).2], []) else none
theorem sp_zAppend_ok : EOk Try.prog n_zone_Append (sp3 sp_zAppend) := sp3_ok fun z n b r h => by
  simp only [sp_zAppend] at h
  split at h
  · rename_i hc
    cases h
    exact c_zAppend z n b hc.1 hc.2
  · cases h
@[simp] def sp_zUn (f : Zo → Zo × Int) (z : Zo) : Option (V × List Tip) := if z.data.length ≤ 2 ^ 30 then some (.tuple [enc (f z).1, enc (f z).2], []) else none
theorem sp_zUn_ok {n : FuncId} {f : Zo → Zo × Int} (hc : ∀ z : Zo, z.data.length ≤ 2 ^ 30 → Pure Try.prog n [enc z] (.tuple [enc (f z).1, enc (f z).2]) []) : EOk Try.prog n (sp1 (sp_zUn f)) := sp1_ok fun z r h => by
  simp only [sp_zUn] at h
  split at h
  · cases h
    exact hc z (by assumption)
  · cases h
def Dh1 : Orc := (Orc.nil.add n_zone_Append (sp3 sp_zAppend)).addL n_dev_Open (sp_rd fun d => (stN 1 d.zones : Int))
theorem Dh1_ok : OOk Try.prog Dh1 := (OOk.nil.add sp_zAppend_ok).addL sp_openL_ok
theorem c_capp (m : Mem) (p : Nat) (c : Rec) (z : Zo) (d : Dv) (hd : dvAt m p = some d) (hl : d.zones.length ≤ 2 ^ 40) (hz : z.data.length ≤ 2 ^ 30) (hb : c.body.length ≤ 2 ^ 30) :
    Loc Try.prog n_dev_command_append [enc c, .ptr p 0, enc z] m (.tuple [enc (dCmd 1 d z c.body).1, enc (dCmd 1 d z c.body).2]) m := by
  refine Loc.ofC Dh1_ok hm F_dev_command_append_ok (by simp [F_dev_command_append]) (.inr ⟨_, rfl, by simp [clean_cs]⟩) m.boxes.length m.tips.length (Nat.le_refl _) (Nat.le_refl _) fun hu => ?_
  obtain ⟨zv, hp, hzv, hrd⟩ := dvAt_some hd
  have hpl : p < m.boxes.length := lt_of_some hp
  have f1 : ∀ (b : List (List V)), (m.boxes ++ b)[p]? = m.boxes[p]? := fun b => List.getElem?_append_left hpl
  have f2 : ∀ (b : List (List V)) (t : List Tip), rdD ⟨m.boxes ++ b, t⟩ (.agg [.val (.int .i64 d.size), zv, .val (.int .i64 d.left), .val (.bool d.down), .val (.int .i64 d.done)]) = some d := fun b t => rdD_le (Mem.le_app m b t) hrd
  clear hpl
  obtain ⟨k, n, b⟩ := c
  obtain ⟨x, r, y, la⟩ := z
  simp at hz hb hl
  by_cases h1 : x = 1
  · subst h1
    simp [F_dev_command_append, Dh1, f1, f2, hp, hu, box_new, box_new2, box_set, sp_rd, hl, hz, hb, dCmd, decX_cs, clean_cs, isObj_int]
  · by_cases h2 : 3 ≤ (stN 1 d.zones : Int)
    · have h2' : 3 ≤ stN 1 d.zones := by omega
      simp [F_dev_command_append, Dh1, f1, f2, hp, hu, box_new, box_new2, box_set, sp_rd, hl, hz, hb, dCmd, decX_cs, clean_cs, isObj_int, h1, h2, h2']
    · have h2' : ¬ 3 ≤ stN 1 d.zones := by omega
      simp [F_dev_command_append, Dh1, f1, f2, hp, hu, box_new, box_new2, box_set, sp_rd, hl, hz, hb, dCmd, decX_cs, clean_cs, isObj_int, h1, h2, h2']
theorem c_creset (m : Mem) (v : V) (c : Rec) (z : Zo) (hz : z.data.length ≤ 2 ^ 30) : Loc Try.prog n_dev_command_reset [enc c, v, enc z] m (.tuple [enc (zRes z).1, enc (zRes z).2]) m := by
  refine Loc.ofC (OOk.nil.add (sp_zUn_ok c_zReset)) hm F_dev_command_reset_ok (by simp [F_dev_command_reset]) (.inr ⟨_, rfl, by simp [clean_cs]⟩) m.boxes.length m.tips.length (Nat.le_refl _) (Nat.le_refl _) fun hu => ?_
  obtain ⟨k, n, b⟩ := c
  obtain ⟨x, r, y, la⟩ := z
  simp at hz
  simp [F_dev_command_reset, hu, box_new, box_new2, box_set, hz, decX_cs, clean_cs, isObj_int]
theorem c_cfinish (m : Mem) (v : V) (c : Rec) (z : Zo) (hz : z.data.length ≤ 2 ^ 30) : Loc Try.prog n_dev_command_finish [enc c, v, enc z] m (.tuple [enc (zFin z).1, enc (zFin z).2]) m := by
  refine Loc.ofC (OOk.nil.add (sp_zUn_ok c_zFinish)) hm F_dev_command_finish_ok (by simp [F_dev_command_finish]) (.inr ⟨_, rfl, by simp [clean_cs]⟩) m.boxes.length m.tips.length (Nat.le_refl _) (Nat.le_refl _) fun hu => ?_
  obtain ⟨k, n, b⟩ := c
  obtain ⟨x, r, y, la⟩ := z
  simp at hz
  simp [F_dev_command_finish, hu, box_new, box_new2, box_set, hz, decX_cs, clean_cs, isObj_int]
theorem c_cclose (m : Mem) (v : V) (c : Rec) (z : Zo) (hz : z.data.length ≤ 2 ^ 30) : Loc Try.prog n_dev_command_close [enc c, v, enc z] m (.tuple [enc (zClo z).1, enc (zClo z).2]) m := by
  refine Loc.ofC (OOk.nil.add (sp_zUn_ok c_zClose)) hm F_dev_command_close_ok (by simp [F_dev_command_close]) (.inr ⟨_, rfl, by simp [clean_cs]⟩) m.boxes.length m.tips.length (Nat.le_refl _) (Nat.le_refl _) fun hu => ?_
  obtain ⟨k, n, b⟩ := c
  obtain ⟨x, r, y, la⟩ := z
  simp at hz
  simp [F_dev_command_close, hu, box_new, box_new2, box_set, hz, decX_cs, clean_cs, isObj_int]
def sp_cmd (k : Int) : List V → Mem → Option (V × Mem)
  | [c, .ptr p 0, z], m => (dec c : Option Rec).bind fun c => (dec z : Option Zo).bind fun z => (dvAt m p).bind fun d => if d.zones.length ≤ 2 ^ 40 ∧ z.data.length ≤ 2 ^ 30 ∧ c.body.length ≤ 2 ^ 30 then
      some (.tuple [enc (dCmd k d z c.body).1, enc (dCmd k d z c.body).2], m) else none
  | _, _ => none
theorem sp_cmd_ok {n : FuncId} {k : Int} (hc : ∀ (m : Mem) (p : Nat) (c : Rec) (z : Zo) (d : Dv), dvAt m p = some d → d.zones.length ≤ 2 ^ 40 → z.data.length ≤ 2 ^ 30 → c.body.length ≤ 2 ^ 30 →
    Loc Try.prog n [enc c, .ptr p 0, enc z] m (.tuple [enc (dCmd k d z c.body).1, enc (dCmd k d z c.body).2]) m) : EOkL Try.prog n (sp_cmd k) := by
  intro args m v m' h
  unfold sp_cmd at h
  split at h
  · rename_i c p z
    simp only [Option.bind_eq_some_iff] at h
    obtain ⟨c', hc', z', hz', d, hd, h⟩ := h
    split at h
    · rename_i hb
      cases h
      have h1 := hc m p c' z' d hd hb.1 hb.2.1 hb.2.2
      refine h1.wk (wk_dec ?_ hc')
      intro M w us hr
      obtain ⟨x, r, rfl, k1, k2⟩ := hr
      exact ⟨x, r, rfl, k1, wk_dec (WkL.refl _) hz' M w r k2⟩
    · cases h
  · cases h
theorem sp_capp_ok : EOkL Try.prog n_dev_command_append (sp_cmd 1) := sp_cmd_ok c_capp
theorem sp_cres_ok : EOkL Try.prog n_dev_command_reset (sp_cmd 2) := sp_cmd_ok fun m p c z d _ _ hz _ => c_creset m (.ptr p 0) c z hz
theorem sp_cfin_ok : EOkL Try.prog n_dev_command_finish (sp_cmd 3) := sp_cmd_ok fun m p c z d _ _ hz _ => c_cfinish m (.ptr p 0) c z hz
theorem sp_cclo_ok : EOkL Try.prog n_dev_command_close (sp_cmd 4) := sp_cmd_ok fun m p c z d _ _ hz _ => c_cclose m (.ptr p 0) c z hz
end Go.Av

namespace Go.Av
open Enc (enc dec)
open Cel (cs dc)
open Go.Proofs Pl

theorem underL_app {k j : Nat} : ∀ {a b : List V}, underL k j (a ++ b) = (underL k j a && underL k j b)
  | [], b => rfl
  | x :: a, b => by simp only [List.cons_append, underL, underL_app (a := a), Bool.and_assoc]
theorem zC_under (k j : Nat) : ∀ l : List Zo, underL k j (zC l) = true
  | [] => rfl
  | z :: l => by
    rw [zC_cons, underL_app, zC_under k j l]
    simp [under_cs]
theorem zC_obj (l : List Zo) : isObj (zC l) = false := by
  cases l with
  | nil => rfl
  | cons z l => rfl
/-- A device in two boxes. -/
structure DB (m : Mem) (p zb : Nat) (d : Dv) : Prop where
  hp : m.boxes[p]? = some [.val (.int .i64 d.size), .ref (.sli 0 4 d.zones.length) zb, .val (.int .i64 d.left), .val (.bool d.down), .val (.int .i64 d.done)]
  hz : m.boxes[zb]? = some (zC d.zones)
theorem DB.at {m : Mem} {p zb : Nat} {d : Dv} (h : DB m p zb d) : dvAt m p = some d := by
  unfold dvAt
  rw [h.hp, Option.bind_some]
  unfold rdD
  simp only [rdZ_of rfl h.hz, Option.bind_some, dec_int, dec_bool]
theorem DB.app {m : Mem} {p zb : Nat} {d : Dv} (h : DB m p zb d) (bs : List (List V)) (t : List Tip) : DB ⟨m.boxes ++ bs, t⟩ p zb d := ⟨Mem.le_app m bs t _ _ h.hp, Mem.le_app m bs t _ _ h.hz⟩
/-- What may be in a device. -/
structure DSm (d : Dv) : Prop where
  n : d.zones.length ≤ 2 ^ 40
  z : ∀ z ∈ d.zones, z.data.length ≤ 2 ^ 30
def doesK : List (Int × V) := mpPut (mpPut (mpPut (mpPut [] 1 (.func n_dev_command_append [])) 2 (.func n_dev_command_reset [])) 3 (.func n_dev_command_finish [])) 4 (.func n_dev_command_close [])
def sp_does : List V → Mem → Option (V × Mem)
  | [], m => some (.ref .map m.boxes.length, ⟨m.boxes ++ [mpV doesK], m.tips⟩)
  | _, _ => none
theorem sp_does_ok : EOkL Try.prog n_dev_does sp_does := by
  intro args m v m' h
  unfold sp_does at h
  split at h
  · cases h
    refine Loc.ofX OOk.nil hm F_dev_does_ok (by simp [F_dev_does]) ?_
    simp [F_dev_does, doesK]
  · cases h
section
variable {q : Bool} {D : Orc} {x x' : V} {args : List V} {m : Mem} {F : V → Mem → Prop}
@[congr] theorem callrW_congr (h : NF x = x') : callrW q D x args m F = callrW q D x' args m F := by rw [← h]; rfl
@[simp] theorem callrW_func {f : FuncId} {cap : List V} : callrW q D (.func f cap) args m F = ((q = false ∧ D.isLoc f = true) ∧ goWp (D.loc f (args ++ cap) m) fun v m' => (m' = m ∧ ∀ m1, m.le m1 → D.loc f (args ++ cap) m1 = some (v, m1)) ∧ F v m') := Eq.trans rfl rfl
end
@[simp] theorem addL_loc (D : Orc) (n : FuncId) (sp : List V → Mem → Option (V × Mem)) : (D.addL n sp).loc n = sp := if_pos rfl
@[simp] theorem addL_isLoc (D : Orc) (n : FuncId) (sp : List V → Mem → Option (V × Mem)) : (D.addL n sp).isLoc n = true := if_pos rfl
theorem sp_cmd_at {k : Int} {m : Mem} {p : Nat} {d : Dv} (h : dvAt m p = some d) {a b : Int} {c : List UInt8} {z : Zo} (hn : d.zones.length ≤ 2 ^ 40) (hz : z.data.length ≤ 2 ^ 30) (hb : c.length ≤ 2 ^ 30) :
    sp_cmd k [.agg [.val (.int .i64 a), .val (.int .i64 b), .lit 1 (c.map cs)], .ptr p 0, .agg [.val (.int .i64 z.st), .val (.int .i64 z.rs), .lit 1 (z.data.map cs), .val (.int .i64 z.la)]] m = some (.tuple [enc (dCmd k d z c).1, enc (dCmd k d z c).2], m) := by
  have h1 := Enc.de (⟨a, b, c⟩ : Rec)
  have h2 := Enc.de z
  rw [enc_rec] at h1
  rw [enc_zo] at h2
  simp only [sp_cmd, h1, h2, h, Option.bind_some]
  rw [if_pos ⟨hn, hz, hb⟩]
theorem c_dDone1 (k : Int) (fid : FuncId) (hk5 : ¬ k = 5) (hk : mpAt doesK k = some (.func fid [])) (he : EOkL Try.prog fid (sp_cmd k)) (hf : ¬ 160 = fid) (m : Mem) (p zb : Nat) (d : Dv) (h : DB m p zb d) (hpz : zb ≠ p) (hs : DSm d) (i : Nat) (b : List UInt8) (hi : i < d.zones.length) (hb : b.length ≤ 2 ^ 30) (z' : Zo) (hc : dCmd k d d.zones[i] b = (z', 0)) :
    Loc Try.prog n_dev_done [.ptr p 0, enc (⟨k, i, b⟩ : Rec)] m (.val (.int .i64 0)) ⟨m.boxes.set zb (zC (d.zones.set i z')), m.tips⟩ := by
  refine Loc.ofC ((OOk.nil.addL sp_does_ok).addL he) hm F_dev_done_ok (by simp [F_dev_done]) (.inl rfl) m.boxes.length m.tips.length (Nat.le_refl _) (Nat.le_refl _) fun hu => ?_
  have hzl := lt_of_some h.hz
  have f1 : ∀ (b : List (List V)), (m.boxes ++ b)[p]? = m.boxes[p]? := fun b => List.getElem?_append_left (lt_of_some h.hp)
  have f2 : ∀ (b : List (List V)), (m.boxes ++ b)[zb]? = m.boxes[zb]? := fun b => List.getElem?_append_left (lt_of_some h.hz)
  have f3 : ∀ (b : List (List V)) (x : List V), (m.boxes ++ b).set zb x = m.boxes.set zb x ++ b := fun b x => List.set_append_left zb x hzl
  have f4 : ∀ (b : List (List V)) (x : List V), (m.boxes.set zb x ++ b).take m.boxes.length = m.boxes.set zb x := fun b x => by rw [← (List.length_set : (m.boxes.set zb x).length = m.boxes.length), List.take_left']; rfl
  have hU := underX_set (p := zb) hu (zC_under m.boxes.length m.tips.length (d.zones.set i z'))
  have g0 := zC_drop d.zones i 0 hi
  have g1 := zC_set d.zones i hi z'
  have g2 : i * 4 + 4 ≤ (zC d.zones).length := by rw [zC_length]; omega
  have hp := h.hp
  have hz := h.hz
  have hiI : (i : Int) < d.zones.length := by omega
  have hzd := hs.z _ (List.getElem_mem hi)
  have hB : ∀ (bs : List (List V)) (t : List Tip) (m1 : Mem), (⟨m.boxes ++ bs, t⟩ : Mem).le m1 → sp_cmd k [.agg [.val (.int .i64 k), .val (.int .i64 i), .lit 1 (b.map cs)], .ptr p 0, .agg [.val (.int .i64 d.zones[i].st), .val (.int .i64 d.zones[i].rs), .lit 1 (d.zones[i].data.map cs), .val (.int .i64 d.zones[i].la)]] m1 = some (.tuple [enc z', .val (.int .i64 0)], m1) := fun bs t m1 hle => by
    rw [sp_cmd_at (dvAt_le hle (h.app bs t).at) hs.n hzd hb, hc]
    rfl
  have hB0 := fun bs t => hB bs t ⟨m.boxes ++ bs, t⟩ (Mem.le_refl _)
  simp at g0 g1 hB hB0
  clear hzl
  simp [F_dev_done, f1, f2, f3, f4, hp, hz, box_new, box_new2, box_set, sp_does, hf, hk, hk5, hi, hiI, zC_obj, g0, g1, g2, hB0, hU]
  exact fun m1 hle => hB _ _ m1 hle
end Go.Av

namespace Go.Av.Pl
def dLeft (d : Dv) : Int := if 0 < d.left then d.left - 1 else d.left
/-- A device behind a command that was done. -/
def dDid (d : Dv) (zs : List Zo) : Dv := ⟨d.size, zs, dLeft d, d.down, d.done + 1⟩
end Go.Av.Pl
namespace Go.Av
open Enc (enc dec)
open Cel (cs dc)
open Go.Proofs Pl

theorem oneL {P : Program} {n : FuncId} {A : List V} {M M' : Mem} {v : V} (h : Loc P n A M v M') : ∃ sp, EOkL P n sp ∧ sp A M = some (v, M') := by
  classical
  refine ⟨fun args m => if args = A ∧ m = M then some (v, M') else none, fun args m v1 m1 h1 => ?_, if_pos ⟨rfl, rfl⟩⟩
  simp only at h1
  split at h1
  · rename_i hc
    obtain ⟨rfl, rfl⟩ := hc
    cases h1
    exact h
  · cases h1
def dvB (d : Dv) (zb : Nat) : List V := [.val (.int .i64 d.size), .ref (.sli 0 4 d.zones.length) zb, .val (.int .i64 d.left), .val (.bool d.down), .val (.int .i64 d.done)]
theorem c_do1 (k : Int) (fid : FuncId) (hk5 : ¬ k = 5) (hk : mpAt doesK k = some (.func fid [])) (he : EOkL Try.prog fid (sp_cmd k)) (hf : ¬ 160 = fid) (m : Mem) (p zb eb cb : Nat) (d : Dv) (h : DB m p zb d) (hpz : zb ≠ p) (hpe : p ≠ eb) (hpc : p ≠ cb) (hze : zb ≠ eb) (hs : DSm d) (i : Nat) (b : List UInt8)
    (hi : i < d.zones.length) (hb : b.length ≤ 2 ^ 30) (z' : Zo) (hc : dCmd k d d.zones[i] b = (z', 0)) (hE : m.boxes[eb]? = some [.val (.int .i64 0)]) (hC : m.boxes[cb]? = some (cs (⟨k, i, b⟩ : Rec)))
    (hok : dOk d = true) (hd : d.down = false) (hl : ¬ d.left = 0) (hll : -(2 ^ 62) ≤ d.left ∧ d.left ≤ 2 ^ 62) (hdn : 0 ≤ d.done ∧ d.done ≤ 2 ^ 62) :
    Loc Try.prog n_dev_Do_1 [.ptr p 0, .ptr eb 0, .ptr cb 0] m (.tuple []) ⟨(m.boxes.set p (dvB (dDid d d.zones) zb)).set zb (zC (d.zones.set i z')), m.tips⟩ := by
  have hpl := lt_of_some h.hp
  have f0 : ∀ (x y : List V), (m.boxes.set p x).set p y = m.boxes.set p y := fun x y => List.set_set ..
  have f1 : ∀ (x : List V), (m.boxes.set p x)[p]? = some x := fun x => List.getElem?_set_self hpl
  have f2 : ∀ (x : List V), (m.boxes.set p x)[zb]? = m.boxes[zb]? := fun x => List.getElem?_set_ne (Ne.symm hpz)
  have f3 : ∀ (x : List V), (m.boxes.set p x)[eb]? = m.boxes[eb]? := fun x => List.getElem?_set_ne hpe
  have f4 : ∀ (x : List V), (m.boxes.set p x)[cb]? = m.boxes[cb]? := fun x => List.getElem?_set_ne hpc
  have f5 : ∀ (x y : List V), ((m.boxes.set p x).set zb y)[eb]? = m.boxes[eb]? := fun x y => by rw [List.getElem?_set_ne hze, f3]
  have f6 : ∀ (x y : List V), ((m.boxes.set p x).set zb y).set eb [.val (.int .i64 0)] = (m.boxes.set p x).set zb y := fun x y => setC_self (by rw [f5, hE])
  have hDB : DB ⟨m.boxes.set p (dvB (dDid d d.zones) zb), m.tips⟩ p zb (dDid d d.zones) := ⟨f1 _, by rw [f2]; exact h.hz⟩
  obtain ⟨sp, hsp, e⟩ := oneL (c_dDone1 k fid hk5 hk he hf _ p zb (dDid d d.zones) hDB hpz ⟨hs.n, hs.z⟩ i b hi hb z' hc)
  refine Loc.ofX ((OOk.nil.addL sp_checkL_ok).addL hsp) hm F_dev_Do_1_ok (by simp [F_dev_Do_1]) ?_
  have hp := h.hp
  have hz := h.hz
  have g1 : rdD m (.agg [.val (.int .i64 d.size), .ref (.sli 0 4 d.zones.length) zb, .val (.int .i64 d.left), .val (.bool d.down), .val (.int .i64 d.done)]) = some d := by
    have := h.at
    unfold dvAt at this
    rwa [hp] at this
  have w1 := IntWalk.i64_in (d.left - 1) (by omega)
  have w2 := IntWalk.i64_in (d.done + 1) (by omega)
  clear hpl
  simp only [dvB, dDid, dLeft, hd] at e hp g1 ⊢
  simp at e hC
  have hsn := hs.n
  by_cases hlp : 0 < d.left
  · simp [hlp] at e
    simp [F_dev_Do_1, f0, f1, f2, f3, f4, f5, f6, hp, hE, hC, g1, hsn, sp_rd, hok, hl, hlp, w1, w2, e]
  · simp [hlp] at e
    simp [F_dev_Do_1, f0, f1, f2, f3, f4, f5, f6, hp, hE, hC, g1, hsn, sp_rd, hok, hl, hlp, w1, w2, e]
theorem c_limit1 (m : Mem) (p lb : Nat) (d : Dv) (zb : Nat) (n : Int) (hp : m.boxes[p]? = some (dvB d zb)) (hL : m.boxes[lb]? = some [.val (.int .i64 n)]) :
    Loc Try.prog n_dev_Limit_1 [.ptr p 0, .ptr lb 0] m (.tuple []) ⟨m.boxes.set p (dvB { d with left := n } zb), m.tips⟩ := by
  refine Loc.ofX OOk.nil hm F_dev_Limit_1_ok (by simp [F_dev_Limit_1]) ?_
  simp only [dvB] at hp ⊢
  simp [F_dev_Limit_1, hp, hL]
end Go.Av

namespace Go.Av
open Enc (enc dec)
open Cel (cs dc)
open Go.Proofs Pl

def zeroDv : List V := [.val (.int .i64 0), .lit 4 [], .val (.int .i64 0), .val (.bool false), .val (.int .i64 0)]
def Dk1 : Orc := (Orc.nil.add n_bytes_Clone (sp1 sp_clone)).addL n_slices_Clone_Zone sp_zClone
theorem Dk1_ok : OOk Try.prog Dk1 := (OOk.nil.add sp_clone_ok).addL sp_zClone_ok
def OwnI (M0 : Mem) (L n : Nat) (fv : V) (k : Nat) (s : Nat → V) (m : Mem) : Prop :=
  ∃ (i : Nat), i + k = n ∧ s 1 = fv ∧ s 2 = .ptr L 0 ∧ s 4 = .ptr (L + 1) 0 ∧ s 12 = .val (.int .i64 n) ∧ s 13 = .val (.int .i64 i) ∧ m = M0
theorem box_new3 (l bs : List (List V)) (a b c : List V) : (l ++ a :: b :: c :: bs)[l.length + 2]? = some c := by simp
theorem box_set3 (l bs : List (List V)) (a b c x : List V) : (l ++ a :: b :: c :: bs).set (l.length + 2) x = l ++ a :: b :: x :: bs := by
  rw [List.set_append_right _ _ (by omega)]; simp
theorem c_own (f : FuncId) (cap : List V) (sp : List V → Mem → Option (V × Mem)) (he : EOkL Try.prog f sp) (hf1 : ¬ n_bytes_Clone = f) (hf2 : ¬ n_slices_Clone_Zone = f) (m : Mem) (d d' : Dv) (hs : DSm d) (hne : d.zones ≠ []) (hln : d'.zones.length = d.zones.length)
    (hsp : sp (.ptr m.boxes.length 0 :: cap) ⟨m.boxes ++ [dvB d (m.boxes.length + 2), zeroDv, zC d.zones], m.tips⟩ = some (.tuple [], ⟨m.boxes ++ [dvB d' (m.boxes.length + 2), zeroDv, zC d'.zones], m.tips⟩)) :
    Loc Try.prog n_dev_own [enc d, .func f cap] m (enc d') m := by
  refine Loc.ofU (Dk1_ok.addL he) hm F_dev_own_ok (by simp [F_dev_own]) (.inl (by simp [clean_cs])) m.boxes.length m.tips.length (Nat.le_refl _) (Nat.le_refl _) fun hu => ?_
  have hsn := hs.n
  have hun : unref1 m.boxes.length ⟨m.boxes ++ [dvB d' (m.boxes.length + 2), dvB d' (m.boxes.length + 2), zC d'.zones], m.tips⟩ (.ref (.sli 0 4 d'.zones.length) (m.boxes.length + 2)) = .lit 4 (d'.zones.map cs) := by
    simp only [unref1, box_new3]
    rw [if_pos ⟨by omega, zC_obj _, by rw [zC_length]; omega⟩, zC_top1, List.drop_zero, chunk_zC]
  simp [F_dev_own, Dk1, hf1, hf2, box_new, box_new2, box_set, sp_zClone, hsn, hne, decX_map]
  refine wp_loop (OwnI ⟨m.boxes ++ [dvB d (m.boxes.length + 2), zeroDv, zC d.zones], m.tips⟩ m.boxes.length d.zones.length (.func f cap)) d.zones.length (IW.of ⟨0, by omega, by simp, by simp, by simp, by simp, by simp, rfl⟩) fun k s m' ⟨i, hik, s1, s2, s4, s12, s13, hm'⟩ => ?_
  subst hm'
  by_cases hi : i < d.zones.length
  · have hiI : (i : Int) < d.zones.length := by omega
    have w1 := IntWalk.i64_in ((i : Int) + 1) (by omega)
    have g0 := zC_drop d.zones i 2 hi
    have g1 := zC_set2 d.zones i hi
    have g2 : i * 4 + 2 + 1 ≤ (zC d.zones).length := by rw [zC_length]; omega
    have hzd := hs.z _ (List.getElem_mem hi)
    have hzd' : d.zones[i].data.length ≤ 140737488355328 := by omega
    simp at g0 g1
    simp [F_dev_own_L0, hf1, hf2, s1, s2, s4, s12, s13, dvB, box_new, box_new3, box_set3, hi, hiI, w1, g0, g1, g2, zC_obj, hzd', decX_cs, clean_cs]
    exact ⟨k - 1, by omega, IW.of (show OwnI _ _ _ _ _ _ _ from ⟨i + 1, by omega, by simpa using s1, by simpa using s2, by simpa using s4, by simpa using s12, by simp, rfl⟩)⟩
  · have hiI : ¬ (i : Int) < d.zones.length := by omega
    simp only [dvB, zeroDv] at hsp hun
    simp [F_dev_own_L0, hf1, hf2, s1, s2, s4, s12, s13, dvB, zeroDv, box_new, box_new2, box_set2, hi, hiI, hsp, hu]
    have hv : ∀ (k : Nat) (m : Mem) (x : Value), unref1 k m (.val x) = .val x := fun _ _ _ => rfl
    simp only [unref, unrefA, List.map_cons, List.map_nil, hun, hv]
    simp [wkL, wk1]
theorem dCmd_len (k : Int) (d : Dv) (zs : List Zo) (i : Nat) (z : Zo) : (dDid d (zs.set i z)).zones.length = zs.length := by simp [dDid]
/-- What a command must find to be done. -/
structure CmdOk (k : Int) (d : Dv) (i : Nat) (b : List UInt8) (hi : i < d.zones.length) (z' : Zo) : Prop where
  hb : b.length ≤ 2 ^ 30
  hc : dCmd k d d.zones[i] b = (z', 0)
  ok : dOk d = true
  hd : d.down = false
  hl : ¬ d.left = 0
  hll : -(2 ^ 62) ≤ d.left ∧ d.left ≤ 2 ^ 62
  hdn : 0 ≤ d.done ∧ d.done ≤ 2 ^ 62
theorem dOk_sm {d : Dv} (h : dOk d = true) : DSm d ∧ d.zones ≠ [] := by
  simp only [dOk, Bool.and_eq_true, Bool.not_eq_true', decide_eq_true_eq, List.any_eq_false] at h
  refine ⟨⟨by omega, fun z hz => ?_⟩, List.ne_nil_of_length_pos h.2.1⟩
  have h1 := h.1 z hz
  have h2 : zOk z d.size = true := by simpa using h1
  have := zOk_len h2
  omega
theorem c_dDo (k : Int) (fid : FuncId) (hk5 : ¬ k = 5) (hk : mpAt doesK k = some (.func fid [])) (he : EOkL Try.prog fid (sp_cmd k)) (hf : ¬ 160 = fid) (d : Dv) (i : Nat) (b : List UInt8) (hi : i < d.zones.length) (z' : Zo) (h : CmdOk k d i b hi z') :
    Pure Try.prog n_dev_Do [enc d, enc (⟨k, i, b⟩ : Rec)] (.tuple [enc (dDid d (d.zones.set i z')), .val (.int .i64 0)]) [] := by
  obtain ⟨hs, hne⟩ := dOk_sm h.ok
  have key : ∃ sp, EOkL Try.prog n_dev_own sp ∧ sp [enc d, .func n_dev_Do_1 [.ptr 3 0, .ptr 1 0]] ⟨[cs d, cs (⟨k, i, b⟩ : Rec), zeroDv, [.val (.int .i64 0)]], []⟩ = some (enc (dDid d (d.zones.set i z')), ⟨[cs d, cs (⟨k, i, b⟩ : Rec), zeroDv, [.val (.int .i64 0)]], []⟩) := by
    have hDB : DB ⟨[cs d, cs (⟨k, i, b⟩ : Rec), zeroDv, [.val (.int .i64 0)], dvB d 6, zeroDv, zC d.zones], []⟩ 4 6 d := ⟨rfl, rfl⟩
    obtain ⟨sp1, h1, e1⟩ := oneL (c_do1 k fid hk5 hk he hf _ 4 6 3 1 d hDB (by decide) (by decide) (by decide) (by decide) hs i b hi h.hb z' h.hc rfl rfl h.ok h.hd h.hl h.hll h.hdn)
    refine oneL (c_own n_dev_Do_1 [.ptr 3 0, .ptr 1 0] sp1 h1 (by decide) (by decide) _ d _ hs hne (dCmd_len k d d.zones i z') ?_)
    have e2 : dvB (dDid d d.zones) 6 = dvB (dDid d (d.zones.set i z')) 6 := by simp [dvB, dDid, dLeft]
    rw [e2] at e1
    exact e1
  obtain ⟨sp, hsp, e⟩ := key
  refine Pure.ofC (OOk.nil.addL hsp) hm F_dev_Do_ok (by simp [F_dev_Do]) (by simp [V.res, V.res1]) ?_
  simp [zeroDv] at e
  simp [F_dev_Do, e, keepB]
theorem c_dLimit (d : Dv) (n : Int) (hs : DSm d) (hne : d.zones ≠ []) : Pure Try.prog n_dev_Limit [enc d, enc n] (enc { d with left := n }) [] := by
  have key : ∃ sp, EOkL Try.prog n_dev_own sp ∧ sp [enc d, .func n_dev_Limit_1 [.ptr 1 0]] ⟨[cs d, [.val (.int .i64 n)], zeroDv], []⟩ = some (enc { d with left := n }, ⟨[cs d, [.val (.int .i64 n)], zeroDv], []⟩) := by
    obtain ⟨sp1, h1, e1⟩ := oneL (c_limit1 ⟨[cs d, [.val (.int .i64 n)], zeroDv, dvB d 5, zeroDv, zC d.zones], []⟩ 3 1 d 5 n rfl rfl)
    exact oneL (c_own n_dev_Limit_1 [.ptr 1 0] sp1 h1 (by decide) (by decide) _ d { d with left := n } hs hne rfl e1)
  obtain ⟨sp, hsp, e⟩ := key
  refine Pure.ofC (OOk.nil.addL hsp) hm F_dev_Limit_ok (by simp [F_dev_Limit]) (by simp [V.res, V.res1]) ?_
  simp [zeroDv] at e
  simp [F_dev_Limit, e]
end Go.Av

namespace Go.Av.Pl
def recOk (r : Rec) : Bool := decide (1 ≤ r.kind ∧ r.kind ≤ 5 ∧ 0 ≤ r.seq ∧ r.seq ≤ 4611686018427387903 ∧ r.body.length ≤ 4096)
def recE (r : Rec) : Int := if recOk r = true then 0 else 50
def recH (r : Rec) : List UInt8 := leB 1196184151 4 ++ (leB r.kind.toNat 2 ++ (leB r.body.length 2 ++ leB r.seq.toNat 8))
def recB (r : Rec) : List UInt8 := if recOk r = true then sealS (recH r ++ r.body) else []
def recSz (n : Int) : Int := if n < 0 ∨ 4096 < n then 0 else n + 20
/-- The first zone of a state that has room for so many bytes. -/
def dFirst (d : Dv) (q n : Int) : Int := zIdx (fun z => decide (z.st = q) && decide (n ≤ zRoom z d.size)) d.zones
def placeE (d : Dv) (n : Int) : Int := if dOk d = false ∨ n < 1 ∨ d.size < n then 1 else if 0 ≤ dFirst d 1 n then 0 else if dFirst d 0 n < 0 then 60 else 0
def placeN (d : Dv) (n : Int) : Int := if dOk d = false ∨ n < 1 ∨ d.size < n then 0 else if 0 ≤ dFirst d 1 n then dFirst d 1 n else if dFirst d 0 n < 0 then 0 else dFirst d 0 n
def placeL (d : Dv) (n : Int) : List Rec := if dOk d = false ∨ n < 1 ∨ d.size < n then [] else if 0 ≤ dFirst d 1 n then [] else if dFirst d 0 n < 0 then [] else if 3 ≤ stN 1 d.zones then [⟨3, dFirst d 1 0, []⟩] else []
end Go.Av.Pl
namespace Go.Av
open Enc (enc dec)
open Cel (cs dc)
open Go.Proofs Pl

theorem c_rSize (n : Int) : Pure Try.prog n_record_Size [enc n] (enc (recSz n)) [] := by
  refine Pure.ofC OOk.nil hm F_record_Size_ok (by simp [F_record_Size]) rfl ?_
  by_cases h1 : n < 0
  · simp [F_record_Size, recSz, h1]
  · by_cases h2 : 4096 < n
    · simp [F_record_Size, recSz, h1, h2]
    · have w1 := IntWalk.i64_in (16 + n) (by omega)
      have w2 := IntWalk.i64_in (16 + n + 4) (by omega)
      simp [F_record_Size, recSz, h1, h2, w1, w2]
      omega
theorem c_rCheck (r : Rec) : Pure Try.prog n_record_Check [enc r] (enc (recE r)) [] := by
  refine Pure.ofC OOk.nil hm F_record_Check_ok (by simp [F_record_Check]) rfl ?_
  obtain ⟨k, s, b⟩ := r
  by_cases h1 : k < 1
  · have : ¬ 1 ≤ k := by omega
    simp [F_record_Check, recE, recOk, h1, this]
  by_cases h2 : 5 < k
  · have : ¬ k ≤ 5 := by omega
    simp [F_record_Check, recE, recOk, h1, h2, this]
  by_cases h3 : s < 0
  · have : ¬ 0 ≤ s := by omega
    simp [F_record_Check, recE, recOk, h1, h2, h3, this]
  by_cases h4 : 4611686018427387903 < s
  · have : ¬ s ≤ 4611686018427387903 := by omega
    simp [F_record_Check, recE, recOk, h1, h2, h3, h4, this]
  by_cases h5 : 4096 < (b.length : Int)
  · have : ¬ b.length ≤ 4096 := by omega
    simp [F_record_Check, recE, recOk, h1, h2, h3, h4, h5, this]
  have e1 : 1 ≤ k := by omega
  have e2 : k ≤ 5 := by omega
  have e3 : 0 ≤ s := by omega
  have e4 : s ≤ 4611686018427387903 := by omega
  have e5 : b.length ≤ 4096 := by omega
  simp [F_record_Check, recE, recOk, h1, h2, h3, h4, h5, e1, e2, e3, e4, e5]
@[simp] def sp_rCheck (r : Rec) : Option (V × List Tip) := some (enc (recE r), [])
theorem sp_rCheck_ok : EOk Try.prog n_record_Check (sp1 sp_rCheck) := sp1_ok fun a r h => by cases h; exact c_rCheck a
theorem sp_Seal_ok : EOk Try.prog n_crc_Seal (sp1 sp_Seal) := sp1_ok fun l r h => by
  simp only [sp_Seal] at h
  split at h <;> cases h
  exact c_crc_Seal l (by assumption)
def Dl1 : Orc := ((Orc.nil.add n_record_Check (sp1 sp_rCheck)).add n_le_Pack (sp2 sp_pack)).add n_crc_Seal (sp1 sp_Seal)
theorem Dl1_ok : OOk Try.prog Dl1 := ((OOk.nil.add sp_rCheck_ok).add sp_pack_ok).add sp_Seal_ok
theorem f_whhq : formOk ⟨#[119, 104, 104, 113]⟩ = true := by decide
theorem recH_length (r : Rec) : (recH r).length = 16 := by simp [recH, leB_length]
theorem recOk_iff {r : Rec} : recOk r = true ↔ (1 ≤ r.kind ∧ r.kind ≤ 5 ∧ 0 ≤ r.seq ∧ r.seq ≤ 4611686018427387903 ∧ r.body.length ≤ 4096) := by simp [recOk]
theorem pack_rec {r : Rec} (h : recOk r = true) : packS [119, 104, 104, 113] [1196184151, r.kind.toNat, r.body.length, r.seq.toNat] = some (recH r) := by
  have h := recOk_iff.1 h
  have m1 : mayB 1196184151 4 = true := by decide
  have m2 : mayB r.kind.toNat 2 = true := by simp [mayB]; omega
  have m3 : mayB r.body.length 2 = true := by simp [mayB]; omega
  have m4 : mayB r.seq.toNat 8 = true := by simp [mayB]
  simp [packS, sizeL, m1, m2, m3, m4, recH]
theorem sealS_length (l : List UInt8) : (sealS l).length = l.length + 4 := by simp [sealS, leB_length]
theorem recB_length {r : Rec} (h : recOk r = true) : (recB r).length = r.body.length + 20 := by
  rw [recB, if_pos h, sealS_length, List.length_append, recH_length]; omega
theorem c_rWrite (r : Rec) : Pure Try.prog n_record_Write [enc r] (.tuple [enc (recB r), enc (recE r)]) [] := by
  refine Pure.ofC Dl1_ok hm F_record_Write_ok (by simp [F_record_Write]) (by simp [V.res, V.res1]) ?_
  by_cases h : recOk r = true
  · have h2 := recOk_iff.1 h
    have hp := pack_rec h
    have w1 := IntWalk.u64_in r.kind (by omega)
    have w2 := IntWalk.u64_in (r.body.length : Int) (by omega)
    have w3 := IntWalk.u64_in r.seq (by omega)
    have k1 : 0 ≤ r.kind := by omega
    have k2 := h2.2.2.1
    have hl := recH_length r
    have hb := h2.2.2.2.2
    obtain ⟨k, s, b⟩ := r
    simp at w1 w2 w3 k1 k2 hl hb hp
    have g1 : (recH ⟨k, s, b⟩).length + b.length ≤ 2 ^ 40 := by omega
    simp [F_record_Write, Dl1, recE, recB, h, w1, w2, w3, k1, k2, f_whhq, packB, packE, hp, hl, decX_cs, decX_append, clean_cs]
    omega
  · have h' : recOk r = false := by simpa using h
    obtain ⟨k, s, b⟩ := r
    simp [F_record_Write, Dl1, recE, recB, h', decX_cs]
@[simp] def sp_dCheck (d : Dv) : Option (V × List Tip) := if d.zones.length ≤ 2 ^ 40 then some (enc (dOk d), []) else none
theorem sp_dCheck_ok : EOk Try.prog n_dev_Check (sp1 sp_dCheck) := sp1_ok fun d r h => by
  simp only [sp_dCheck] at h
  split at h <;> cases h
  exact c_dCheck d (by assumption)
@[simp] def sp_dOpen (d : Dv) : Option (V × List Tip) := if d.zones.length ≤ 2 ^ 40 then some (enc (stN 1 d.zones : Int), []) else none
theorem sp_dOpen_ok : EOk Try.prog n_dev_Open (sp1 sp_dOpen) := sp1_ok fun d r h => by
  simp only [sp_dOpen] at h
  split at h <;> cases h
  exact c_dOpen d (by assumption)
@[simp] def sp_lFirst (d : Dv) (a b : Int) : Option (V × List Tip) := if d.zones.length ≤ 2 ^ 40 then some (enc (dFirst d a b), []) else none
theorem sp_lFirst_ok : EOk Try.prog n_log_first (sp3 sp_lFirst) := sp3_ok fun d a b r h => by
  simp only [sp_lFirst] at h
  split at h <;> cases h
  exact c_logFirst d a b (by assumption)
def Dl2 : Orc := ((Orc.nil.add n_dev_Check (sp1 sp_dCheck)).add n_dev_Open (sp1 sp_dOpen)).add n_log_first (sp3 sp_lFirst)
theorem Dl2_ok : OOk Try.prog Dl2 := ((OOk.nil.add sp_dCheck_ok).add sp_dOpen_ok).add sp_lFirst_ok
theorem c_lPlace (d : Dv) (n : Int) (hl : d.zones.length ≤ 2 ^ 40) : Pure Try.prog n_log_Place [enc d, enc n] (.tuple [enc (placeN d n), .row 0 3 ((placeL d n).map cs), enc (placeE d n)]) [(89, 3, (placeL d n).length)] := by
  refine Pure.ofR Dl2_ok hm F_log_Place_ok (by simp [F_log_Place]) (by simp [V.res, V.res1]) ?_
  by_cases h1 : dOk d = true
  · by_cases h2 : n < 1
    · simp [F_log_Place, Dl2, decX_map, hl, h1, h2, placeN, placeL, placeE]
    by_cases h3 : d.size < n
    · simp [F_log_Place, Dl2, decX_map, hl, h1, h2, h3, placeN, placeL, placeE]
    by_cases h4 : 0 ≤ dFirst d 1 n
    · simp [F_log_Place, Dl2, decX_map, hl, h1, h2, h3, h4, placeN, placeL, placeE]
    by_cases h5 : dFirst d 0 n < 0
    · simp [F_log_Place, Dl2, decX_map, hl, h1, h2, h3, h4, h5, placeN, placeL, placeE]
    by_cases h6 : 3 ≤ (stN 1 d.zones : Int)
    · have h6' : 3 ≤ stN 1 d.zones := by omega
      simp [F_log_Place, Dl2, decX_map, hl, h1, h2, h3, h4, h5, h6, h6', placeN, placeL, placeE]
    · have h6' : ¬ 3 ≤ stN 1 d.zones := by omega
      simp [F_log_Place, Dl2, decX_map, hl, h1, h2, h3, h4, h5, h6, h6', placeN, placeL, placeE]
  · have h1' : dOk d = false := by simpa using h1
    simp [F_log_Place, Dl2, decX_map, hl, h1', placeN, placeL, placeE]
end Go.Av

namespace Go.Av.Pl
structure Cx where
  re : Nat
  im : Nat
deriving DecidableEq
/-- What a command makes of its zone, if it is done. -/
def dDoZ (d : Dv) (c : Rec) : Option Zo := (d.zones[c.seq.toNat]?).bind fun z => if 0 ≤ c.seq ∧ 1 ≤ c.kind ∧ c.kind ≤ 4 ∧ (dCmd c.kind d z c.body).2 = 0 then some (dCmd c.kind d z c.body).1 else none
def dDoR (d : Dv) (c : Rec) : Option Dv := if dOk d = true ∧ d.down = false ∧ ¬ d.left = 0 ∧ (-(2 ^ 62) ≤ d.left ∧ d.left ≤ 2 ^ 62) ∧ (0 ≤ d.done ∧ d.done ≤ 2 ^ 62) ∧ c.body.length ≤ 2 ^ 30 then (dDoZ d c).map fun z => dDid d (d.zones.set c.seq.toNat z) else none
/-- The commands that append a record. -/
def cmdL (d : Dv) (r : Rec) : List Rec := placeL d (recB r).length ++ [⟨1, placeN d (recB r).length, recB r⟩]
def oneD (d : Dv) (r : Rec) : Option Dv := (cmdL d r).foldlM dDoR d
def oneC (d : Dv) (r : Rec) : Cx := ⟨FloatKind.f64.nearest (placeN d (recB r).length), FloatKind.f64.nearest ((d.zones.getD (placeN d (recB r).length).toNat ⟨0, 0, [], 0⟩).data.length : Int)⟩
def one1 (d : Dv) (r : Rec) : Option (Dv × Cx × Int) :=
  if d.zones.length ≤ 2 ^ 40 then (if recOk r = false then some (d, ⟨0, 0⟩, 50) else if placeE d (recB r).length ≠ 0 then some (d, ⟨0, 0⟩, placeE d (recB r).length) else (oneD d r).map fun d' => (d', oneC d r, 0)) else none
end Go.Av.Pl
namespace Go.Av
open Enc (enc dec)
open Cel (cs dc)
open Go.Proofs Pl

instance : Enc Cx where
  enc x := .val (.complex .f64 x.re x.im)
  dec v := match v with
    | .val (.complex .f64 a b) => some ⟨a, b⟩
    | _ => none
  cl x := rfl
  ok v x h M w us hr := by
    split at h
    · cases h; exact hr
    · cases h
  de x := rfl
instance : Cel Cx := ⟨1, fun a => [enc a], dc1, fun _ => rfl, dc1_ok, fun a => by simp [Enc.cl], fun a => by simp [dc1, Enc.de]⟩
@[simp] theorem dv_eta (d : Dv) : (⟨d.size, d.zones, d.left, d.down, d.done⟩ : Dv) = d := rfl
@[simp] theorem rec_eta (d : Rec) : (⟨d.kind, d.seq, d.body⟩ : Rec) = d := rfl
@[simp] theorem zo_eta (d : Zo) : (⟨d.st, d.rs, d.data, d.la⟩ : Zo) = d := rfl
@[simp] theorem enc_cx (n : Cx) : (enc n : V) = .val (.complex .f64 n.re n.im) := rfl
@[simp] theorem dec_cx (a b : Nat) : (dec (.val (.complex .f64 a b)) : Option Cx) = some ⟨a, b⟩ := rfl
@[simp] theorem cs_cx (n : Cx) : cs n = [.val (.complex .f64 n.re n.im)] := rfl
@[simp] theorem dc_cx (l : List V) : (dc l : Option Cx) = dc1 l := rfl
@[simp] theorem sz_cx : Cel.sz Cx = 1 := rfl
@[simp] def sp_dDo (d : Dv) (c : Rec) : Option (V × List Tip) := (dDoR d c).map fun d' => (.tuple [enc d', .val (.int .i64 0)], [])
theorem sp_dDo_ok : EOk Try.prog n_dev_Do (sp2 sp_dDo) := sp2_ok fun d c r h => by
  simp only [sp_dDo, Option.map_eq_some_iff] at h
  obtain ⟨d', hd, rfl⟩ := h
  unfold dDoR at hd
  split at hd
  · rename_i hc
    obtain ⟨k1, k2, k3, k4, k5, k6⟩ := hc
    simp only [Option.map_eq_some_iff] at hd
    obtain ⟨z, hz, rfl⟩ := hd
    unfold dDoZ at hz
    simp only [Option.bind_eq_some_iff] at hz
    obtain ⟨z0, hz0, hz⟩ := hz
    split at hz
    · rename_i hq
      cases hz
      obtain ⟨q1, q2, q3, q4⟩ := hq
      obtain ⟨k, n, b⟩ := c
      simp only at q1 q2 q3 q4 hz0 k6 ⊢
      obtain ⟨hi, he⟩ := List.getElem?_eq_some_iff.1 hz0
      have en : ((n.toNat : Nat) : Int) = n := Int.toNat_of_nonneg q1
      have hcm : CmdOk k d n.toNat b hi (dCmd k d z0 b).1 := ⟨k6, by rw [he]; exact Prod.ext rfl q4, k1, k2, k3, k4, k5⟩
      have hk : k = 1 ∨ k = 2 ∨ k = 3 ∨ k = 4 := by omega
      have key := fun fid h1 h2 h3 h4 => c_dDo k fid h1 h2 h3 h4 d n.toNat b hi _ hcm
      rw [en] at key
      rcases hk with rfl | rfl | rfl | rfl
      · exact key n_dev_command_append (by decide) (by simp [doesK]) sp_capp_ok (by decide)
      · exact key n_dev_command_reset (by decide) (by simp [doesK]) sp_cres_ok (by decide)
      · exact key n_dev_command_finish (by decide) (by simp [doesK]) sp_cfin_ok (by decide)
      · exact key n_dev_command_close (by decide) (by simp [doesK]) sp_cclo_ok (by decide)
    · cases hz
  · cases hd
@[simp] def sp_rWrite (r : Rec) : Option (V × List Tip) := some (.tuple [enc (recB r), enc (recE r)], [])
theorem sp_rWrite_ok : EOk Try.prog n_record_Write (sp1 sp_rWrite) := sp1_ok fun a r h => by cases h; exact c_rWrite a
@[simp] def sp_lPlace (d : Dv) (n : Int) : Option (V × List Tip) := if d.zones.length ≤ 2 ^ 40 then some (.tuple [enc (placeN d n), .row 0 3 ((placeL d n).map cs), enc (placeE d n)], [(89, 3, (placeL d n).length)]) else none
theorem sp_lPlace_ok : EOk Try.prog n_log_Place (sp2 sp_lPlace) := sp2_ok fun a n r h => by
  simp only [sp_lPlace] at h
  split at h <;> cases h
  exact c_lPlace a n (by assumption)
def Dm1 : Orc := ((Orc.nil.add n_dev_Do (sp2 sp_dDo)).add n_record_Write (sp1 sp_rWrite)).add n_log_Place (sp2 sp_lPlace)
theorem Dm1_ok : OOk Try.prog Dm1 := ((OOk.nil.add sp_dDo_ok).add sp_rWrite_ok).add sp_lPlace_ok
theorem run_step {d d' : Dv} {l : List Rec} (h : l.foldlM dDoR d = some d') (i : Nat) (hi : i < l.length) : ∃ a b, (l.take i).foldlM dDoR d = some a ∧ dDoR a l[i] = some b ∧ (l.take (i + 1)).foldlM dDoR d = some b := by
  have e1 : l = l.take i ++ (l[i] :: l.drop (i + 1)) := by simp
  rw [e1, List.foldlM_append] at h
  simp only [Option.bind_eq_bind, Option.bind_eq_some_iff, List.foldlM_cons] at h
  obtain ⟨a, ha, b, hb, _⟩ := h
  refine ⟨a, b, ha, hb, ?_⟩
  rw [List.take_add_one, List.getElem?_eq_getElem hi, List.foldlM_append, ha]
  simp [hb]
def OneI (d : Dv) (l : List Rec) (c : Cx) (k : Nat) (s : Nat → V) (m : Mem) : Prop :=
  ∃ (i : Nat) (di : Dv) (t : Nat) (b1 : List V) (r : List (List V)), i + k = l.length ∧ (l.take i).foldlM dDoR d = some di ∧ s 51 = .row t 3 (l.map cs) ∧ s 52 = .val (.int .i64 l.length) ∧ s 53 = .val (.int .i64 i) ∧ s 2 = .ptr 0 0 ∧ s 4 = .ptr 2 0 ∧ s 8 = .val (.int .i64 0) ∧ s 11 = enc c ∧
    m.boxes = cs di :: b1 :: zeroDv :: r
theorem placeL_len (d : Dv) (n : Int) : (placeL d n).length ≤ 1 := by
  unfold placeL
  repeat' split
  all_goals simp
theorem zIdx_lt {pr : Zo → Bool} {l : List Zo} (h : 0 ≤ zIdx pr l) : ∃ (i : Nat) (hi : i < l.length), zIdx pr l = i ∧ pr l[i] = true := by
  unfold zIdx at h ⊢
  split at h
  · rename_i i e
    obtain ⟨hi, hp, _⟩ := List.findIdx?_eq_some_iff_getElem.1 e
    exact ⟨i, hi, rfl, hp⟩
  · omega
theorem place_lt {d : Dv} {n : Int} (h : placeE d n = 0) : ∃ (i : Nat), i < d.zones.length ∧ placeN d n = i := by
  unfold placeE at h
  unfold placeN
  split at h
  · cases h
  · rename_i h1
    rw [if_neg h1]
    split at h
    · rename_i h2
      rw [if_pos h2]
      obtain ⟨i, hi, e, _⟩ := zIdx_lt h2
      exact ⟨i, hi, e⟩
    · rename_i h2
      rw [if_neg h2]
      split at h
      · cases h
      · rename_i h3
        rw [if_neg h3]
        obtain ⟨i, hi, e, _⟩ := zIdx_lt (show 0 ≤ dFirst d 0 n by omega)
        exact ⟨i, hi, e⟩
theorem c_lOne (d : Dv) (r : Rec) (R : Dv × Cx × Int) (h : one1 d r = some R) : Pure Try.prog n_log_one [enc d, enc r] (.tuple [enc R.1, enc R.2.1, enc R.2.2]) [] := by
  refine Pure.ofC Dm1_ok hm F_log_one_ok (by simp [F_log_one]) (by simp [V.res, V.res1]) ?_
  unfold one1 at h
  split at h
  case isFalse => cases h
  rename_i hl
  split at h
  · rename_i h1
    cases h
    have e1 : recE r = 50 := by simp [recE, h1]
    simp [F_log_one, Dm1, e1, decX_cs]
  rename_i h1
  have h1 : recOk r = true := by simpa using h1
  have e1 : recE r = 0 := by simp [recE, h1]
  split at h
  · rename_i h2
    cases h
    simp [F_log_one, Dm1, e1, decX_cs, decX_map, hl, h2]
  rename_i h2
  have h2 : placeE d (recB r).length = 0 := by simpa using h2
  simp only [Option.map_eq_some_iff] at h
  obtain ⟨d', hd, rfl⟩ := h
  obtain ⟨i, hi, hn⟩ := place_lt h2
  have hg : d.zones[i]? = some d.zones[i] := List.getElem?_eq_getElem hi
  have hll := placeL_len d (recB r).length
  have hc : oneC d r = ⟨FloatKind.f64.nearest (i : Int), FloatKind.f64.nearest (d.zones[i].data.length : Int)⟩ := by simp [oneC, hn, List.getD_eq_getElem?_getD, hg]
  have hm : (cmdL d r).map cs = (placeL d (recB r).length).map cs ++ [[V.val (.int .i64 1), .val (.int .i64 i), .lit 1 ((recB r).map cs)]] := by simp [cmdL, hn]
  have hlen : (cmdL d r).length = (placeL d (recB r).length).length + 1 := by simp [cmdL]
  simp [F_log_one, Dm1, e1, decX_cs, decX_map, hl, h2, hn, hg]
  refine ⟨by omega, wp_loop (OneI d (cmdL d r) (oneC d r)) (cmdL d r).length (IW.of ⟨0, d, 0, cs r, [], by omega, rfl, by rw [hm]; simp, by rw [hlen]; simp, by simp, by simp, by simp, by simp, by rw [hc]; simp, by simp [zeroDv]⟩) fun k s m ⟨j, di, t, b1, rr, hjk, hdi, s51, s52, s53, s2, s4, s8, s11, hb⟩ => ?_⟩
  obtain ⟨bx, tips⟩ := m
  simp only at hb
  subst hb
  by_cases hj : j < (cmdL d r).length
  · have hjg : (cmdL d r)[j]? = some (cmdL d r)[j] := List.getElem?_eq_getElem hj
    have w1 := IntWalk.i64_in ((j : Int) + 1) (by omega)
    obtain ⟨a, b, ha, hb, hab⟩ := run_step hd j hj
    rw [hdi] at ha
    cases ha
    simp [F_log_one_L0, Dm1, zeroDv, s51, s52, s53, s2, s4, s8, hj, hjg, w1, decX_cs, decX_map, hb]
    refine ⟨k - 1, by omega, IW.of ⟨j + 1, b, t, b1, _, by omega, hab, by simpa using s51, by simpa using s52, by simp, by simpa using s2, by simpa using s4, by simp, by simpa using s11, by rfl⟩⟩
  · have e : (cmdL d r).take j = cmdL d r := List.take_of_length_le (by omega)
    rw [e] at hdi
    have : di = d' := Option.some.inj (hdi.symm.trans hd)
    subst this
    simp [F_log_one_L0, zeroDv, s51, s52, s53, s2, s4, s8, s11, hj, clean_cs]
end Go.Av

namespace Go.Av.Pl
def appR : Dv → List Rec → Option (Dv × List Cx × Int)
  | d, [] => some (d, [], 0)
  | d, r :: l => (one1 d r).bind fun R => if R.2.2 ≠ 0 then some (R.1, [], R.2.2) else (appR R.1 l).map fun Q => (Q.1, R.2.1 :: Q.2.1, Q.2.2)
end Go.Av.Pl
namespace Go.Av
open Enc (enc dec)
open Cel (cs dc)
open Go.Proofs Pl

@[simp] def sp_dLimit (d : Dv) (n : Int) : Option (V × List Tip) := if d.zones.length ≤ 2 ^ 40 ∧ d.zones.all (fun z => decide (z.data.length ≤ 2 ^ 30)) = true ∧ d.zones ≠ [] then some (enc { d with left := n }, []) else none
theorem sp_dLimit_ok : EOk Try.prog n_dev_Limit (sp2 sp_dLimit) := sp2_ok fun d n r h => by
  simp only [sp_dLimit] at h
  split at h <;> cases h
  rename_i hc
  exact c_dLimit d n ⟨hc.1, fun z hz => by simpa using List.all_eq_true.1 hc.2.1 z hz⟩ hc.2.2
@[simp] def sp_lOne (d : Dv) (r : Rec) : Option (V × List Tip) := (one1 d r).map fun R => (.tuple [enc R.1, enc R.2.1, enc R.2.2], [])
theorem sp_lOne_ok : EOk Try.prog n_log_one (sp2 sp_lOne) := sp2_ok fun d c r h => by
  simp only [sp_lOne, Option.map_eq_some_iff] at h
  obtain ⟨R, hR, rfl⟩ := h
  exact c_lOne d c R hR
def Do1 : Orc := (Orc.nil.add n_dev_Limit (sp2 sp_dLimit)).add n_log_one (sp2 sp_lOne)
theorem Do1_ok : OOk Try.prog Do1 := (OOk.nil.add sp_dLimit_ok).add sp_lOne_ok
theorem appR_len : ∀ {l : List Rec} {d : Dv} {R : Dv × List Cx × Int}, appR d l = some R → R.2.1.length ≤ l.length
  | [], d, R, h => by cases h; simp
  | r :: l, d, R, h => by
    simp only [appR, Option.bind_eq_some_iff] at h
    obtain ⟨Q, hQ, h⟩ := h
    split at h
    · cases h; simp
    · simp only [Option.map_eq_some_iff] at h
      obtain ⟨Q2, hQ2, rfl⟩ := h
      have := appR_len hQ2
      simp only [List.length_cons]
      omega
def AppI (d : Dv) (l : List Rec) (k : Nat) (s : Nat → V) (m : Mem) : Prop :=
  ∃ (i : Nat) (di : Dv) (p : List Cx) (t : Nat) (b0 : List V) (r : List (List V)) (tips : List Tip), i + k = l.length ∧ appR d l = (appR di (l.drop i)).map (fun Q => (Q.1, p ++ Q.2.1, Q.2.2)) ∧ p.length ≤ i ∧ s 14 = .lit 3 (l.map cs) ∧ s 15 = .val (.int .i64 l.length) ∧ s 16 = .val (.int .i64 i) ∧ s 4 = .ptr 1 0 ∧
    s 5 = .row t 1 (p.map cs) ∧ m = ⟨b0 :: cs di :: r, tips⟩ ∧ tips[t]? = some (91, 1, p.length)
theorem c_lAppend (d : Dv) (l : List Rec) (hs : DSm d) (hne : d.zones ≠ []) (hl : l.length ≤ 2 ^ 30) (R : Dv × List Cx × Int) (h : appR d l = some R) : Pure Try.prog n_log_Append [enc d, enc l] (.tuple [enc R.1, enc R.2.1, enc R.2.2]) [] := by
  refine Pure.ofC Do1_ok hm F_log_Append_ok (by simp [F_log_Append]) (by simp [V.res, V.res1]) ?_
  have hz : d.zones.all (fun z => decide (z.data.length ≤ 2 ^ 30)) = true := List.all_eq_true.2 fun z hz => by simpa using hs.z z hz
  have hsn := hs.n
  simp only [Nat.reducePow] at hz hsn hl
  simp [F_log_Append, Do1, decX_map, hsn, hne]
  simp at hz
  refine ⟨hz, wp_loop (AppI d l) l.length (IW.of ⟨0, d, [], 0, cs d, [], [(91, 1, 0)], by omega, by simp, by simp, by simp, by simp, by simp, by simp, by simp, by simp, by simp⟩) fun k s m ⟨i, di, p, t, b0, r, tips, hik, hap, hpl, s14, s15, s16, s4, s5, hm, ht⟩ => ?_⟩
  subst hm
  rw [h] at hap
  by_cases hi : i < l.length
  · have hg : l[i]? = some l[i] := List.getElem?_eq_getElem hi
    have w1 := IntWalk.i64_in ((i : Int) + 1) (by omega)
    rw [List.drop_eq_getElem_cons hi] at hap
    cases h1 : one1 di l[i] with
    | none => simp [appR, h1] at hap
    | some Q =>
      simp only [appR, h1, Option.bind_some] at hap
      by_cases he : Q.2.2 = 0
      · simp only [he, ne_eq, not_true_eq_false, if_false] at hap
        simp [F_log_Append_L0, Do1, s14, s15, s16, s4, s5, hi, hg, w1, decX_cs, decX_map, h1, he, ht]
        refine ⟨by omega, k - 1, by omega, IW.of ⟨i + 1, Q.1, p ++ [Q.2.1], t, b0, _, _, by omega, ?_, by simp; omega, by simpa using s14, by simpa using s15, by simp, by simpa using s4, by simp, by rfl, by rw [List.getElem?_set_self (lt_of_some ht)]; simp⟩⟩
        rw [h, hap, Option.map_map]
        congr 1
        funext Q2
        simp
      · simp only [he, ne_eq, not_false_eq_true, if_true, Option.map_some, Option.some.injEq] at hap
        subst hap
        simp [F_log_Append_L0, Do1, s14, s15, s16, s4, s5, hi, hg, w1, decX_cs, decX_map, h1, he, clean_cs]
  · rw [List.drop_eq_nil_of_le (by omega)] at hap
    simp only [appR, Option.map_some, List.append_nil, Option.some.injEq] at hap
    subst hap
    simp [F_log_Append_L0, s14, s15, s16, s4, s5, hi, clean_cs]
end Go.Av

namespace Go.Av.Pl
def zAdd (z : Zo) (s : Int) (b : List UInt8) : Zo := { z with data := z.data ++ b, st := zFill (z.data ++ b).length s 1 }
def zEnd (z : Zo) : Zo := { z with st := 3 }
/-- A device that does commands. -/
structure DG (d : Dv) (k : Nat) : Prop where
  ok : dOk d = true
  dn : d.down = false
  lf : d.left = -1
  dd : 0 ≤ d.done ∧ d.done ≤ k
  op : stN 1 d.zones ≤ 3

theorem cnt_set (p : Zo → Bool) : ∀ (l : List Zo) (i : Nat) (hi : i < l.length) (z : Zo), (l.set i z).countP p + (p l[i]).toNat = l.countP p + (p z).toNat
  | a :: l, 0, hi, z => by
    simp only [List.set_cons_zero, List.countP_cons, List.getElem_cons_zero]
    cases p a <;> cases p z <;> simp <;> omega
  | a :: l, i + 1, hi, z => by
    have := cnt_set p l i (by simpa using hi) z
    simp only [List.set_cons_succ, List.countP_cons, List.getElem_cons_succ]
    omega
theorem sum_set (f : Zo → Nat) : ∀ (l : List Zo) (i : Nat) (hi : i < l.length) (z : Zo), ((l.set i z).map f).sum + f l[i] = (l.map f).sum + f z
  | a :: l, 0, hi, z => by
    simp only [List.set_cons_zero, List.map_cons, List.sum_cons, List.getElem_cons_zero]
    omega
  | a :: l, i + 1, hi, z => by
    have := sum_set f l i (by simpa using hi) z
    simp only [List.set_cons_succ, List.map_cons, List.sum_cons, List.getElem_cons_succ]
    omega
theorem stN_set (q : Int) (l : List Zo) (i : Nat) (hi : i < l.length) (z : Zo) : stN q (l.set i z) + (if l[i].st = q then 1 else 0) = stN q l + (if z.st = q then 1 else 0) := by
  have := cnt_set (fun z => decide (z.st = q)) l i hi z
  unfold stN
  by_cases h1 : l[i].st = q <;> by_cases h2 : z.st = q <;> simp [h1, h2] at this ⊢ <;> omega
theorem dOk_iff {d : Dv} : dOk d = true ↔ (∀ z ∈ d.zones, zOk z d.size = true) ∧ 0 < d.zones.length ∧ d.zones.length ≤ 64 ∧ 0 < d.size ∧ d.size ≤ 1048576 := by
  simp only [dOk, Bool.and_eq_true, Bool.not_eq_true', decide_eq_true_eq, List.any_eq_false]
  constructor
  · rintro ⟨h1, h2⟩
    exact ⟨fun z hz => by simpa using h1 z hz, h2⟩
  · rintro ⟨h1, h2⟩
    exact ⟨fun z hz => by simpa using h1 z hz, h2⟩
theorem zOk_iff {z : Zo} {n : Int} : zOk z n = true ↔ (1 ≤ n ∧ n ≤ 1048576 ∧ (z.data.length : Int) ≤ n ∧ 0 ≤ z.la ∧ z.la ≤ z.data.length ∧ 0 ≤ z.rs ∧ z.rs ≤ 1073741824) ∧
    ((z.st = 0 ∧ z.data.length = 0) ∨ ((z.st = 1 ∨ z.st = 2) ∧ 0 < z.data.length ∧ (z.data.length : Int) < n) ∨ z.st = 3) := by
  simp only [zOk, Bool.and_eq_true, decide_eq_true_eq]
  refine and_congr_right fun _ => ?_
  by_cases h0 : z.st = 0
  · simp [h0]
  · by_cases h1 : z.st = 1
    · simp [h1, zTakes]
    · by_cases h2 : z.st = 2
      · simp [h2, zTakes]
      · simp [h0, h1, h2, zTakes]
theorem zRoom_pos {z : Zo} {n k : Int} (hk : 0 < k) (h : k ≤ zRoom z n) : zOk z n = true ∧ zTakes z = true ∧ k + z.data.length ≤ n := by
  unfold zRoom at h
  split at h
  · rename_i hc
    exact ⟨hc.1, hc.2, by omega⟩
  · omega
theorem zAdd_ok {z : Zo} {n : Int} {b : List UInt8} (hb : b ≠ []) (h : (b.length : Int) ≤ zRoom z n) : zOk (zAdd z n b) n = true ∧ ((zAdd z n b).st = 1 ∨ (zAdd z n b).st = 3 ∧ ((zAdd z n b).data.length : Int) = n) := by
  have hb0 : 0 < b.length := List.length_pos_iff.2 hb
  obtain ⟨h1, h2, h3⟩ := zRoom_pos (by omega) h
  have h4 := zOk_iff.1 h1
  have hne : ¬ (z.data ++ b).length = 0 := by rw [List.length_append]; omega
  by_cases hf : ((z.data ++ b).length : Int) = n
  · have e : zAdd z n b = { z with data := z.data ++ b, st := 3 } := by simp only [zAdd, zFill]; rw [if_neg hne, if_pos hf]
    rw [e]
    refine ⟨zOk_iff.2 ⟨⟨h4.1.1, h4.1.2.1, ?_, h4.1.2.2.2.1, ?_, h4.1.2.2.2.2.2.1, h4.1.2.2.2.2.2.2⟩, .inr (.inr rfl)⟩, .inr ⟨rfl, hf⟩⟩
    · simp; omega
    · have := h4.1.2.2.2.2.1
      simp
      omega
  · have e : zAdd z n b = { z with data := z.data ++ b, st := 1 } := by simp only [zAdd, zFill]; rw [if_neg hne, if_neg hf]
    rw [e]
    have hl : ((z.data ++ b).length : Int) = z.data.length + b.length := by simp
    refine ⟨zOk_iff.2 ⟨⟨h4.1.1, h4.1.2.1, ?_, h4.1.2.2.2.1, ?_, h4.1.2.2.2.2.2.1, h4.1.2.2.2.2.2.2⟩, .inr (.inl ⟨.inl rfl, ?_, ?_⟩)⟩, .inl rfl⟩
    · simp; omega
    · have := h4.1.2.2.2.2.1
      simp
      omega
    · simp; omega
    · simp only
      omega
theorem zApp_ok {z : Zo} {n : Int} {b : List UInt8} (hb : b ≠ []) (h : (b.length : Int) ≤ zRoom z n) : zApp z n b = (zAdd z n b, 0) := by
  have hb0 : 0 < b.length := List.length_pos_iff.2 hb
  obtain ⟨h1, h2, h3⟩ := zRoom_pos (by omega) h
  unfold zApp
  rw [if_neg (by simp [h1, hb]), if_pos h]
  rfl
theorem dOk_set {d : Dv} (h : dOk d = true) {i : Nat} {z : Zo} (hz : zOk z d.size = true) (l : Int) (w : Bool) (k : Int) : dOk ⟨d.size, d.zones.set i z, l, w, k⟩ = true := by
  have h := dOk_iff.1 h
  refine dOk_iff.2 ⟨fun y hy => ?_, by simpa using h.2⟩
  rcases List.mem_or_eq_of_mem_set hy with hy | rfl
  · exact h.1 y hy
  · exact hz
/-- An append that is done. -/
theorem do_app {d : Dv} {k : Nat} (hg : DG d k) (hk : k ≤ 2 ^ 62) {i : Nat} (hi : i < d.zones.length) {b : List UInt8} (hb : b ≠ []) (hbl : b.length ≤ 2 ^ 30) (hr : (b.length : Int) ≤ zRoom d.zones[i] d.size) (ho : d.zones[i].st = 1 ∨ stN 1 d.zones < 3) :
    dDoR d ⟨1, i, b⟩ = some (dDid d (d.zones.set i (zAdd d.zones[i] d.size b))) ∧ DG (dDid d (d.zones.set i (zAdd d.zones[i] d.size b))) (k + 1) := by
  have hc : dCmd 1 d d.zones[i] b = (zAdd d.zones[i] d.size b, 0) := by
    simp only [dCmd, if_true]
    rw [if_neg (by rintro ⟨h1, h2⟩; rcases ho with h | h <;> first | exact h1 h | omega), zApp_ok hb hr]
  refine ⟨?_, ?_⟩
  · have hz : dDoZ d ⟨1, i, b⟩ = some (zAdd d.zones[i] d.size b) := by
      simp only [dDoZ, Int.toNat_natCast, List.getElem?_eq_getElem hi, Option.bind_some, hc]
      rw [if_pos ⟨by omega, by omega, by omega, trivial⟩]
    unfold dDoR
    rw [if_pos ⟨hg.ok, hg.dn, by rw [hg.lf]; omega, by rw [hg.lf]; omega, by have := hg.dd; omega, hbl⟩, hz]
    rfl
  · obtain ⟨h1, h2⟩ := zAdd_ok hb hr
    refine ⟨dOk_set hg.ok h1 _ _ _, hg.dn, ?_, ?_, ?_⟩
    · simp only [dDid, dLeft, hg.lf]
      rfl
    · have := hg.dd
      simp only [dDid]
      omega
    · have h3 := stN_set 1 d.zones i hi (zAdd d.zones[i] d.size b)
      have h4 := hg.op
      show stN 1 (d.zones.set i (zAdd d.zones[i] d.size b)) ≤ 3
      have h5 : (if (zAdd d.zones[i] d.size b).st = 1 then 1 else 0) ≤ 1 := by split <;> omega
      rcases ho with h | h
      · rw [if_pos h] at h3
        omega
      · omega
/-- A finish that is done. -/
theorem do_fin {d : Dv} {k : Nat} (hg : DG d k) (hk : k ≤ 2 ^ 62) {j : Nat} (hj : j < d.zones.length) (ho : d.zones[j].st = 1) :
    dDoR d ⟨3, j, []⟩ = some (dDid d (d.zones.set j (zEnd d.zones[j]))) ∧ DG (dDid d (d.zones.set j (zEnd d.zones[j]))) (k + 1) ∧ stN 1 (d.zones.set j (zEnd d.zones[j])) + 1 = stN 1 d.zones := by
  have hc : dCmd 3 d d.zones[j] [] = (zEnd d.zones[j], 0) := by
    have : zFin d.zones[j] = (zEnd d.zones[j], 0) := by
      unfold zFin
      rw [if_pos ⟨by simp [zTakes, ho], by rw [ho]; decide⟩]
      rfl
    simp [dCmd, this]
  have h3 := stN_set 1 d.zones j hj (zEnd d.zones[j])
  rw [if_pos ho, if_neg (by simp [zEnd])] at h3
  refine ⟨?_, ?_, by omega⟩
  · have hz : dDoZ d ⟨3, j, []⟩ = some (zEnd d.zones[j]) := by
      simp only [dDoZ, Int.toNat_natCast, List.getElem?_eq_getElem hj, Option.bind_some, hc]
      rw [if_pos ⟨by omega, by omega, by omega, trivial⟩]
    unfold dDoR
    rw [if_pos ⟨hg.ok, hg.dn, by rw [hg.lf]; omega, by rw [hg.lf]; omega, by have := hg.dd; omega, by simp⟩, hz]
    rfl
  · have h1 := zOk_iff.1 ((dOk_iff.1 hg.ok).1 _ (List.getElem_mem hj))
    refine ⟨dOk_set (z := zEnd d.zones[j]) hg.ok (zOk_iff.2 ⟨h1.1, .inr (.inr rfl)⟩) _ _ _, hg.dn, ?_, ?_, ?_⟩
    · simp only [dDid, dLeft, hg.lf]
      rfl
    · have := hg.dd
      simp only [dDid]
      omega
    · have h4 := hg.op
      show stN 1 (d.zones.set j (zEnd d.zones[j])) ≤ 3
      omega
end Go.Av.Pl

namespace Go.Av.Pl
theorem zIdx_none {pr : Zo → Bool} {l : List Zo} (h : zIdx pr l < 0) : ∀ z ∈ l, pr z = false := by
  unfold zIdx at h
  split at h
  · omega
  · rename_i e
    intro z hz
    simpa using List.findIdx?_eq_none_iff.1 e z hz
theorem DG.mono {d : Dv} {k k' : Nat} (h : DG d k) (hk : k ≤ k') : DG d k' := ⟨h.ok, h.dn, h.lf, ⟨h.dd.1, by have := h.dd.2; omega⟩, h.op⟩
theorem recB_ne {r : Rec} (h : recOk r = true) : recB r ≠ [] := by
  intro e
  have := recB_length h
  rw [e] at this
  simp at this
theorem one_bad {d : Dv} (hl : d.zones.length ≤ 2 ^ 40) {r : Rec} (hr : recOk r = false) : one1 d r = some (d, ⟨0, 0⟩, 50) := by
  unfold one1
  rw [if_pos hl, if_pos hr]
/-- Behind a record. -/
structure OneS (d : Dv) (k : Nat) (b : List UInt8) (d' : Dv) (i : Nat) (hi : i < d.zones.length) : Prop where
  room : (b.length : Int) ≤ zRoom d.zones[i] d.size
  good : DG d' (k + 2)
  size : d'.size = d.size
  zones : (d.zones[i].st = 1 ∧ d'.zones = d.zones.set i (zAdd d.zones[i] d.size b)) ∨
    (d.zones[i].st = 0 ∧ (∀ z ∈ d.zones, z.st = 1 → zRoom z d.size < b.length) ∧ (d'.zones = d.zones.set i (zAdd d.zones[i] d.size b) ∨
      ∃ (j : Nat) (hj : j < d.zones.length), j ≠ i ∧ d.zones[j].st = 1 ∧ stN 1 d.zones = 3 ∧ d'.zones = (d.zones.set j (zEnd d.zones[j])).set i (zAdd d.zones[i] d.size b)))
theorem one_good {d : Dv} {k : Nat} (hg : DG d k) (hk : k + 2 ≤ 2 ^ 62) {r : Rec} (hr : recOk r = true) :
    (placeE d (recB r).length ≠ 0 ∧ one1 d r = some (d, ⟨0, 0⟩, placeE d (recB r).length)) ∨
    ∃ (i : Nat) (hi : i < d.zones.length) (d' : Dv), one1 d r = some (d', ⟨FloatKind.f64.nearest (i : Int), FloatKind.f64.nearest (d.zones[i].data.length : Int)⟩, 0) ∧ OneS d k (recB r) d' i hi := by
  have hd := dOk_iff.1 hg.ok
  have hl : d.zones.length ≤ 2 ^ 40 := by omega
  have hr' : ¬ recOk r = false := by simp [hr]
  by_cases hp : placeE d (recB r).length = 0
  · refine .inr ?_
    have hb := recB_ne hr
    have hbl := recB_length hr
    have hbody := (recOk_iff.1 hr).2.2.2.2
    have hb0 : 0 < (recB r).length := by omega
    have hn1 : ¬ (dOk d = false ∨ ((recB r).length : Int) < 1 ∨ d.size < (recB r).length) := by
      intro h
      unfold placeE at hp
      rw [if_pos h] at hp
      cases hp
    have hone : ∀ d', oneD d r = some d' → one1 d r = some (d', oneC d r, 0) := fun d' h => by
      unfold one1
      rw [if_pos hl, if_neg hr', if_neg (by simp [hp]), h]
      rfl
    by_cases h1 : 0 ≤ dFirst d 1 (recB r).length
    · obtain ⟨i, hi, e, hpr⟩ := zIdx_lt h1
      simp only [Bool.and_eq_true, decide_eq_true_eq] at hpr
      have eN : placeN d (recB r).length = i := by unfold placeN; rw [if_neg hn1, if_pos h1]; exact e
      have eL : placeL d (recB r).length = [] := by unfold placeL; rw [if_neg hn1, if_pos h1]
      obtain ⟨k1, k2⟩ := do_app hg (by omega) hi hb (by omega) hpr.2 (.inl hpr.1)
      refine ⟨i, hi, _, (hone _ (by unfold oneD cmdL; rw [eL, eN]; simp only [List.nil_append, List.foldlM_cons, List.foldlM_nil]; rw [k1]; rfl)).trans ?_, ⟨hpr.2, k2.mono (by omega), rfl, .inl ⟨hpr.1, rfl⟩⟩⟩
      unfold oneC
      rw [eN, Int.toNat_natCast, List.getD_eq_getElem?_getD, List.getElem?_eq_getElem hi]
      rfl
    · have h1' : dFirst d 1 (recB r).length < 0 := by omega
      have h2 : 0 ≤ dFirst d 0 (recB r).length := by
        refine Classical.byContradiction fun h2 => ?_
        unfold placeE at hp
        rw [if_neg hn1, if_neg h1, if_pos (by omega)] at hp
        cases hp
      have h2' : ¬ dFirst d 0 (recB r).length < 0 := by omega
      obtain ⟨i, hi, e, hpr⟩ := zIdx_lt h2
      simp only [Bool.and_eq_true, decide_eq_true_eq] at hpr
      have eN : placeN d (recB r).length = i := by unfold placeN; rw [if_neg hn1, if_neg h1, if_neg h2']; exact e
      have hno : ∀ z ∈ d.zones, z.st = 1 → zRoom z d.size < (recB r).length := fun z hz hs => by
        have := zIdx_none h1' z hz
        simp [hs] at this
        omega
      have eC : oneC d r = ⟨FloatKind.f64.nearest (i : Int), FloatKind.f64.nearest (d.zones[i].data.length : Int)⟩ := by
        unfold oneC
        rw [eN, Int.toNat_natCast, List.getD_eq_getElem?_getD, List.getElem?_eq_getElem hi]
        rfl
      by_cases h3 : 3 ≤ stN 1 d.zones
      · have h30 := hg.op
        have hex : 0 ≤ dFirst d 1 0 := by
          refine Classical.byContradiction fun hx => ?_
          have hall := zIdx_none (show dFirst d 1 0 < 0 by omega)
          have : stN 1 d.zones = 0 := by
            unfold stN
            rw [List.countP_eq_zero]
            intro z hz hs
            have hs' : z.st = 1 := by simpa using hs
            have := hall z hz
            simp only [hs', decide_true, Bool.true_and, decide_eq_false_iff_not] at this
            apply this
            unfold zRoom
            split
            · have := zOk_iff.1 (hd.1 z hz)
              omega
            · omega
          omega
        obtain ⟨j, hj, ej, hpj⟩ := zIdx_lt hex
        simp only [Bool.and_eq_true, decide_eq_true_eq] at hpj
        have hji : j ≠ i := by
          rintro rfl
          rw [hpr.1] at hpj
          exact absurd hpj.1 (by decide)
        have eL : placeL d (recB r).length = [⟨3, j, []⟩] := by unfold placeL; rw [if_neg hn1, if_neg h1, if_neg h2', if_pos h3]; rw [show dFirst d 1 0 = (j : Int) from ej]
        obtain ⟨f1, f2, f3⟩ := do_fin hg (by omega) hj hpj.1
        have hi' : i < (dDid d (d.zones.set j (zEnd d.zones[j]))).zones.length := by simpa [dDid] using hi
        have eg : (dDid d (d.zones.set j (zEnd d.zones[j]))).zones[i] = d.zones[i] := by
          exact List.getElem_set_ne hji (show i < (d.zones.set j (zEnd d.zones[j])).length by simpa using hi)
        obtain ⟨k1, k2⟩ := do_app f2 (by omega) hi' hb (by omega) (by rw [eg]; exact hpr.2) (.inr (by show stN 1 (d.zones.set j _) < 3; omega))
        rw [eg] at k1 k2
        refine ⟨i, hi, _, (hone _ (by unfold oneD cmdL; rw [eL, eN]; simp only [List.cons_append, List.nil_append, List.foldlM_cons, List.foldlM_nil]; rw [f1]; simp only [Option.bind_eq_bind, Option.bind_some]; rw [k1]; rfl)).trans (by rw [eC]), ⟨hpr.2, k2.mono (by omega), rfl, .inr ⟨hpr.1, hno, .inr ⟨j, hj, hji, hpj.1, by omega, rfl⟩⟩⟩⟩
      · have eL : placeL d (recB r).length = [] := by unfold placeL; rw [if_neg hn1, if_neg h1, if_neg h2', if_neg h3]
        obtain ⟨k1, k2⟩ := do_app hg (by omega) hi hb (by omega) hpr.2 (.inr (by omega))
        exact ⟨i, hi, _, (hone _ (by unfold oneD cmdL; rw [eL, eN]; simp only [List.nil_append, List.foldlM_cons, List.foldlM_nil]; rw [k1]; rfl)).trans (by rw [eC]), ⟨hpr.2, k2.mono (by omega), rfl, .inr ⟨hpr.1, hno, .inl rfl⟩⟩⟩
  · refine .inl ⟨hp, ?_⟩
    unfold one1
    rw [if_pos hl, if_neg hr', if_pos hp]
end Go.Av.Pl

namespace Go.Av.Pl
def lightZ (c : Nat) (z : Zo) : Bool := decide (z.st = 1 ∧ z.data.length ≤ c)
/-- A device that records were appended to: of zones of c + 4116 bytes. -/
structure HInv (c : Nat) (d : Dv) (i sum : Nat) : Prop where
  good : DG d (2 * i)
  size : d.size = c + 4116
  len : d.zones.length = 60
  sum : (d.zones.map fun z => z.data.length).sum = sum
  st : ∀ z ∈ d.zones, z.st = 0 ∨ z.st = 1 ∨ z.st = 3 ∧ c < z.data.length
  light : d.zones.countP (lightZ c) ≤ 1
  used : 60 ≤ stN 0 d.zones + i
theorem used_le (c : Nat) : ∀ (l : List Zo), (∀ z ∈ l, z.st = 0 ∨ z.st = 1 ∨ z.st = 3 ∧ c < z.data.length) → l.length * c ≤ (l.map fun z => z.data.length).sum + (l.countP (lightZ c) + stN 0 l) * c
  | [], _ => by simp
  | z :: l, h => by
    have ih := used_le c l fun y hy => h y (List.mem_cons_of_mem _ hy)
    have h0 := h z List.mem_cons_self
    simp only [List.length_cons, List.map_cons, List.sum_cons, List.countP_cons, stN] at ih ⊢
    have e1 : (l.length + 1) * c = l.length * c + c := by rw [Nat.add_mul]; omega
    by_cases hz : z.st = 0
    · have e2 : lightZ c z = false := by simp [lightZ, hz]
      simp only [hz, e2, decide_true, if_true, Bool.false_eq_true, if_false, Nat.add_zero]
      have e3 : (l.countP (lightZ c) + (l.countP (fun z => decide (z.st = 0)) + 1)) * c = (l.countP (lightZ c) + l.countP (fun z => decide (z.st = 0))) * c + c := by rw [← Nat.add_assoc, Nat.add_mul]; omega
      omega
    · by_cases hl : lightZ c z = true
      · simp only [hz, hl, decide_false, if_true, Bool.false_eq_true, if_false, Nat.add_zero]
        have e3 : (l.countP (lightZ c) + 1 + l.countP (fun z => decide (z.st = 0))) * c = (l.countP (lightZ c) + l.countP (fun z => decide (z.st = 0))) * c + c := by rw [Nat.add_right_comm, Nat.add_mul]; omega
        omega
      · have hl' : lightZ c z = false := by simpa using hl
        have hc : c ≤ z.data.length := by
          rcases h0 with h | h | h
          · exact absurd h hz
          · simp only [lightZ, h, true_and, decide_eq_true_eq] at hl
            omega
          · omega
        simp only [hz, hl', decide_false, Bool.false_eq_true, if_false, Nat.add_zero]
        omega
theorem place_empty {d : Dv} (hok : dOk d = true) {n : Nat} (hn : 1 ≤ n) (hs : (n : Int) ≤ d.size) (h : ∃ z ∈ d.zones, z.st = 0) : placeE d n = 0 := by
  unfold placeE
  rw [if_neg (by rintro (h | h | h) <;> first | (rw [hok] at h; cases h) | omega)]
  by_cases h1 : 0 ≤ dFirst d 1 n
  · rw [if_pos h1]
  · rw [if_neg h1, if_neg]
    intro h2
    obtain ⟨z, hz, hz0⟩ := h
    have := zIdx_none h2 z hz
    have h3 := (dOk_iff.1 hok).1 z hz
    have h4 := zOk_iff.1 h3
    have h5 : z.data.length = 0 := by
      rcases h4.2 with h | h | h
      · exact h.2
      · omega
      · omega
    have h6 : zRoom z d.size = d.size := by
      unfold zRoom
      rw [if_pos ⟨h3, by simp [zTakes, hz0]⟩, h5]
      omega
    simp only [hz0, h6, decide_true, Bool.true_and, decide_eq_false_iff_not] at this
    exact this hs
theorem zAdd_len (z : Zo) (s : Int) (b : List UInt8) : (zAdd z s b).data.length = z.data.length + b.length := by simp [zAdd]
theorem hinv_step {c i sum : Nat} {d : Dv} (h : HInv c d i sum) (hi : i < 60) {r : Rec} (hr : recOk r = true) (hc : 4076 ≤ c) : ∃ (d' : Dv) (at' : Cx), one1 d r = some (d', at', 0) ∧ HInv c d' (i + 1) (sum + r.body.length + 20) := by
  have hbl := recB_length hr
  have hbody := (recOk_iff.1 hr).2.2.2.2
  have hex : ∃ z ∈ d.zones, z.st = 0 := by
    have h1 : 0 < stN 0 d.zones := by have := h.used; omega
    unfold stN at h1
    obtain ⟨z, hz, hz0⟩ := List.countP_pos_iff.1 h1
    exact ⟨z, hz, by simpa using hz0⟩
  rcases one_good h.good (by omega) hr with ⟨h1, _⟩ | ⟨p, hp, d', hone, hS⟩
  · exact absurd (place_empty h.good.ok (by omega) (by rw [h.size]; omega) hex) h1
  refine ⟨d', _, hone, ?_⟩
  have hb := recB_ne hr
  obtain ⟨a1, a2⟩ := zAdd_ok hb hS.room
  have hlen := zAdd_len d.zones[p] d.size (recB r)
  have hroom := zRoom_pos (by have := hbl; omega) hS.room
  have hlp : lightZ c (zAdd d.zones[p] d.size (recB r)) = true → lightZ c d.zones[p] = true ∨ d.zones[p].st = 0 := by
    intro hl
    simp only [lightZ, decide_eq_true_eq] at hl ⊢
    have := h.st _ (List.getElem_mem hp)
    rcases this with h1 | h1 | ⟨h1, _⟩
    · exact .inr h1
    · exact .inl ⟨h1, by omega⟩
    · have h7 := hroom.2.1
      simp [zTakes, h1] at h7
  have hst : (zAdd d.zones[p] d.size (recB r)).st = 0 ∨ (zAdd d.zones[p] d.size (recB r)).st = 1 ∨ (zAdd d.zones[p] d.size (recB r)).st = 3 ∧ c < (zAdd d.zones[p] d.size (recB r)).data.length := by
    rcases a2 with a2 | ⟨a2, a3⟩
    · exact .inr (.inl a2)
    · have := h.size
      exact .inr (.inr ⟨a2, by omega⟩)
  have hst0 : ¬ (zAdd d.zones[p] d.size (recB r)).st = 0 := by
    rcases a2 with a2 | ⟨a2, _⟩ <;> rw [a2] <;> decide
  have key : ∀ (zs : List Zo) (hpz : p < zs.length), zs[p] = d.zones[p] → zs.length = 60 → (zs.map fun z => z.data.length).sum = sum → (∀ z ∈ zs, z.st = 0 ∨ z.st = 1 ∨ z.st = 3 ∧ c < z.data.length) →
      (zs.countP (lightZ c) = 0 ∨ d.zones[p].st = 1 ∧ zs.countP (lightZ c) ≤ 1) → 60 ≤ stN 0 zs + i → d'.zones = zs.set p (zAdd d.zones[p] d.size (recB r)) → HInv c d' (i + 1) (sum + r.body.length + 20) := by
    intro zs hpz e k1 k2 k3 k4 k5 k6
    refine ⟨?_, by rw [hS.size, h.size], by rw [k6]; simpa using k1, ?_, ?_, ?_, ?_⟩
    · exact hS.good.mono (by omega)
    · have := sum_set (fun z => z.data.length) zs p hpz (zAdd d.zones[p] d.size (recB r))
      rw [k6]
      rw [e] at this
      simp only [hlen] at this
      omega
    · intro z hz
      rw [k6] at hz
      rcases List.mem_or_eq_of_mem_set hz with hz | rfl
      · exact k3 z hz
      · exact hst
    · have := cnt_set (lightZ c) zs p hpz (zAdd d.zones[p] d.size (recB r))
      rw [k6]
      rw [e] at this
      rcases k4 with k4 | ⟨k4, k4'⟩
      · have h1 : (lightZ c (zAdd d.zones[p] d.size (recB r))).toNat ≤ 1 := by cases lightZ c (zAdd d.zones[p] d.size (recB r)) <;> simp
        omega
      · cases hq : lightZ c (zAdd d.zones[p] d.size (recB r)) with
        | false =>
          rw [hq] at this
          simp at this
          omega
        | true =>
          rcases hlp hq with h1 | h1
          · rw [hq, h1] at this
            omega
          · rw [k4] at h1
            exact absurd h1 (by decide)
    · have := stN_set 0 zs p hpz (zAdd d.zones[p] d.size (recB r))
      rw [k6]
      rw [if_neg hst0] at this
      split at this <;> omega
  rcases hS.zones with ⟨z1, z2⟩ | ⟨z1, z2, z3⟩
  · exact key d.zones hp rfl h.len h.sum h.st (.inr ⟨z1, h.light⟩) h.used z2
  · have hheavy : ∀ z ∈ d.zones, z.st = 1 → c < z.data.length := by
      intro z hz hz1
      have h1 := z2 z hz hz1
      have h2 := (dOk_iff.1 h.good.ok).1 z hz
      unfold zRoom at h1
      rw [if_pos ⟨h2, by simp [zTakes, hz1]⟩, h.size] at h1
      omega
    have hl0 : d.zones.countP (lightZ c) = 0 := by
      rw [List.countP_eq_zero]
      intro z hz hl
      simp only [lightZ, decide_eq_true_eq] at hl
      have := hheavy z hz hl.1
      omega
    rcases z3 with z3 | ⟨j, hj, hji, hj1, _, z3⟩
    · exact key d.zones hp rfl h.len h.sum h.st (.inl hl0) h.used z3
    · refine key (d.zones.set j (zEnd d.zones[j])) (by simpa using hp) (List.getElem_set_ne hji (by simpa using hp)) (by simpa using h.len) ?_ ?_ (.inl ?_) ?_ z3
      · have := sum_set (fun z => z.data.length) d.zones j hj (zEnd d.zones[j])
        have h1 := h.sum
        simp only [zEnd] at this ⊢
        omega
      · intro z hz
        rcases List.mem_or_eq_of_mem_set hz with hz | rfl
        · exact h.st z hz
        · exact .inr (.inr ⟨rfl, hheavy d.zones[j] (List.getElem_mem hj) hj1⟩)
      · have := cnt_set (lightZ c) d.zones j hj (zEnd d.zones[j])
        have h1 : lightZ c (zEnd d.zones[j]) = false := by simp [lightZ, zEnd]
        rw [h1] at this
        simp at this
        omega
      · have := stN_set 0 d.zones j hj (zEnd d.zones[j])
        rw [if_neg (by rw [hj1]; decide), if_neg (by simp [zEnd])] at this
        have := h.used
        omega
theorem hinv_new (c : Nat) (hc : c + 4116 ≤ 1048576) : HInv c (dNew 60 (c + 4116)) 0 0 := by
  have e : dNew 60 (c + 4116) = ⟨c + 4116, List.replicate 60 ⟨0, 0, [], 0⟩, -1, false, 0⟩ := by
    unfold dNew
    rw [if_neg (by omega)]
    rfl
  rw [e]
  refine ⟨⟨?_, rfl, rfl, by simp, by simp [stN, List.countP_replicate]⟩, rfl, rfl, rfl, ?_, by simp [List.countP_replicate, lightZ], by simp [stN, List.countP_replicate]⟩
  · refine dOk_iff.2 ⟨fun z hz => ?_, by simp, by simp, by simp only; omega, by simp only; omega⟩
    rw [(List.mem_replicate.1 hz).2]
    refine zOk_iff.2 ⟨⟨?_, ?_, ?_, by simp, by simp, by simp, by simp⟩, .inl ⟨rfl, rfl⟩⟩ <;> simp <;> omega
  · intro z hz
    rw [(List.mem_replicate.1 hz).2]
    exact .inl rfl
theorem hinv_used {c i sum : Nat} {d : Dv} (h : HInv c d i sum) (hc : 4076 ≤ c) : 60 - (stN 0 d.zones : Int) ≤ (sum : Int).tdiv c + 1 := by
  have h1 := used_le c d.zones h.st
  rw [h.len, h.sum] at h1
  have h2 := h.light
  have h3 : (d.zones.countP (lightZ c) + stN 0 d.zones) * c ≤ (1 + stN 0 d.zones) * c := Nat.mul_le_mul_right _ (by omega)
  have h4 : stN 0 d.zones ≤ 60 := by have := stN_le 0 d.zones; rw [h.len] at this; exact this
  rw [Int.tdiv_eq_ediv_of_nonneg (by omega)]
  have h5 : (59 - stN 0 d.zones) * c ≤ sum := by
    have : 60 * c = (59 - stN 0 d.zones) * c + (1 + stN 0 d.zones) * c ∨ stN 0 d.zones = 60 := by
      by_cases hh : stN 0 d.zones = 60
      · exact .inr hh
      · left
        rw [← Nat.add_mul]
        congr 1
        omega
    rcases this with h | h
    · omega
    · rw [h]; simp
  have h6 : (59 - stN 0 d.zones) ≤ sum / c := (Nat.le_div_iff_mul_le (by omega)).2 h5
  have h7 : ((sum / c : Nat) : Int) = (sum : Int) / c := by simp
  omega
end Go.Av.Pl

namespace Go.Av
open Enc (enc dec)
open Cel (cs dc)
open Go.Proofs Pl

theorem c_held (n a b : Int) : Pure Try.prog n_space_held_int [enc n, enc a, enc b] (enc (min (max n a) b)) [] := by
  refine Pure.ofC OOk.nil hm F_space_held_int_ok (by simp [F_space_held_int]) rfl ?_
  simp [F_space_held_int]
@[simp] def sp_held (n a b : Int) : Option (V × List Tip) := some (enc (min (max n a) b), [])
theorem sp_held_ok : EOk Try.prog n_space_held_int (sp3 sp_held) := sp3_ok fun a b c r h => by cases h; exact c_held a b c
def Dp1 : Orc := Orc.nil.add n_space_held_int (sp3 sp_held)
theorem Dp1_ok : OOk Try.prog Dp1 := OOk.nil.add sp_held_ok
def mayZ (n : Int) : Bool := decide (8192 ≤ n ∧ n ≤ 1048576)
def someZ (n : Int) : Bool := decide (1 ≤ n ∧ n ≤ 64)
theorem c_spMay (n : Int) : Pure Try.prog n_space_may [enc n] (enc (mayZ n)) [] := by
  refine Pure.ofC Dp1_ok hm F_space_may_ok (by simp [F_space_may]) rfl ?_
  simp [F_space_may, Dp1, mayZ]
  rw [Bool.eq_iff_iff]
  simp
  omega
theorem c_spSome (n : Int) : Pure Try.prog n_space_some [enc n] (enc (someZ n)) [] := by
  refine Pure.ofC Dp1_ok hm F_space_some_ok (by simp [F_space_some]) rfl ?_
  simp [F_space_some, Dp1, someZ]
  rw [Bool.eq_iff_iff]
  simp
  omega
@[simp] def sp_spMay (n : Int) : Option (V × List Tip) := some (enc (mayZ n), [])
theorem sp_spMay_ok : EOk Try.prog n_space_may (sp1 sp_spMay) := sp1_ok fun a r h => by cases h; exact c_spMay a
@[simp] def sp_spSome (n : Int) : Option (V × List Tip) := some (enc (someZ n), [])
theorem sp_spSome_ok : EOk Try.prog n_space_some (sp1 sp_spSome) := sp1_ok fun a r h => by cases h; exact c_spSome a
@[simp] def sp_rSize (n : Int) : Option (V × List Tip) := some (enc (recSz n), [])
theorem sp_rSize_ok : EOk Try.prog n_record_Size (sp1 sp_rSize) := sp1_ok fun a r h => by cases h; exact c_rSize a
def Dp2 : Orc := (((Dp1.add n_space_may (sp1 sp_spMay)).add n_space_some (sp1 sp_spSome)).add n_record_Size (sp1 sp_rSize))
theorem Dp2_ok : OOk Try.prog Dp2 := ((Dp1_ok.add sp_spMay_ok).add sp_spSome_ok).add sp_rSize_ok
def takesZ (n s : Int) : Int := if mayZ s = true then (max n 0).tdiv (s - 4116) + 1 else 0
theorem c_takesZ (n s : Int) (hn : n ≤ 2 ^ 62) : Pure Try.prog n_space_Takes [enc n, enc s] (enc (takesZ n s)) [] := by
  refine Pure.ofC Dp2_ok hm F_space_Takes_ok (by simp [F_space_Takes]) rfl ?_
  by_cases h : mayZ s = true
  · have h2 : 8192 ≤ s ∧ s ≤ 1048576 := by simpa [mayZ] using h
    have w1 := IntWalk.i64_in (s - 4116) (by omega)
    have hd : 0 ≤ (max n 0).tdiv (s - 4116) ∧ (max n 0).tdiv (s - 4116) ≤ max n 0 := ⟨Int.tdiv_nonneg (by omega) (by omega), by
      rw [Int.tdiv_eq_ediv_of_nonneg (by omega)]
      exact Int.ediv_le_self _ (by omega)⟩
    have w2 := IntWalk.i64_in ((max n 0).tdiv (s - 4116)) (by omega)
    have w3 := IntWalk.i64_in ((max n 0).tdiv (s - 4116) + 1) (by omega)
    have e : recSz 4096 = 4116 := by decide
    have hne : ¬ s - 4116 = 0 := by omega
    simp [F_space_Takes, Dp2, Dp1, h, e, w1, w2, w3, takesZ, hne]
  · have h' : mayZ s = false := by simpa using h
    simp [F_space_Takes, Dp2, Dp1, h', takesZ]
@[simp] def sp_takesZ (n s : Int) : Option (V × List Tip) := if n ≤ 2 ^ 62 then some (enc (takesZ n s), []) else none
theorem sp_takesZ_ok : EOk Try.prog n_space_Takes (sp2 sp_takesZ) := sp2_ok fun a b r h => by
  simp only [sp_takesZ] at h
  split at h <;> cases h
  exact c_takesZ a b (by assumption)
theorem wI (n : Int) (h1 : -9223372036854775808 ≤ n) (h2 : n ≤ 9223372036854775807) : IntKind.i64.wrap n = n := IntWalk.i64_in n (by omega)
theorem c_mapped64 : Pure Try.prog n_space_mapped [enc (64 : Int)] (enc (2499 : Int)) [] := by
  refine Pure.ofC OOk.nil hm F_space_mapped_ok (by simp [F_space_mapped]) rfl ?_
  simp [F_space_mapped, wI]
@[simp] def sp_if (a b : Int) (n : Int) : Option (V × List Tip) := if n = a then some (enc b, []) else none
theorem sp_if_ok {n : FuncId} {a b : Int} (h : Pure Try.prog n [enc a] (enc b) []) : EOk Try.prog n (sp1 (sp_if a b)) := sp1_ok fun x r hh => by
  simp only [sp_if] at hh
  split at hh <;> cases hh
  rename_i e
  subst e
  exact h
def Dp3 : Orc := (Dp2.add n_space_mapped (sp1 (sp_if 64 2499)))
theorem Dp3_ok : OOk Try.prog Dp3 := Dp2_ok.add (sp_if_ok c_mapped64)
theorem c_snap64 : Pure Try.prog n_space_Snap [enc (64 : Int)] (.tuple [enc (16665 : Int), enc (6 : Int)]) [] := by
  refine Pure.ofC Dp3_ok hm F_space_Snap_ok (by simp [F_space_Snap]) (by simp [V.res, V.res1]) ?_
  simp [F_space_Snap, Dp3, Dp2, Dp1, wI, someZ, recSz]
@[simp] def sp_snap64 (n : Int) : Option (V × List Tip) := if n = 64 then some (.tuple [enc (16665 : Int), enc (6 : Int)], []) else none
theorem sp_snap64_ok : EOk Try.prog n_space_Snap (sp1 sp_snap64) := sp1_ok fun x r hh => by
  simp only [sp_snap64] at hh
  split at hh <;> cases hh
  rename_i e
  subst e
  exact c_snap64
theorem c_change64 : Pure Try.prog n_space_Change [enc (64 : Int)] (enc (2526 : Int)) [] := by
  refine Pure.ofC Dp2_ok hm F_space_Change_ok (by simp [F_space_Change]) rfl ?_
  simp [F_space_Change, Dp2, Dp1, wI, someZ, recSz]
  decide
theorem c_change0 : Pure Try.prog n_space_Change [enc (0 : Int)] (enc (0 : Int)) [] := by
  refine Pure.ofC Dp2_ok hm F_space_Change_ok (by simp [F_space_Change]) rfl ?_
  simp [F_space_Change, Dp2, Dp1, wI, someZ]
@[simp] def sp_change (n : Int) : Option (V × List Tip) := if n = 64 then some (enc (2526 : Int), []) else if n = 0 then some (enc (0 : Int), []) else none
theorem sp_change_ok : EOk Try.prog n_space_Change (sp1 sp_change) := sp1_ok fun x r hh => by
  simp only [sp_change] at hh
  split at hh
  · cases hh
    rename_i e
    subst e
    exact c_change64
  · split at hh <;> cases hh
    rename_i e
    subst e
    exact c_change0
def Dp4 : Orc := ((Dp2.add n_space_Takes (sp2 sp_takesZ)).add n_space_Snap (sp1 sp_snap64)).add n_space_Change (sp1 sp_change)
theorem Dp4_ok : OOk Try.prog Dp4 := ((Dp2_ok.add sp_takesZ_ok).add sp_snap64_ok).add sp_change_ok
theorem c_need1 (m : Mem) (p : Nat) (n s : Int) (hn : n ≤ 2 ^ 62) (hp : m.boxes[p]? = some [.val (.int .i64 s)]) : Loc Try.prog n_space_Need_1 [enc n, .ptr p 0] m (enc (takesZ n s)) m := by
  refine Loc.ofC Dp4_ok hm F_space_Need_1_ok (by simp [F_space_Need_1]) (.inl rfl) m.boxes.length m.tips.length (Nat.le_refl _) (Nat.le_refl _) fun hu => ?_
  simp at hn
  simp [F_space_Need_1, Dp4, hp, hu, hn]
def sp_need1 : List V → Mem → Option (V × Mem)
  | [.val (.int .i64 n), .ptr p 0], m => (boxI m p).bind fun s => if n ≤ 2 ^ 62 then some (enc (takesZ n s), m) else none
  | _, _ => none
theorem sp_need1_ok : EOkL Try.prog n_space_Need_1 sp_need1 := by
  intro args m v m' h
  unfold sp_need1 at h
  split at h
  · simp only [Option.bind_eq_some_iff] at h
    obtain ⟨s, hs, h⟩ := h
    split at h <;> cases h
    exact c_need1 m _ _ s (by assumption) (boxI_some hs)
  · cases h
def Dp5 : Orc := Dp4.addL n_space_Need_1 sp_need1
theorem Dp5_ok : OOk Try.prog Dp5 := Dp4_ok.addL sp_need1_ok
theorem c_need : Pure Try.prog n_space_Need [enc (64 : Int), enc (8192 : Int)] (enc (6 : Int)) [] := by
  refine Pure.ofC Dp5_ok hm F_space_Need_ok (by simp [F_space_Need]) rfl ?_
  simp [F_space_Need, Dp5, Dp4, Dp2, Dp1, wI, someZ, mayZ, sp_need1, boxI, takesZ]
  decide
@[simp] def sp_need (a b : Int) : Option (V × List Tip) := if a = 64 ∧ b = 8192 then some (enc (6 : Int), []) else none
theorem sp_need_ok : EOk Try.prog n_space_Need (sp2 sp_need) := sp2_ok fun a b r hh => by
  simp only [sp_need] at hh
  split at hh <;> cases hh
  rename_i e
  obtain ⟨rfl, rfl⟩ := e
  exact c_need
def Dp6 : Orc := Dp5.add n_space_Need (sp2 sp_need)
theorem Dp6_ok : OOk Try.prog Dp6 := Dp5_ok.add sp_need_ok
theorem c_zones : Pure Try.prog n_space_Zones [enc (64 : Int), enc (8192 : Int)] (enc (15 : Int)) [] := by
  refine Pure.ofC Dp6_ok hm F_space_Zones_ok (by simp [F_space_Zones]) rfl ?_
  simp [F_space_Zones, Dp6, Dp5, Dp4, Dp2, Dp1, wI, takesZ, mayZ]
  decide
@[simp] def sp_zones (a b : Int) : Option (V × List Tip) := if a = 64 ∧ b = 8192 then some (enc (15 : Int), []) else none
theorem sp_zones_ok : EOk Try.prog n_space_Zones (sp2 sp_zones) := sp2_ok fun a b r hh => by
  simp only [sp_zones] at hh
  split at hh <;> cases hh
  rename_i e
  obtain ⟨rfl, rfl⟩ := e
  exact c_zones
def Dp7 : Orc := Dp6.add n_space_Zones (sp2 sp_zones)
theorem Dp7_ok : OOk Try.prog Dp7 := Dp6_ok.add sp_zones_ok
theorem c_spCheck (n : Int) (hn : n = 15 ∨ n = 14) : Pure Try.prog n_space_Check [enc n, enc (8192 : Int), enc (64 : Int)] (enc (if n = 15 then 0 else 130 : Int)) [] := by
  refine Pure.ofC Dp7_ok hm F_space_Check_ok (by simp [F_space_Check]) rfl ?_
  rcases hn with rfl | rfl <;> simp [F_space_Check, Dp7]
@[simp] def sp_spCheck (a b c : Int) : Option (V × List Tip) := if (a = 15 ∨ a = 14) ∧ b = 8192 ∧ c = 64 then some (enc (if a = 15 then 0 else 130 : Int), []) else none
theorem sp_spCheck_ok : EOk Try.prog n_space_Check (sp3 sp_spCheck) := sp3_ok fun a b c r hh => by
  simp only [sp_spCheck] at hh
  split at hh <;> cases hh
  rename_i e
  obtain ⟨e, rfl, rfl⟩ := e
  exact c_spCheck a e
theorem c_spBound : Pure Try.prog n_space_Bound [enc (15 : Int), enc (64 : Int)] (enc (49 : Int)) [] := by
  refine Pure.ofC Dp7_ok hm F_space_Bound_ok (by simp [F_space_Bound]) rfl ?_
  simp [F_space_Bound, Dp7, Dp6, Dp5, Dp4, Dp2, Dp1, wI]
  decide
@[simp] def sp_spBound (a b : Int) : Option (V × List Tip) := if a = 15 ∧ b = 64 then some (enc (49 : Int), []) else none
theorem sp_spBound_ok : EOk Try.prog n_space_Bound (sp2 sp_spBound) := sp2_ok fun a b r hh => by
  simp only [sp_spBound] at hh
  split at hh <;> cases hh
  rename_i e
  obtain ⟨rfl, rfl⟩ := e
  exact c_spBound
def Dp8 : Orc := (Dp7.add n_space_Check (sp3 sp_spCheck)).add n_space_Bound (sp2 sp_spBound)
theorem Dp8_ok : OOk Try.prog Dp8 := (Dp7_ok.add sp_spCheck_ok).add sp_spBound_ok
theorem c_w13awake : Pure Try.prog n_w13_awake [] (.val (.bool true)) [] := by
  refine Pure.ofC Dp8_ok hm F_w13_awake_ok (by simp [F_w13_awake]) rfl ?_
  simp [F_w13_awake, Dp8, Dp7, Dp6, Dp5, Dp4, Dp2, takesZ, mayZ]
  decide
end Go.Av

namespace Go.Av.Pl
structure Half where
  v : Int
end Go.Av.Pl
namespace Go.Av
open Enc (enc dec)
open Cel (cs dc)
open Go.Proofs Pl

instance : Enc Half where
  enc n := .val (.int .u16 n.v)
  dec v := match v with
    | .val (.int .u16 n) => some ⟨n⟩
    | _ => none
  ok v a h M w x hr := by
    split at h
    · cases h; exact hr
    · cases h
  cl _ := rfl
  de _ := rfl
instance : Cel Half := ⟨1, fun a => [enc a], dc1, fun _ => rfl, dc1_ok, fun a => by simp [Enc.cl], fun a => by simp [dc1, Enc.de]⟩
@[simp] theorem enc_half (n : Half) : (enc n : V) = .val (.int .u16 n.v) := rfl
@[simp] theorem cs_half (n : Half) : cs n = [.val (.int .u16 n.v)] := rfl
@[simp] theorem sz_half : Cel.sz Half = 1 := rfl
theorem decX_rep : ∀ n : Nat, (decX (List.replicate n [V.val (.int .u8 0)]) : Option (List UInt8)) = some (List.replicate n 0)
  | 0 => rfl
  | n + 1 => by
    rw [List.replicate_succ, decX_cons, decX_rep n]
    rfl
@[simp] def sp_lApp (d : Dv) (l : List Rec) : Option (V × List Tip) := if (d.zones.length ≤ 2 ^ 40 ∧ d.zones.all (fun z => decide (z.data.length ≤ 2 ^ 30)) = true ∧ d.zones ≠ []) ∧ l.length ≤ 2 ^ 30 then (appR d l).map fun R => (.tuple [enc R.1, enc R.2.1, enc R.2.2], []) else none
theorem sp_lApp_ok : EOk Try.prog n_log_Append (sp2 sp_lApp) := sp2_ok fun d l r h => by
  simp only [sp_lApp] at h
  split at h
  · rename_i hc
    simp only [Option.map_eq_some_iff] at h
    obtain ⟨R, hR, rfl⟩ := h
    exact c_lAppend d l ⟨hc.1.1, fun z hz => by simpa using List.all_eq_true.1 hc.1.2.1 z hz⟩ hc.1.2.2 hc.2 R hR
  · cases h
@[simp] def sp_dNew (a b : Int) : Option (V × List Tip) := some (.tuple [enc (dNew a b), enc (dNewE a b)], [])
theorem sp_dNew_ok : EOk Try.prog n_dev_New (sp2 sp_dNew) := sp2_ok fun a b r h => by cases h; exact c_dNew a b
@[simp] def sp_lEmpty (d : Dv) : Option (V × List Tip) := if d.zones.length ≤ 2 ^ 40 then some (enc (stN 0 d.zones : Int), []) else none
theorem sp_lEmpty_ok : EOk Try.prog n_log_Empty (sp1 sp_lEmpty) := sp1_ok fun d r h => by
  simp only [sp_lEmpty] at h
  split at h <;> cases h
  exact c_lEmpty d (by assumption)
@[simp] def sp_true : Option (V × List Tip) := some (.val (.bool true), [])
theorem sp_awake13_ok : EOk Try.prog n_w13_awake (sp0 sp_true) := sp0_ok fun r h => by cases h; exact c_w13awake
def Dt1 : Orc := ((((Orc.nil.add n_log_Append (sp2 sp_lApp)).add n_dev_New (sp2 sp_dNew)).add n_log_Empty (sp1 sp_lEmpty)).add n_w13_awake (sp0 sp_true)).add n_space_Takes (sp2 sp_takesZ)
theorem Dt1_ok : OOk Try.prog Dt1 := ((((OOk.nil.add sp_lApp_ok).add sp_dNew_ok).add sp_lEmpty_ok).add sp_awake13_ok).add sp_takesZ_ok
theorem dg_app {d : Dv} {k : Nat} (h : DG d k) : d.zones.length ≤ 2 ^ 40 ∧ d.zones.all (fun z => decide (z.data.length ≤ 2 ^ 30)) = true ∧ d.zones ≠ [] := by
  obtain ⟨h1, h2⟩ := dOk_sm h.ok
  exact ⟨h1.n, List.all_eq_true.2 fun z hz => by simpa using h1.z z hz, h2⟩
def HoldI (l : List Half) (c : Nat) (k : Nat) (s : Nat → V) (m : Mem) : Prop :=
  ∃ (i sum : Nat) (d : Dv) (r : List (List V)), i + k = l.length ∧ HInv c d i sum ∧ sum ≤ 4116 * i ∧ s 0 = .lit 1 (l.map cs) ∧ s 5 = .val (.bool true) ∧ s 6 = .val (.int .i64 ((c : Int) + 4116)) ∧ s 7 = .ptr 0 0 ∧ s 8 = .val (.int .i64 0) ∧ s 9 = .val (.int .i64 sum) ∧ s 10 = .val (.int .i64 i) ∧ m.boxes = cs d :: r
theorem c_SpaceHolds (l : List Half) (a : Int) (hl : ∀ h ∈ l, 0 ≤ h.v ∧ h.v < 65536) (ha : 0 ≤ a ∧ a < 65536) : Pure Try.prog n_w13_SpaceHolds [enc l, .val (.int .u16 a)] (.val (.bool true)) [] := by
  refine Pure.ofC Dt1_ok hm F_w13_SpaceHolds_ok (by simp [F_w13_SpaceHolds]) rfl ?_
  by_cases hn : 60 < (l.length : Int)
  · simp [F_w13_SpaceHolds, Dt1, hn]
  have w1 := wI a (by omega) (by omega)
  obtain ⟨c, hc⟩ : ∃ c : Nat, 8192 + a.tmod 8000 = (c : Int) + 4116 := by
    rw [Int.tmod_eq_emod_of_nonneg ha.1]
    have := Int.emod_nonneg a (show (8000 : Int) ≠ 0 by decide)
    exact ⟨(8192 + a % 8000 - 4116).toNat, by omega⟩
  have hc2 : 4076 ≤ c ∧ c ≤ 12075 := by
    rw [Int.tmod_eq_emod_of_nonneg ha.1] at hc
    have := Int.emod_nonneg a (show (8000 : Int) ≠ 0 by decide)
    have := Int.emod_lt_of_pos a (show (0 : Int) < 8000 by decide)
    omega
  have w2 : IntKind.i64.wrap (8192 + a.tmod 8000) = (c : Int) + 4116 := by rw [hc]; exact wI _ (by omega) (by omega)
  have e1 : dNewE 60 ((c : Int) + 4116) = 0 := by unfold dNewE; rw [if_neg (by omega)]
  simp [F_w13_SpaceHolds, Dt1, hn, w1, w2, e1]
  refine wp_loop (HoldI l c) l.length (IW.of ⟨0, 0, dNew 60 (c + 4116), [], by omega, hinv_new c (by omega), by omega, by simp, by simp, by simp, by simp, by simp, by simp, by simp, by simp⟩) fun k s m ⟨i, sum, d, r, hik, hH, hsum, s0, s5, s6, s7, s8, s9, s10, hm⟩ => ?_
  obtain ⟨bx, tips⟩ := m
  simp only at hm
  subst hm
  obtain ⟨g1, g2, g3⟩ := dg_app hH.good
  simp at g2
  by_cases hi : i < l.length
  · have hg : l[i]? = some l[i] := List.getElem?_eq_getElem hi
    have hv := hl _ (List.getElem_mem hi)
    have w3 := wI l[i].v (by omega) (by omega)
    obtain ⟨b, hb⟩ : ∃ b : Nat, l[i].v.tmod 4097 = b := by
      rw [Int.tmod_eq_emod_of_nonneg hv.1]
      have := Int.emod_nonneg l[i].v (show (4097 : Int) ≠ 0 by decide)
      exact ⟨(l[i].v % 4097).toNat, by omega⟩
    have hb2 : b ≤ 4096 := by
      rw [Int.tmod_eq_emod_of_nonneg hv.1] at hb
      have := Int.emod_lt_of_pos l[i].v (show (0 : Int) < 4097 by decide)
      omega
    have w4 := wI ((sum : Int) + b) (by omega) (by omega)
    have w5 := wI ((sum : Int) + b + 20) (by omega) (by omega)
    have w6 := wI ((i : Int) + 1) (by omega) (by omega)
    have w7 := wI (b : Int) (by omega) (by omega)
    obtain ⟨d', at', hone, hH'⟩ := hinv_step (r := ⟨1, i, List.replicate b 0⟩) hH (by omega) (recOk_iff.2 ⟨by simp, by simp, by simp, by simp only; omega, by simpa using hb2⟩) hc2.1
    have happ : appR d [⟨1, i, List.replicate b 0⟩] = some (d', [at'], 0) := by simp [appR, hone]
    simp [F_w13_SpaceHolds_L0, Dt1, s0, s5, s6, s7, s8, s9, s10, hi, hg, w3, hb, w4, w5, w6, w7, decX_rep, decX_map, happ, g1, g2, g3]
    exact ⟨by omega, g2, k - 1, by omega, IW.of (show HoldI l c _ _ _ from ⟨i + 1, sum + b + 20, d', _, by omega, by simpa using hH', by omega, by simpa using s0, by simpa using s5, by simpa using s6, by simpa using s7, by simpa using s8, by simp, by simp, by rfl⟩)⟩
  · simp [F_w13_SpaceHolds_L0, Dt1, s0, s5, s6, s7, s8, s9, s10, hi, decX_map, g1]
    have hu := hinv_used hH hc2.1
    have hsl := stN_le 0 d.zones
    have hdl := hH.len
    have w8 := wI (60 - (stN 0 d.zones : Int)) (by omega) (by omega)
    have ht : takesZ (sum : Int) ((c : Int) + 4116) = (sum : Int).tdiv c + 1 := by
      unfold takesZ
      rw [if_pos (by simp [mayZ]; omega), show max (sum : Int) 0 = sum by omega, show (c : Int) + 4116 - 4116 = c by omega]
    rw [w8, ht]
    exact ⟨fun _ _ => ⟨by omega, hu⟩, fun _ => ⟨by omega, hu⟩⟩
end Go.Av

namespace Go.Av
open Enc (enc dec)
open Cel (cs dc)
open Go.Proofs Pl Go.ChangeShapes Go.WideShapes Go.RowKit

theorem opn_half : Opn Try.prog 23 (fun b : Half => cs b) (fun h => 0 ≤ h.v ∧ h.v < 65536) := by
  refine ⟨fun _ => Eq.symm (by kernel_rfl), fun en w base spare held fuel cs x h => ?_⟩
  obtain ⟨n, rfl, _, hw⟩ := DataW.trod_int Try.underlying23 h
  have hw := bounds_u16 hw
  exact ⟨⟨n⟩, ⟨hw.1, by simp only; omega⟩, ⟨_, _, rfl, ⟨rfl, rfl⟩, rfl⟩, by simp [Value.oneCell']⟩
theorem opn_halves : Opn Try.prog 22 (fun l : List Half => [enc l]) (fun l => l.length ≤ maxLen ∧ ∀ b ∈ l, 0 ≤ b.v ∧ b.v < 65536) := Opn.slice Try.underlying22 (by kernel_rfl) (by decide) opn_half
end Go.Av
