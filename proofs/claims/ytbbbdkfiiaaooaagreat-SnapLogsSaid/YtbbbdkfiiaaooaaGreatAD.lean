/-
  AvX: What is known of functions, one by one; values of Lean as abstract values, and back.
  ZlSnN: Numbers and compact codes of functions.
  ZlSnO: Numbers and compact codes of functions.
  ZlSnQ: Numbers and compact codes of functions.
  ZlSnR: Numbers and compact codes of functions.
-/
import Derived.Test.YtbbbdkfiiaaooaaGreatAC
import Derived.Laws.Strings
import Derived.Test.YtbbbdkfiiaaooaaGreatRows
set_option linter.unusedSimpArgs false
set_option linter.unusedVariables false

namespace Go.Av
open Go.RowKit

def Orc.nil : Orc := ⟨fun _ _ => none, fun _ _ _ => none, fun _ => false⟩
def Orc.add (D : Orc) (n : FuncId) (sp : List V → Option (V × List Tip)) : Orc := ⟨fun f => if f = n then sp else D.pure f, D.loc, fun f => if f = n then false else D.isLoc f⟩
def Orc.addL (D : Orc) (n : FuncId) (sp : List V → Mem → Option (V × Mem)) : Orc := ⟨D.pure, fun f => if f = n then sp else D.loc f, fun f => if f = n then true else D.isLoc f⟩
/-- An entry's word. -/
def EOk (P : Program) (n : FuncId) (sp : List V → Option (V × List Tip)) : Prop :=
  ∀ args v tips, sp args = some (v, tips) → (∃ args', WkL args args' ∧ Pure P n args' v tips ∧ cleanL args' = true) ∨ (tips = [] ∧ v.isClean = true ∧ ExtR P n args v)
def EOkL (P : Program) (n : FuncId) (sp : List V → Mem → Option (V × Mem)) : Prop := ∀ args m v m', sp args m = some (v, m') → Loc P n args m v m'
theorem OOk.nil {P : Program} : OOk P .nil := ⟨fun _ _ _ _ _ h => (by cases h), fun _ _ _ _ _ _ h => (by cases h)⟩
theorem OOk.add {P : Program} {D : Orc} (h : OOk P D) {n : FuncId} {sp : List V → Option (V × List Tip)} (he : EOk P n sp) : OOk P (D.add n sp) where
  pure f args v tips h1 h2 := by
    simp only [Orc.add] at h1 h2
    by_cases e : f = n
    · subst e
      rw [if_pos rfl] at h2
      exact he args v tips h2
    · rw [if_neg e] at h1 h2
      exact h.pure f args v tips h1 h2
  loc f args m v m' h1 h2 := by
    simp only [Orc.add] at h1 h2
    by_cases e : f = n
    · subst e
      rw [if_pos rfl] at h1
      cases h1
    · rw [if_neg e] at h1
      exact h.loc f args m v m' h1 h2
theorem OOk.addL {P : Program} {D : Orc} (h : OOk P D) {n : FuncId} {sp : List V → Mem → Option (V × Mem)} (he : EOkL P n sp) : OOk P (D.addL n sp) where
  pure f args v tips h1 h2 := by
    simp only [Orc.addL] at h1 h2
    by_cases e : f = n
    · subst e
      rw [if_pos rfl] at h1
      cases h1
    · rw [if_neg e] at h1
      exact h.pure f args v tips h1 h2
  loc f args m v m' h1 h2 := by
    simp only [Orc.addL] at h1 h2
    by_cases e : f = n
    · subst e
      rw [if_pos rfl] at h2
      exact he args m v m' h2
    · rw [if_neg e] at h1 h2
      exact h.loc f args m v m' h1 h2
section
variable {D : Orc} {n f : FuncId} {sp : List V → Option (V × List Tip)} {sl : List V → Mem → Option (V × Mem)} {q : Bool} {args : List V} {m : Mem} {F : V → Mem → Prop}
@[simp ↓] theorem callW_add : callW (D.add n sp) q f args m F = if f = n then pureW (sp args) q m F else callW D q f args m F := by
  unfold callW
  by_cases e : f = n
  · simp [Orc.add, e]
  · simp [Orc.add, e]
@[simp ↓] theorem callW_addL : callW (D.addL n sl) q f args m F = if f = n then (q = false ∧ goWp (sl args m) F) else callW D q f args m F := by
  unfold callW
  by_cases e : f = n
  · simp [Orc.addL, e]
  · simp [Orc.addL, e]
end


section
variable {P : Program} {D : Orc} {own : Nat → Bool} {f : FuncId} {F : F} {args : List V} {r : V}
/-- Of no rows. -/
theorem Pure.ofC (hD : OOk P D) (hm : P.follows .mixedOrders = true) (hF : compF P own f = some F) (hn : args.length ≤ F.n) (hres : r.res = true)
    (h : wp P noY D F.c (argS args) ⟨[], []⟩ (Fin F.rs fun v _ => keepN [] v r)) : Pure P f args r [] :=
  Pure.ofD hD hm hF hn hres (wp_mono _ (fun e s m hq => by
    cases e with
    | normal => obtain ⟨v, h1, h2⟩ := hq; exact ⟨v, h1, OutP.clean h2⟩
    | ret => obtain ⟨v, h1, h2⟩ := hq; exact ⟨v, h1, OutP.clean h2⟩
    | _ => exact hq) h)
/-- Of one row. -/
theorem Pure.ofR (hD : OOk P D) (hm : P.follows .mixedOrders = true) (hF : compF P own f = some F) {tip : Tip} (hn : args.length ≤ F.n) (hres : r.res = true)
    (h : wp P noY D F.c (argS args) ⟨[], []⟩ (Fin F.rs fun v m => ∃ t, keepN [t] v r ∧ m.tips[t]? = some tip)) : Pure P f args r [tip] :=
  Pure.ofD hD hm hF hn hres (wp_mono _ (fun e s m hq => by
    cases e with
    | normal => obtain ⟨v, h1, t, h2, h3⟩ := hq; exact ⟨v, h1, OutP.one h2 h3⟩
    | ret => obtain ⟨v, h1, t, h2, h3⟩ := hq; exact ⟨v, h1, OutP.one h2 h3⟩
    | _ => exact hq) h)
end

-- Values of Lean.
class Enc (α : Type) where
  enc : α → V
  dec : V → Option α
  ok : ∀ (v : V) (a : α), dec v = some a → ∀ (M : Mp) (w : World) (x : Value), Rep M w v x → Rep M w (enc a) x
  cl : ∀ a, (enc a).isClean = true
  de : ∀ a, dec (enc a) = some a
/-- As cells, of a struct, or of an element. -/
class Cel (α : Type) where
  sz : Nat
  cs : α → List V
  dc : List V → Option α
  len : ∀ a, (cs a).length = sz
  ok : ∀ (l : List V) (a : α), dc l = some a → ∀ (M : Mp) (w : World) (us : List Value), RepL M w l us → RepL M w (cs a) us
  cl : ∀ a, cleanL (cs a) = true
  de : ∀ a, dc (cs a) = some a
open Enc (enc dec)
open Cel (cs dc)

def iV (n : Int) : V := .val (.int .i64 n)
def uV (n : Nat) : V := .val (.int .u64 n)
def tV (b : Bool) : V := .val (.bool b)
instance : Enc Int where
  enc n := .val (.int .i64 n)
  dec v := match v with
    | .val (.int .i64 n) => some n
    | _ => none
  ok v a h M w x hr := by
    split at h
    · cases h; exact hr
    · cases h
  cl _ := rfl
  de _ := rfl
instance : Enc Nat where
  enc n := .val (.int .u64 n)
  dec v := match v with
    | .val (.int .u64 n) => if 0 ≤ n then some n.toNat else none
    | _ => none
  ok v a h M w x hr := by
    split at h
    · split at h
      · cases h
        rename_i n h0
        rw [show ((n.toNat : Nat) : Int) = n by omega]
        exact hr
      · cases h
    · cases h
  cl _ := rfl
  de n := by simp
instance : Enc Bool where
  enc n := .val (.bool n)
  dec v := match v with
    | .val (.bool n) => some n
    | _ => none
  ok v a h M w x hr := by
    split at h
    · cases h; exact hr
    · cases h
  cl _ := rfl
  de _ := rfl
instance : Enc UInt8 where
  enc n := .val (.int .u8 n.toNat)
  dec v := match v with
    | .val (.int .u8 n) => if 0 ≤ n ∧ n < 256 then some (UInt8.ofNat n.toNat) else none
    | _ => none
  ok v a h M w x hr := by
    split at h
    · split at h
      · cases h
        rename_i n h0
        have : n.toNat < 256 := by omega
        rw [show (((UInt8.ofNat n.toNat).toNat : Nat) : Int) = n by simp; omega]
        exact hr
      · cases h
    · cases h
  cl _ := rfl
  de n := by
    have := n.toNat_lt
    simp
    omega
/-- A number of thirty-two bits. -/
instance : Enc UInt32 where
  enc n := .val (.int .u32 n.toNat)
  dec v := match v with
    | .val (.int .u32 n) => if 0 ≤ n ∧ n < 4294967296 then some (UInt32.ofNat n.toNat) else none
    | _ => none
  ok v a h M w x hr := by
    split at h
    · split at h
      · cases h
        rename_i n h0
        rw [show (((UInt32.ofNat n.toNat).toNat : Nat) : Int) = n by simp; omega]
        exact hr
      · cases h
    · cases h
  cl _ := rfl
  de n := by
    have := n.toNat_lt
    simp
    omega
structure Rune where
  v : Int
instance : Enc Rune where
  enc n := .val (.int .i32 n.v)
  dec v := match v with
    | .val (.int .i32 n) => some ⟨n⟩
    | _ => none
  ok v a h M w x hr := by
    split at h
    · cases h; exact hr
    · cases h
  cl _ := rfl
  de _ := rfl
instance : Enc ByteArray where
  enc n := .val (.string n)
  dec v := match v with
    | .val (.string n) => some n
    | _ => none
  ok v a h M w x hr := by
    split at h
    · cases h; exact hr
    · cases h
  cl _ := rfl
  de _ := rfl

def decX {α : Type} [Cel α] : List (List V) → Option (List α)
  | [] => some []
  | e :: r => (dc e).bind fun a => (decX r).bind fun l => some (a :: l)
section
variable {α : Type} [Cel α]
theorem RepC.of_dc {M : Mp} {w : World} {l : List V} {a : α} (h : dc l = some a) {b o : Nat} (hr : RepC M w l b o) : RepC M w (cs a) b o := by
  obtain ⟨us, h1, h2, h3⟩ := hr.list
  exact RepC.of_list (Cel.ok l a h M w us h1) h2 h3
theorem dc_len {M : Mp} {w : World} {l : List V} {a : α} (h : dc l = some a) {us : List Value} (hr : RepL M w l us) : l.length = Cel.sz α := by
  rw [← hr.length, (Cel.ok l a h M w us hr).length, Cel.len]
theorem RepX.of_dc {M : Mp} {w : World} : ∀ {xs : List (List V)} {l : List α}, decX xs = some l → ∀ {b o : Nat}, RepX M w xs b o → RepX M w (l.map cs) b o ∧ xs.length = l.length
  | [], l, h, _, _, _ => by cases h; exact ⟨trivial, rfl⟩
  | e :: r, l, h, b, o, hr => by
    simp only [decX, Option.bind_eq_some_iff] at h
    obtain ⟨a, h1, l', h2, h3⟩ := h
    cases h3
    obtain ⟨us, k1, _, _⟩ := hr.1.list
    obtain ⟨i1, i2⟩ := RepX.of_dc h2 hr.2
    refine ⟨⟨RepC.of_dc h1 hr.1, ?_⟩, by simp [i2]⟩
    rw [Cel.len, ← dc_len h1 k1]
    exact i1
theorem clean_cs : ∀ (l : List α), cleanX (l.map cs) = true
  | [] => rfl
  | a :: l => by simp only [List.map_cons, cleanX, Cel.cl, clean_cs l]; rfl
theorem decX_map : ∀ (l : List α), decX (l.map cs) = some l
  | [] => rfl
  | a :: l => by simp [decX, Cel.de, decX_map l]
theorem decX_append : ∀ (xs ys : List (List V)), (decX (xs ++ ys) : Option (List α)) = (decX xs).bind fun a => (decX ys).bind fun b => some (a ++ b)
  | [], ys => by cases h : (decX ys : Option (List α)) <;> simp [decX, h]
  | e :: r, ys => by
    simp only [List.cons_append, decX, decX_append r ys]
    cases (dc e : Option α) <;> cases (decX r : Option (List α)) <;> cases (decX ys : Option (List α)) <;> simp
instance : Enc (List α) where
  enc l := .lit (Cel.sz α) (l.map cs)
  dec v := match v with
    | .val (.slice none 0 0) => some []
    | .emp _ => some []
    | .lit z xs | .full z xs | .row _ z xs => if z = Cel.sz α then decX xs else none
    | _ => none
  ok v l h M w x hr := by
    have key : ∀ {v : V} {z : Nat} {xs : List (List V)}, Rep M w v x → v.elems = some (z, xs) → z = Cel.sz α → decX xs = some l → Rep M w (.lit (Cel.sz α) (l.map cs)) x := by
      intro v z xs hr he hz hd
      rcases elems_rep hr he with ⟨rfl, rfl⟩ | ⟨ad, c, rfl, h1, h2, h3, h4⟩
      · cases hd; exact .inl ⟨rfl, rfl⟩
      · obtain ⟨i1, i2⟩ := RepX.of_dc hd h4
        refine .inr ⟨ad, c, by rw [i2, List.length_map], by simpa [← i2] using h1, ?_, ?_, i1⟩
        · rcases h2 with rfl | h2
          · cases hd; exact .inl rfl
          · exact .inr h2
        · intro e he
          obtain ⟨a, _, rfl⟩ := List.mem_map.1 he
          exact Cel.len a
    split at h
    · cases h; exact .inl ⟨rfl, hr.1⟩
    · cases h; obtain ⟨ad, c, rfl⟩ := hr; exact .inr ⟨ad, c, rfl, Nat.zero_le _, .inl rfl, by simp, trivial⟩
    · split at h
      · rename_i hz; exact key hr rfl hz h
      · cases h
    · split at h
      · rename_i hz; exact key hr rfl hz h
      · cases h
    · split at h
      · rename_i hz; exact key hr rfl hz h
      · cases h
    · cases h
  cl l := clean_cs l
  de l := by simp [decX_map]
end
/-- A cell that holds a value. -/
def dc1 {α : Type} [Enc α] : List V → Option α
  | [v] => dec v
  | _ => none
theorem dc1_ok {α : Type} [Enc α] (l : List V) (a : α) (h : dc1 l = some a) (M : Mp) (w : World) (us : List Value) (hr : RepL M w l us) : RepL M w [enc a] us := by
  unfold dc1 at h
  split at h
  · obtain ⟨x, r, rfl, h1, h2⟩ := hr
    exact ⟨x, r, rfl, Enc.ok _ _ h M w x h1, h2⟩
  · cases h
instance : Cel UInt8 := ⟨1, fun a => [enc a], dc1, fun _ => rfl, dc1_ok, fun a => by simp [Enc.cl], fun a => by simp [dc1, Enc.de]⟩
instance : Cel Nat := ⟨1, fun a => [enc a], dc1, fun _ => rfl, dc1_ok, fun a => by simp [Enc.cl], fun a => by simp [dc1, Enc.de]⟩
instance : Cel Int := ⟨1, fun a => [enc a], dc1, fun _ => rfl, dc1_ok, fun a => by simp [Enc.cl], fun a => by simp [dc1, Enc.de]⟩
/-- Struct values, by their cells. -/
@[reducible] def encC {α : Type} [Cel α] : Enc α where
  enc a := .agg (cs a)
  dec v := match v with
    | .agg l => dc l
    | _ => none
  ok v a h M w x hr := by
    split at h
    · obtain ⟨vs, rfl, hr⟩ := hr
      exact ⟨vs, rfl, Cel.ok _ _ h M w _ hr⟩
    · cases h
  cl a := Cel.cl a
  de a := Cel.de a

-- What is known of a function, by its arguments.
section
variable {α β γ δ ε : Type} [Enc α] [Enc β] [Enc γ] [Enc δ] [Enc ε]
def sp0 (f : Option (V × List Tip)) : List V → Option (V × List Tip)
  | [] => f
  | _ => none
def sp1 (f : α → Option (V × List Tip)) : List V → Option (V × List Tip)
  | [a] => (dec a).bind f
  | _ => none
def sp2 (f : α → β → Option (V × List Tip)) : List V → Option (V × List Tip)
  | [a, b] => (dec a).bind fun x => (dec b).bind fun y => f x y
  | _ => none
def sp3 (f : α → β → γ → Option (V × List Tip)) : List V → Option (V × List Tip)
  | [a, b, c] => (dec a).bind fun x => (dec b).bind fun y => (dec c).bind fun z => f x y z
  | _ => none
def sp4 (f : α → β → γ → δ → Option (V × List Tip)) : List V → Option (V × List Tip)
  | [a, b, c, d] => (dec a).bind fun x => (dec b).bind fun y => (dec c).bind fun z => (dec d).bind fun u => f x y z u
  | _ => none
def sp5 (f : α → β → γ → δ → ε → Option (V × List Tip)) : List V → Option (V × List Tip)
  | [a, b, c, d, e] => (dec a).bind fun x => (dec b).bind fun y => (dec c).bind fun z => (dec d).bind fun u => (dec e).bind fun v => f x y z u v
  | _ => none
variable {P : Program} {n : FuncId}
theorem wk_dec {l l' : List V} (h : WkL l l') {v : V} {a : α} (hd : dec v = some a) : WkL (v :: l) (enc a :: l') := by
  intro M w m hr
  obtain ⟨x, r, rfl, h1, h2⟩ := hr
  exact ⟨x, r, rfl, Enc.ok v a hd M w x h1, h M w r h2⟩
theorem wk_nil : WkL [] [] := fun _ _ _ h => h
theorem sp0_ok {f : Option (V × List Tip)} (h : ∀ r, f = some r → Pure P n [] r.1 r.2) : EOk P n (sp0 f) := by
  intro args v tips hs
  unfold sp0 at hs
  split at hs
  · exact .inl ⟨_, wk_nil, h _ hs, rfl⟩
  · cases hs
theorem sp1_ok {f : α → Option (V × List Tip)} (h : ∀ a r, f a = some r → Pure P n [enc a] r.1 r.2) : EOk P n (sp1 f) := by
  intro args v tips hs
  unfold sp1 at hs
  split at hs
  · simp only [Option.bind_eq_some_iff] at hs
    obtain ⟨x, hx, hs⟩ := hs
    exact .inl ⟨_, wk_dec wk_nil hx, h _ _ hs, by simp [Enc.cl]⟩
  · cases hs
theorem sp2_ok {f : α → β → Option (V × List Tip)} (h : ∀ a b r, f a b = some r → Pure P n [enc a, enc b] r.1 r.2) : EOk P n (sp2 f) := by
  intro args v tips hs
  unfold sp2 at hs
  split at hs
  · simp only [Option.bind_eq_some_iff] at hs
    obtain ⟨x, hx, y, hy, hs⟩ := hs
    exact .inl ⟨_, wk_dec (wk_dec wk_nil hy) hx, h _ _ _ hs, by simp [Enc.cl]⟩
  · cases hs
theorem sp3_ok {f : α → β → γ → Option (V × List Tip)} (h : ∀ a b c r, f a b c = some r → Pure P n [enc a, enc b, enc c] r.1 r.2) : EOk P n (sp3 f) := by
  intro args v tips hs
  unfold sp3 at hs
  split at hs
  · simp only [Option.bind_eq_some_iff] at hs
    obtain ⟨x, hx, y, hy, z, hz, hs⟩ := hs
    exact .inl ⟨_, wk_dec (wk_dec (wk_dec wk_nil hz) hy) hx, h _ _ _ _ hs, by simp [Enc.cl]⟩
  · cases hs
theorem sp4_ok {f : α → β → γ → δ → Option (V × List Tip)} (h : ∀ a b c d r, f a b c d = some r → Pure P n [enc a, enc b, enc c, enc d] r.1 r.2) : EOk P n (sp4 f) := by
  intro args v tips hs
  unfold sp4 at hs
  split at hs
  · simp only [Option.bind_eq_some_iff] at hs
    obtain ⟨x, hx, y, hy, z, hz, u, hu, hs⟩ := hs
    exact .inl ⟨_, wk_dec (wk_dec (wk_dec (wk_dec wk_nil hu) hz) hy) hx, h _ _ _ _ _ hs, by simp [Enc.cl]⟩
  · cases hs
theorem sp5_ok {f : α → β → γ → δ → ε → Option (V × List Tip)} (h : ∀ a b c d e r, f a b c d e = some r → Pure P n [enc a, enc b, enc c, enc d, enc e] r.1 r.2) : EOk P n (sp5 f) := by
  intro args v tips hs
  unfold sp5 at hs
  split at hs
  · simp only [Option.bind_eq_some_iff] at hs
    obtain ⟨x, hx, y, hy, z, hz, u, hu, e, he, hs⟩ := hs
    exact .inl ⟨_, wk_dec (wk_dec (wk_dec (wk_dec (wk_dec wk_nil he) hu) hz) hy) hx, h _ _ _ _ _ _ hs, by simp [Enc.cl]⟩
  · cases hs
end

attribute [simp] Enc.cl Enc.de Cel.cl Cel.de clean_cs decX_map decX_append sp0 sp1 sp2 sp3 sp4 sp5 dc1
section
variable {α : Type} [Cel α]
@[simp] theorem enc_int (n : Int) : (enc n : V) = .val (.int .i64 n) := rfl
@[simp] theorem enc_nat (n : Nat) : (enc n : V) = .val (.int .u64 n) := rfl
@[simp] theorem enc_bool (n : Bool) : (enc n : V) = .val (.bool n) := rfl
@[simp] theorem enc_u8 (n : UInt8) : (enc n : V) = .val (.int .u8 n.toNat) := rfl
@[simp] theorem enc_u32 (n : UInt32) : (enc n : V) = .val (.int .u32 n.toNat) := rfl
@[simp] theorem enc_rune (n : Rune) : (enc n : V) = .val (.int .i32 n.v) := rfl
@[simp] theorem enc_str (n : ByteArray) : (enc n : V) = .val (.string n) := rfl
@[simp] theorem enc_list (l : List α) : (enc l : V) = .lit (Cel.sz α) (l.map cs) := rfl
@[simp] theorem dec_int (n : Int) : (dec (.val (.int .i64 n)) : Option Int) = some n := rfl
@[simp] theorem dec_nat (n : Int) : (dec (.val (.int .u64 n)) : Option Nat) = if 0 ≤ n then some n.toNat else none := rfl
@[simp] theorem dec_bool (n : Bool) : (dec (.val (.bool n)) : Option Bool) = some n := rfl
@[simp] theorem dec_u8 (n : Int) : (dec (.val (.int .u8 n)) : Option UInt8) = if 0 ≤ n ∧ n < 256 then some (UInt8.ofNat n.toNat) else none := rfl
@[simp high] theorem dec_u8' (c : UInt8) : (dec (.val (.int .u8 (c.toNat : Int))) : Option UInt8) = some c := Enc.de c
@[simp high] theorem dec_u32' (c : UInt32) : (dec (.val (.int .u32 (c.toNat : Int))) : Option UInt32) = some c := Enc.de c
@[simp] theorem dec_u32 (n : Int) : (dec (.val (.int .u32 n)) : Option UInt32) = if 0 ≤ n ∧ n < 4294967296 then some (UInt32.ofNat n.toNat) else none := rfl
@[simp] theorem dec_rune (n : Int) : (dec (.val (.int .i32 n)) : Option Rune) = some ⟨n⟩ := rfl
@[simp] theorem dec_str (n : ByteArray) : (dec (.val (.string n)) : Option ByteArray) = some n := rfl
@[simp] theorem dec_list_nil : (dec (.val (.slice none 0 0)) : Option (List α)) = some [] := rfl
@[simp] theorem dec_list_emp (z : Nat) : (dec (.emp z) : Option (List α)) = some [] := rfl
@[simp] theorem dec_list_lit (z : Nat) (xs : List (List V)) : (dec (.lit z xs) : Option (List α)) = if z = Cel.sz α then decX xs else none := rfl
@[simp] theorem dec_list_full (z : Nat) (xs : List (List V)) : (dec (.full z xs) : Option (List α)) = if z = Cel.sz α then decX xs else none := rfl
@[simp] theorem dec_list_row (t z : Nat) (xs : List (List V)) : (dec (.row t z xs) : Option (List α)) = if z = Cel.sz α then decX xs else none := rfl
@[simp] theorem decX_nil : (decX [] : Option (List α)) = some [] := rfl
@[simp] theorem decX_cons (e : List V) (r : List (List V)) : (decX (e :: r) : Option (List α)) = (dc e).bind fun a => (decX r).bind fun l => some (a :: l) := rfl
@[simp] theorem sz_u8 : Cel.sz UInt8 = 1 := rfl
@[simp] theorem sz_nat : Cel.sz Nat = 1 := rfl
@[simp] theorem sz_int : Cel.sz Int = 1 := rfl
@[simp] theorem cs_u8 (n : UInt8) : cs n = [.val (.int .u8 n.toNat)] := rfl
@[simp] theorem cs_nat (n : Nat) : cs n = [.val (.int .u64 n)] := rfl
@[simp] theorem cs_int (n : Int) : cs n = [.val (.int .i64 n)] := rfl
@[simp] theorem dc_u8 (l : List V) : (dc l : Option UInt8) = dc1 l := rfl
@[simp] theorem dc_nat (l : List V) : (dc l : Option Nat) = dc1 l := rfl
@[simp] theorem dc_int (l : List V) : (dc l : Option Int) = dc1 l := rfl
theorem u8_wrap_b (n : Int) : 0 ≤ IntKind.u8.wrap n ∧ IntKind.u8.wrap n < 256 := by rw [IntKind.wrap_u8]; omega
@[simp] theorem u64_wrap_nn (n : Int) : 0 ≤ IntKind.u64.wrap n := by simp [IntKind.wrap, IntKind.bits, IntKind.signed]; omega
end

section
variable {α : Type} [Cel α]
theorem decX_drop' : ∀ (n : Nat) (xs : List (List V)) (l : List α), decX xs = some l → decX (xs.drop n) = some (l.drop n)
  | 0, _, _, h => h
  | n + 1, [], l, h => by cases h; rfl
  | n + 1, e :: r, l, h => by
    simp only [decX, Option.bind_eq_some_iff] at h
    obtain ⟨a, _, l', h2, h3⟩ := h
    cases h3
    exact decX_drop' n r l' h2
theorem decX_take' : ∀ (n : Nat) (xs : List (List V)) (l : List α), decX xs = some l → decX (xs.take n) = some (l.take n)
  | 0, _, _, _ => rfl
  | n + 1, [], l, h => by cases h; rfl
  | n + 1, e :: r, l, h => by
    simp only [decX, Option.bind_eq_some_iff] at h
    obtain ⟨a, h1, l', h2, h3⟩ := h
    cases h3
    simp [decX, h1, decX_take' n r l' h2]
@[simp] theorem decX_drop (n : Nat) (xs : List (List V)) (h : (decX xs : Option (List α)).isSome = true) : (decX (xs.drop n) : Option (List α)) = (decX xs).map (·.drop n) := by
  obtain ⟨l, hl⟩ := Option.isSome_iff_exists.1 h
  rw [decX_drop' n xs l hl, hl]; rfl
@[simp] theorem decX_take (n : Nat) (xs : List (List V)) (h : (decX xs : Option (List α)).isSome = true) : (decX (xs.take n) : Option (List α)) = (decX xs).map (·.take n) := by
  obtain ⟨l, hl⟩ := Option.isSome_iff_exists.1 h
  rw [decX_take' n xs l hl, hl]; rfl
end

@[simp] theorem clean_drop' (n : Nat) (l : List (List V)) (h : cleanX l = true) : cleanX (l.drop n) = true := clean_drop n l h
@[simp] theorem clean_take' (n : Nat) (l : List (List V)) (h : cleanX l = true) : cleanX (l.take n) = true := clean_take n l h
@[simp] theorem set_last {α : Type} (l : List α) (a b : α) : (l ++ [a]).set l.length b = l ++ [b] := by
  induction l with
  | nil => rfl
  | cons x l ih => simp
@[simp] theorem clean_rep (n : Nat) (c : List V) (h : cleanL c = true) : cleanX (List.replicate n c) = true := by
  induction n with
  | zero => rfl
  | succ n ih => rw [List.replicate_succ, cleanX, h, ih]; rfl
@[simp] theorem clean_app : ∀ (a b : List (List V)), cleanX (a ++ b) = (cleanX a && cleanX b)
  | [], b => by simp
  | x :: a, b => by simp [clean_app a b, Bool.and_assoc]

/-- A list's length, of whatever value says it. -/
theorem lenW_dec {α : Type} [Cel α] {v : V} {l : List α} (h : dec v = some l) (F : Int → Prop) : lenW v F = F l.length := by
  have key : ∀ {xs : List (List V)} {l : List α}, decX xs = some l → xs.length = l.length := by
    intro xs
    induction xs with
    | nil => intro l h; cases h; rfl
    | cons e r ih =>
      intro l h
      simp only [decX, Option.bind_eq_some_iff] at h
      obtain ⟨a, _, l', h2, h3⟩ := h
      cases h3
      simp [ih h2]
  have h0 : (fun v : V => match v with
    | .val (.slice none 0 0) => some []
    | .emp _ => some []
    | .lit z xs | .full z xs | .row _ z xs => if z = Cel.sz α then decX xs else none
    | _ => none) v = some l := h
  clear h
  simp only at h0
  split at h0
  · cases h0; simp
  · cases h0; simp
  · split at h0
    · simp [key h0]
    · cases h0
  · split at h0
    · simp [key h0]
    · cases h0
  · split at h0
    · simp [key h0]
    · cases h0
  · cases h0

theorem toBytes_eq : ∀ (xs : List (List V)), toBytes xs = (decX xs : Option (List UInt8))
  | [] => rfl
  | e :: r => by
    have ih := toBytes_eq r
    unfold toBytes
    split
    · rename_i h; cases h
    · rename_i n r' h
      cases h
      simp only [decX_cons, dc_u8, dc1, dec_u8]
      split
      · rw [ih]; cases (decX r : Option (List UInt8)) <;> simp
      · simp
    · rename_i h1 h2
      simp only [decX_cons, dc_u8]
      have : (dc1 e : Option UInt8) = none := by
        unfold dc1
        split
        · rename_i v
          show (match v with
            | .val (.int .u8 n) => if 0 ≤ n ∧ n < 256 then some (UInt8.ofNat n.toNat) else none
            | _ => none) = none
          split
          · rename_i n; exact absurd rfl (h2 n r)
          · rfl
        · rfl
      rw [this]
      rfl
attribute [simp] toBytes_eq fillV
@[simp] theorem binV_seq (a b : List UInt8) : binV .eql (.val (.string ⟨a.toArray⟩)) (.val (.string ⟨b.toArray⟩)) = some (.val (.bool (a == b))) := by
  show some (V.val (.bool ((ByteArray.mk a.toArray).toList == (ByteArray.mk b.toArray).toList))) = _
  rw [ByteArray.toList_mk, ByteArray.toList_mk]
@[simp] theorem binV_sne (a b : List UInt8) : binV .neq (.val (.string ⟨a.toArray⟩)) (.val (.string ⟨b.toArray⟩)) = some (.val (.bool (!(a == b)))) := by
  show some (V.val (.bool (!((ByteArray.mk a.toArray).toList == (ByteArray.mk b.toArray).toList)))) = _
  rw [ByteArray.toList_mk, ByteArray.toList_mk]

/-- An empty slice is none, or it is not. -/
theorem Pure.lit_cases {P : Program} {f : FuncId} {rest : List V} {r : V} {tips : List Tip} {α : Type} [Cel α] (l : List α) (h0 : l = [] → Pure P f (.val (.slice none 0 0) :: rest) r tips) (h1 : l = [] → Pure P f (.emp (Cel.sz α) :: rest) r tips)
    (h2 : ∀ x t, l = x :: t → Pure P f ((enc l : V) :: rest) r tips) : Pure P f ((enc l : V) :: rest) r tips := by
  cases l with
  | cons x t => exact h2 x t rfl
  | nil =>
    have h0 := h0 rfl
    have h1 := h1 rfl
    refine ⟨h0.1, h0.2.1, fun I w vals hI hr => ?_⟩
    obtain ⟨x, rl, e, hx, hrest⟩ := hr
    rcases hx with ⟨_, rfl⟩ | ⟨ad, c, rfl, _⟩
    · exact h0.2.2 I w vals hI ⟨_, rl, e, ⟨rfl, rfl⟩, hrest⟩
    · exact h1.2.2 I w vals hI ⟨_, rl, e, ⟨ad, c, rfl⟩, hrest⟩
end Go.Av

namespace Go.Av
open Go.Proofs

theorem hm : Tryz.prog.follows .mixedOrders = true := by kernel_rfl
@[simp] abbrev n_le_may : FuncId := 54
def F_le_may : F := ⟨(.seq (.ops [⟨(some 4), none, (.mov (.c (.bool false)))⟩]) (.seq (.seq (.ops [⟨(some 5), none, (.mov (.t 1))⟩]) (.block 0 (.seq (.seq (.ops [⟨(some 7), none, (.bin .eql (.t 5) (.c (.int .i64 1)))⟩, ⟨(some 6), none, (.mov (.t 7))⟩]) (.cond (.t 6) .skip (.seq (.ops [⟨(some 8), none, (.bin .eql (.t 5) (.c (.int .i64 2)))⟩, ⟨(some 6), none, (.mov (.t 8))⟩]) (.cond (.t 6) .skip (.ops [⟨(some 9), none, (.bin .eql (.t 5) (.c (.int .i64 4)))⟩, ⟨(some 6), none, (.mov (.t 9))⟩]))))) (.cond (.t 6) (.seq (.ops [⟨(some 10), none, (.mov (.t 0))⟩, ⟨(some 11), none, (.mov (.t 1))⟩, ⟨(some 12), none, (.bin .mul (.c (.int .i64 8)) (.t 11))⟩, ⟨(some 13), none, (.bin .shr (.t 10) (.t 12))⟩, ⟨(some 14), none, (.bin .eql (.t 13) (.c (.int .u64 0)))⟩, ⟨(some 4), none, (.mov (.t 14))⟩]) .ret) .skip)))) (.seq (.ops [⟨(some 15), none, (.mov (.t 1))⟩, ⟨(some 16), none, (.bin .eql (.t 15) (.c (.int .i64 8)))⟩, ⟨(some 4), none, (.mov (.t 16))⟩]) .ret))), 17, [(.tmp 4)]⟩
theorem F_le_may_ok : compF Tryz.prog (fun _ => true) 54 = some F_le_may := by kernel_rfl
@[simp] abbrev n_bytes_Clone : FuncId := 23
def F_bytes_Clone : F := ⟨(.seq (.ops [⟨(some 2), none, (.nil 5 1 true)⟩]) (.seq (.seq (.ops [⟨(some 3), none, (.mov (.t 0))⟩, ⟨(some 4), none, (.snil false (.t 3))⟩]) (.cond (.t 4) (.seq (.ops [⟨(some 2), none, (.nil 5 1 true)⟩]) .ret) .skip)) (.seq (.ops [⟨(some 5), none, (.mkl 5 1 [] true)⟩, ⟨(some 6), none, (.mov (.t 0))⟩, ⟨(some 7), none, (.app (.t 5) (.t 6) 5 1 1 true)⟩, ⟨(some 2), none, (.mov (.t 7))⟩]) .ret))), 8, [(.tmp 2)]⟩
theorem F_bytes_Clone_ok : compF Tryz.prog (fun _ => true) 23 = some F_bytes_Clone := by kernel_rfl
@[simp] abbrev n_le_Put : FuncId := 24
def F_le_Put_L0 : C := (.seq (.ops [⟨(some 17), none, (.bin .lss (.t 16) (.t 15))⟩]) (.seq (.cond (.t 17) .skip (.exit 0)) (.seq (.block 1 (.seq (.ops [⟨(some 18), none, (.mov (.t 8))⟩, ⟨(some 19), none, (.mov (.t 1))⟩, ⟨(some 20), none, (.conv .u8 (.t 19))⟩, ⟨(some 21), none, (.mkl 5 1 [(.t 20)] false)⟩, ⟨(some 22), none, (.app (.t 18) (.t 21) 5 1 1 true)⟩, ⟨(some 8), none, (.mov (.t 22))⟩]) (.ops [⟨(some 23), none, (.mov (.t 1))⟩, ⟨(some 24), none, (.bin .shr (.t 23) (.c (.int .u64 8)))⟩, ⟨(some 1), none, (.mov (.t 24))⟩]))) (.ops [⟨(some 25), none, (.bin .add (.t 16) (.c (.int .i64 1)))⟩, ⟨(some 16), none, (.mov (.t 25))⟩]))))
def F_le_Put : F := ⟨(.seq (.ops [⟨(some 6), none, (.nil 5 1 true)⟩, ⟨(some 7), none, (.mov (.c (.int .i64 0)))⟩]) (.seq (.seq (.ops [⟨(some 9), none, (.mov (.t 1))⟩, ⟨(some 10), none, (.mov (.t 2))⟩, ⟨(some 11), none, (.call 54 [(.t 9), (.t 10)])⟩, ⟨(some 12), none, (.un .not (.t 11))⟩]) (.cond (.t 12) (.seq (.ops [⟨(some 6), none, (.nil 5 1 true)⟩, ⟨(some 7), none, (.mov (.c (.int .i64 10)))⟩]) .ret) .skip)) (.seq (.ops [⟨(some 13), none, (.mov (.t 0))⟩, ⟨(some 14), none, (.call 23 [(.t 13)])⟩, ⟨(some 8), none, (.mov (.t 14))⟩]) (.seq (.seq (.ops [⟨(some 15), none, (.mov (.t 2))⟩, ⟨(some 16), none, (.mov (.c (.int .i64 0)))⟩]) (.block 0 (.loop F_le_Put_L0))) (.seq (.ops [⟨(some 26), none, (.mov (.t 8))⟩, ⟨(some 6), none, (.mov (.t 26))⟩, ⟨(some 7), none, (.mov (.c (.int .i64 0)))⟩]) .ret))))), 27, [(.tmp 6), (.tmp 7)]⟩
theorem F_le_Put_ok : compF Tryz.prog (fun d => !([21].contains d)) 24 = some F_le_Put := by kernel_rfl
@[simp] abbrev n_le_Take : FuncId := 33
def F_le_Take_L0 : C := (.seq (.ops [⟨(some 19), none, (.bin .lss (.t 18) (.t 17))⟩]) (.seq (.cond (.t 19) .skip (.exit 0)) (.seq (.block 1 (.seq (.ops [⟨(some 20), none, (.mov (.t 18))⟩, ⟨(some 7), none, (.mov (.t 20))⟩]) (.ops [⟨(some 21), none, (.mov (.t 4))⟩, ⟨(some 22), none, (.mov (.t 0))⟩, ⟨(some 23), none, (.mov (.t 7))⟩, ⟨(some 24), none, (.ixs (.t 22) (.t 23) 1)⟩, ⟨(some 25), none, (.lde (.t 24) none)⟩, ⟨(some 26), none, (.conv .u64 (.t 25))⟩, ⟨(some 27), none, (.mov (.t 7))⟩, ⟨(some 28), none, (.bin .mul (.c (.int .i64 8)) (.t 27))⟩, ⟨(some 29), none, (.bin .shl (.t 26) (.t 28))⟩, ⟨(some 30), none, (.bin .or (.t 21) (.t 29))⟩, ⟨(some 4), none, (.mov (.t 30))⟩]))) (.ops [⟨(some 31), none, (.bin .add (.t 18) (.c (.int .i64 1)))⟩, ⟨(some 18), none, (.mov (.t 31))⟩]))))
def F_le_Take : F := ⟨(.seq (.ops [⟨(some 4), none, (.mov (.c (.int .u64 0)))⟩, ⟨(some 5), none, (.nil 5 1 true)⟩, ⟨(some 6), none, (.mov (.c (.int .i64 0)))⟩]) (.seq (.seq (.ops [⟨(some 8), none, (.mov (.t 1))⟩, ⟨(some 9), none, (.call 54 [(.c (.int .u64 0)), (.t 8)])⟩, ⟨(some 10), none, (.un .not (.t 9))⟩, ⟨(some 11), none, (.mov (.t 10))⟩, ⟨(some 12), (some (11, false)), (.mov (.t 0))⟩, ⟨(some 13), (some (11, false)), (.len (.t 12))⟩, ⟨(some 14), (some (11, false)), (.mov (.t 1))⟩, ⟨(some 15), (some (11, false)), (.bin .lss (.t 13) (.t 14))⟩, ⟨(some 16), none, (.pick (.t 11) (.c (.bool true)) (.t 15))⟩]) (.cond (.t 16) (.seq (.ops [⟨(some 4), none, (.mov (.c (.int .u64 0)))⟩, ⟨(some 5), none, (.nil 5 1 true)⟩, ⟨(some 6), none, (.mov (.c (.int .i64 10)))⟩]) .ret) .skip)) (.seq (.seq (.ops [⟨(some 17), none, (.mov (.t 1))⟩, ⟨(some 18), none, (.mov (.c (.int .i64 0)))⟩]) (.block 0 (.loop F_le_Take_L0))) (.seq (.ops [⟨(some 32), none, (.mov (.t 4))⟩, ⟨(some 33), none, (.mov (.t 0))⟩, ⟨(some 34), none, (.mov (.t 1))⟩, ⟨(some 35), none, (.slc (.t 33) (some (.t 34)) none none 1)⟩, ⟨(some 36), none, (.call 23 [(.t 35)])⟩, ⟨(some 4), none, (.mov (.t 32))⟩, ⟨(some 5), none, (.mov (.t 36))⟩, ⟨(some 6), none, (.mov (.c (.int .i64 0)))⟩]) .ret)))), 37, [(.tmp 4), (.tmp 5), (.tmp 6)]⟩
theorem F_le_Take_ok : compF Tryz.prog (fun _ => true) 33 = some F_le_Take := by kernel_rfl
@[simp] abbrev n_le_size : FuncId := 70
def F_le_size : F := ⟨(.seq (.ops [⟨(some 2), none, (.mov (.c (.int .i64 0)))⟩]) (.seq (.seq (.ops [⟨(some 4), none, (.mov (.t 0))⟩, ⟨(some 5), none, (.call 89 [(.c (.string ⟨#[98, 104, 119, 113]⟩)), (.t 4)])⟩, ⟨(some 3), none, (.mov (.t 5))⟩]) (.seq (.ops [⟨(some 6), none, (.mov (.t 3))⟩, ⟨(some 7), none, (.bin .geq (.t 6) (.c (.int .i64 0)))⟩]) (.cond (.t 7) (.seq (.ops [⟨(some 8), none, (.mov (.t 3))⟩, ⟨(some 9), none, (.bin .shl (.c (.int .i64 1)) (.t 8))⟩, ⟨(some 2), none, (.mov (.t 9))⟩]) .ret) .skip))) (.seq (.ops [⟨(some 2), none, (.mov (.c (.int .i64 0)))⟩]) .ret))), 10, [(.tmp 2)]⟩
theorem F_le_size_ok : compF Tryz.prog (fun _ => true) 70 = some F_le_size := by kernel_rfl
@[simp] abbrev n_le_Pack : FuncId := 40
def F_le_Pack_L0 : C := (.seq (.ops [⟨(some 11), none, (.snx (.t 10))⟩, ⟨(some 12), none, (.ext (.t 11) 0)⟩]) (.seq (.cond (.t 12) .skip (.exit 0)) (.block 1 (.seq (.ops [⟨(some 13), none, (.ext (.t 11) 2)⟩, ⟨(some 8), none, (.mov (.t 13))⟩]) (.seq (.seq (.ops [⟨(some 14), none, (.mov (.t 6))⟩, ⟨(some 15), none, (.mov (.t 1))⟩, ⟨(some 16), none, (.len (.t 15))⟩, ⟨(some 17), none, (.bin .eql (.t 14) (.t 16))⟩]) (.cond (.t 17) (.seq (.ops [⟨(some 4), none, (.nil 5 1 true)⟩, ⟨(some 5), none, (.mov (.c (.int .i64 10)))⟩]) .ret) .skip)) (.seq (.seq (.dops false [] [⟨(some 19), none, (.mov (.t 4))⟩, ⟨(some 20), none, (.mov (.t 1))⟩, ⟨(some 21), none, (.mov (.t 6))⟩, ⟨(some 22), none, (.ixs (.t 20) (.t 21) 1)⟩, ⟨(some 23), none, (.lde (.t 22) none)⟩, ⟨(some 24), none, (.mov (.t 8))⟩, ⟨(some 25), none, (.call 70 [(.t 24)])⟩, ⟨(some 26), none, (.call 24 [(.t 19), (.t 23), (.t 25)])⟩, ⟨(some 18), none, (.mov (.t 26))⟩, ⟨(some 27), none, (.ext (.t 18) 0)⟩, ⟨(some 28), none, (.ext (.t 18) 1)⟩, ⟨(some 4), none, (.mov (.t 27))⟩, ⟨(some 5), none, (.mov (.t 28))⟩]) (.seq (.ops [⟨(some 29), none, (.mov (.t 5))⟩, ⟨(some 30), none, (.bin .neq (.t 29) (.c (.int .i64 0)))⟩]) (.cond (.t 30) (.seq (.ops [⟨(some 31), none, (.mov (.t 5))⟩, ⟨(some 4), none, (.nil 5 1 true)⟩, ⟨(some 5), none, (.mov (.t 31))⟩]) .ret) .skip))) (.ops [⟨(some 32), none, (.mov (.t 6))⟩, ⟨(some 33), none, (.bin .add (.t 32) (.c (.int .i64 1)))⟩, ⟨(some 6), none, (.mov (.t 33))⟩])))))))
def F_le_Pack : F := ⟨(.seq (.ops [⟨(some 4), none, (.nil 5 1 true)⟩, ⟨(some 5), none, (.mov (.c (.int .i64 0)))⟩]) (.seq (.ops [⟨(some 6), none, (.mov (.c (.int .i64 0)))⟩]) (.seq (.seq (.ops [⟨(some 9), none, (.mov (.t 0))⟩, ⟨(some 10), none, (.srg (.t 9))⟩]) (.block 0 (.loop F_le_Pack_L0))) (.seq (.seq (.ops [⟨(some 34), none, (.mov (.t 6))⟩, ⟨(some 35), none, (.mov (.t 1))⟩, ⟨(some 36), none, (.len (.t 35))⟩, ⟨(some 37), none, (.bin .lss (.t 34) (.t 36))⟩]) (.cond (.t 37) (.seq (.ops [⟨(some 4), none, (.nil 5 1 true)⟩, ⟨(some 5), none, (.mov (.c (.int .i64 10)))⟩]) .ret) .skip)) (.seq (.ops [⟨(some 38), none, (.mov (.t 4))⟩, ⟨(some 4), none, (.mov (.t 38))⟩, ⟨(some 5), none, (.mov (.c (.int .i64 0)))⟩]) .ret))))), 39, [(.tmp 4), (.tmp 5)]⟩
theorem F_le_Pack_ok : compF Tryz.prog (fun _ => true) 40 = some F_le_Pack := by kernel_rfl
@[simp] abbrev n_le_Unpack : FuncId := 45
def F_le_Unpack_L0 : C := (.seq (.ops [⟨(some 11), none, (.snx (.t 10))⟩, ⟨(some 12), none, (.ext (.t 11) 0)⟩]) (.seq (.cond (.t 12) .skip (.exit 0)) (.block 1 (.seq (.ops [⟨(some 13), none, (.ext (.t 11) 2)⟩, ⟨(some 7), none, (.mov (.t 13))⟩]) (.seq (.ops [⟨(some 8), none, (.mov (.c (.int .u64 0)))⟩]) (.seq (.seq (.ops [⟨(some 15), none, (.mov (.t 1))⟩, ⟨(some 16), none, (.mov (.t 7))⟩, ⟨(some 17), none, (.call 70 [(.t 16)])⟩, ⟨(some 18), none, (.call 33 [(.t 15), (.t 17)])⟩, ⟨(some 14), none, (.mov (.t 18))⟩, ⟨(some 19), none, (.ext (.t 14) 0)⟩, ⟨(some 20), none, (.ext (.t 14) 1)⟩, ⟨(some 21), none, (.ext (.t 14) 2)⟩, ⟨(some 8), none, (.mov (.t 19))⟩, ⟨(some 1), none, (.mov (.t 20))⟩, ⟨(some 5), none, (.mov (.t 21))⟩]) (.seq (.ops [⟨(some 22), none, (.mov (.t 5))⟩, ⟨(some 23), none, (.bin .neq (.t 22) (.c (.int .i64 0)))⟩]) (.cond (.t 23) (.seq (.ops [⟨(some 24), none, (.mov (.t 5))⟩, ⟨(some 4), none, (.nil 69 1 true)⟩, ⟨(some 5), none, (.mov (.t 24))⟩]) .ret) .skip))) (.ops [⟨(some 25), none, (.mov (.t 4))⟩, ⟨(some 26), none, (.mov (.t 8))⟩, ⟨(some 27), none, (.mkl 69 1 [(.t 26)] false)⟩, ⟨(some 28), none, (.app (.t 25) (.t 27) 69 1 8 true)⟩, ⟨(some 4), none, (.mov (.t 28))⟩])))))))
def F_le_Unpack : F := ⟨(.seq (.ops [⟨(some 4), none, (.nil 69 1 true)⟩, ⟨(some 5), none, (.mov (.c (.int .i64 0)))⟩]) (.seq (.seq (.ops [⟨(some 9), none, (.mov (.t 0))⟩, ⟨(some 10), none, (.srg (.t 9))⟩]) (.block 0 (.loop F_le_Unpack_L0))) (.seq (.seq (.ops [⟨(some 29), none, (.mov (.t 1))⟩, ⟨(some 30), none, (.len (.t 29))⟩, ⟨(some 31), none, (.bin .gtr (.t 30) (.c (.int .i64 0)))⟩]) (.cond (.t 31) (.seq (.ops [⟨(some 4), none, (.nil 69 1 true)⟩, ⟨(some 5), none, (.mov (.c (.int .i64 10)))⟩]) .ret) .skip)) (.seq (.ops [⟨(some 32), none, (.mov (.t 4))⟩, ⟨(some 4), none, (.mov (.t 32))⟩, ⟨(some 5), none, (.mov (.c (.int .i64 0)))⟩]) .ret)))), 33, [(.tmp 4), (.tmp 5)]⟩
theorem F_le_Unpack_ok : compF Tryz.prog (fun d => !([27].contains d)) 45 = some F_le_Unpack := by kernel_rfl
@[simp] abbrev n_strings_IndexRune : FuncId := 89
def F_strings_IndexRune_L0 : C := (.seq (.seq (.ops [⟨(some 140), none, (.mov (.t 16))⟩, ⟨(some 141), none, (.mov (.t 7))⟩, ⟨(some 142), none, (.slen (.t 141))⟩, ⟨(some 143), none, (.bin .lss (.t 140) (.t 142))⟩]) (.cond (.t 143) .skip (.exit 7))) (.seq (.block 8 (.seq (.dops false [] [⟨(some 146), none, (.mov (.t 0))⟩, ⟨(some 147), none, (.mov (.t 9))⟩, ⟨(some 148), none, (.mov (.t 16))⟩, ⟨(some 149), none, (.bin .sub (.t 147) (.t 148))⟩, ⟨(some 150), none, (.sidx (.t 146) (.t 149))⟩, ⟨(some 151), none, (.mov (.t 7))⟩, ⟨(some 152), none, (.mov (.t 8))⟩, ⟨(some 153), none, (.mov (.t 16))⟩, ⟨(some 154), none, (.bin .sub (.t 152) (.t 153))⟩, ⟨(some 155), none, (.sidx (.t 151) (.t 154))⟩, ⟨(some 156), none, (.bin .neq (.t 150) (.t 155))⟩]) (.cond (.t 156) (.exit 6) .skip))) (.ops [⟨(some 144), none, (.mov (.t 16))⟩, ⟨(some 145), none, (.bin .add (.t 144) (.c (.int .i64 1)))⟩, ⟨(some 16), none, (.mov (.t 145))⟩])))
def F_strings_IndexRune_L1 : C := (.seq (.seq (.ops [⟨(some 121), none, (.mov (.t 9))⟩, ⟨(some 122), none, (.mov (.t 0))⟩, ⟨(some 123), none, (.slen (.t 122))⟩, ⟨(some 124), none, (.bin .lss (.t 121) (.t 123))⟩]) (.cond (.t 124) .skip (.exit 5))) (.seq (.block 6 (.seq (.ops [⟨(some 127), none, (.mov (.t 0))⟩, ⟨(some 128), none, (.mov (.t 9))⟩, ⟨(some 129), none, (.sidx (.t 127) (.t 128))⟩, ⟨(some 130), none, (.mov (.t 14))⟩, ⟨(some 131), none, (.bin .eql (.t 129) (.t 130))⟩, ⟨(some 132), none, (.mov (.t 131))⟩, ⟨(some 133), (some (132, true)), (.mov (.t 0))⟩, ⟨(some 134), (some (132, true)), (.mov (.t 9))⟩, ⟨(some 135), (some (132, true)), (.bin .sub (.t 134) (.c (.int .i64 1)))⟩, ⟨(some 136), (some (132, true)), (.sidx (.t 133) (.t 135))⟩, ⟨(some 137), (some (132, true)), (.mov (.t 15))⟩, ⟨(some 138), (some (132, true)), (.bin .eql (.t 136) (.t 137))⟩, ⟨(some 139), none, (.pick (.t 132) (.t 138) (.c (.bool false)))⟩]) (.cond (.t 139) (.seq (.seq (.ops [⟨(some 16), none, (.mov (.c (.int .i64 2)))⟩]) (.block 7 (.loop F_strings_IndexRune_L0))) (.seq (.ops [⟨(some 157), none, (.mov (.t 9))⟩, ⟨(some 158), none, (.mov (.t 8))⟩, ⟨(some 159), none, (.bin .sub (.t 157) (.t 158))⟩, ⟨(some 4), none, (.mov (.t 159))⟩]) .ret)) .skip))) (.ops [⟨(some 125), none, (.mov (.t 9))⟩, ⟨(some 126), none, (.bin .add (.t 125) (.c (.int .i64 1)))⟩, ⟨(some 9), none, (.mov (.t 126))⟩])))
def F_strings_IndexRune_L2 : C := (.seq (.seq (.ops [⟨(some 48), none, (.mov (.t 12))⟩, ⟨(some 49), none, (.mov (.t 7))⟩, ⟨(some 50), none, (.slen (.t 49))⟩, ⟨(some 51), none, (.bin .lss (.t 48) (.t 50))⟩]) (.cond (.t 51) .skip (.exit 3))) (.seq (.block 4 (.seq (.dops false [] [⟨(some 54), none, (.mov (.t 0))⟩, ⟨(some 55), none, (.mov (.t 9))⟩, ⟨(some 56), none, (.mov (.t 12))⟩, ⟨(some 57), none, (.bin .sub (.t 55) (.t 56))⟩, ⟨(some 58), none, (.sidx (.t 54) (.t 57))⟩, ⟨(some 59), none, (.mov (.t 7))⟩, ⟨(some 60), none, (.mov (.t 8))⟩, ⟨(some 61), none, (.mov (.t 12))⟩, ⟨(some 62), none, (.bin .sub (.t 60) (.t 61))⟩, ⟨(some 63), none, (.sidx (.t 59) (.t 62))⟩, ⟨(some 64), none, (.bin .neq (.t 58) (.t 63))⟩]) (.cond (.t 64) (.goto 0) .skip))) (.ops [⟨(some 52), none, (.mov (.t 12))⟩, ⟨(some 53), none, (.bin .add (.t 52) (.c (.int .i64 1)))⟩, ⟨(some 12), none, (.mov (.t 53))⟩])))
def F_strings_IndexRune_L3 : C := (.seq (.seq (.ops [⟨(some 23), none, (.mov (.t 9))⟩, ⟨(some 24), none, (.mov (.t 0))⟩, ⟨(some 25), none, (.slen (.t 24))⟩, ⟨(some 26), none, (.bin .lss (.t 23) (.t 25))⟩]) (.cond (.t 26) .skip (.exit 1))) (.block 2 (.scopeJ (.seq (.seq (.dops false [] [⟨(some 27), none, (.mov (.t 0))⟩, ⟨(some 28), none, (.mov (.t 9))⟩, ⟨(some 29), none, (.sidx (.t 27) (.t 28))⟩, ⟨(some 30), none, (.mov (.t 7))⟩, ⟨(some 31), none, (.mov (.t 8))⟩, ⟨(some 32), none, (.sidx (.t 30) (.t 31))⟩, ⟨(some 33), none, (.bin .neq (.t 29) (.t 32))⟩]) (.cond (.t 33) (.seq (.dops false [] [⟨(some 34), none, (.mov (.t 0))⟩, ⟨(some 35), none, (.mov (.t 9))⟩, ⟨(some 36), none, (.bin .add (.t 35) (.c (.int .i64 1)))⟩, ⟨(some 37), none, .dead⟩, ⟨(some 38), none, (.mov (.t 7))⟩, ⟨(some 39), none, (.mov (.t 8))⟩, ⟨(some 40), none, (.sidx (.t 38) (.t 39))⟩, ⟨(some 41), none, (.call 96 [(.t 37), (.t 40)])⟩, ⟨(some 11), none, (.mov (.t 41))⟩]) (.seq (.seq (.ops [⟨(some 42), none, (.mov (.t 11))⟩, ⟨(some 43), none, (.bin .lss (.t 42) (.c (.int .i64 0)))⟩]) (.cond (.t 43) (.seq (.ops [⟨(some 4), none, (.mov (.c (.int .i64 (-1))))⟩]) .ret) .skip)) (.ops [⟨(some 44), none, (.mov (.t 9))⟩, ⟨(some 45), none, (.mov (.t 11))⟩, ⟨(some 46), none, (.bin .add (.t 45) (.c (.int .i64 1)))⟩, ⟨(some 47), none, (.bin .add (.t 44) (.t 46))⟩, ⟨(some 9), none, (.mov (.t 47))⟩]))) .skip)) (.seq (.seq (.ops [⟨(some 12), none, (.mov (.c (.int .i64 1)))⟩]) (.block 3 (.loop F_strings_IndexRune_L2))) (.seq (.seq (.ops [⟨(some 65), none, (.mov (.t 9))⟩, ⟨(some 66), none, (.mov (.t 8))⟩, ⟨(some 67), none, (.bin .sub (.t 65) (.t 66))⟩, ⟨(some 4), none, (.mov (.t 67))⟩]) .ret) (.seq (.label 0) (.seq (.ops [⟨(some 68), none, (.mov (.t 10))⟩, ⟨(some 69), none, (.bin .add (.t 68) (.c (.int .i64 1)))⟩, ⟨(some 10), none, (.mov (.t 69))⟩]) (.seq (.ops [⟨(some 70), none, (.mov (.t 9))⟩, ⟨(some 71), none, (.bin .add (.t 70) (.c (.int .i64 1)))⟩, ⟨(some 9), none, (.mov (.t 71))⟩]) (.seq (.ops [⟨(some 72), none, (.mov (.c (.bool true)))⟩, ⟨(some 73), (some (72, true)), (.mov (.t 10))⟩, ⟨(some 74), (some (72, true)), (.mov (.t 9))⟩, ⟨(some 75), (some (72, true)), (.call 98 [(.t 74)])⟩, ⟨(some 76), (some (72, true)), (.bin .gtr (.t 73) (.t 75))⟩, ⟨(some 77), none, (.pick (.t 72) (.t 76) (.c (.bool false)))⟩, ⟨(some 78), none, (.mov (.t 77))⟩, ⟨(some 79), (some (78, true)), (.mov (.t 9))⟩, ⟨(some 80), (some (78, true)), (.mov (.t 0))⟩, ⟨(some 81), (some (78, true)), (.slen (.t 80))⟩, ⟨(some 82), (some (78, true)), (.bin .lss (.t 79) (.t 81))⟩, ⟨(some 83), none, (.pick (.t 78) (.t 82) (.c (.bool false)))⟩, ⟨(some 84), none, (.mov (.t 83))⟩, ⟨(some 85), (some (84, false)), (.mov (.c (.bool false)))⟩, ⟨(some 86), (some (85, true)), (.mov (.t 10))⟩, ⟨(some 87), (some (85, true)), (.mov (.t 9))⟩, ⟨(some 88), (some (85, true)), (.bin .shr (.t 87) (.c (.int .u64 4)))⟩, ⟨(some 89), (some (85, true)), (.bin .add (.c (.int .i64 4)) (.t 88))⟩, ⟨(some 90), (some (85, true)), (.bin .geq (.t 86) (.t 89))⟩, ⟨(some 91), (some (84, false)), (.pick (.t 85) (.t 90) (.c (.bool false)))⟩, ⟨(some 92), (some (84, false)), (.mov (.t 91))⟩, ⟨(some 93), (some (92, true)), (.mov (.t 9))⟩, ⟨(some 94), (some (92, true)), (.mov (.t 0))⟩, ⟨(some 95), (some (92, true)), (.slen (.t 94))⟩, ⟨(some 96), (some (92, true)), (.bin .lss (.t 93) (.t 95))⟩, ⟨(some 97), (some (84, false)), (.pick (.t 92) (.t 96) (.c (.bool false)))⟩, ⟨(some 98), none, (.pick (.t 84) (.c (.bool true)) (.t 97))⟩]) (.cond (.t 98) (.goto 1) .skip)))))))) 0 (.seq .skip (.seq (.ops [⟨(some 68), none, (.mov (.t 10))⟩, ⟨(some 69), none, (.bin .add (.t 68) (.c (.int .i64 1)))⟩, ⟨(some 10), none, (.mov (.t 69))⟩]) (.seq (.ops [⟨(some 70), none, (.mov (.t 9))⟩, ⟨(some 71), none, (.bin .add (.t 70) (.c (.int .i64 1)))⟩, ⟨(some 9), none, (.mov (.t 71))⟩]) (.seq (.ops [⟨(some 72), none, (.mov (.c (.bool true)))⟩, ⟨(some 73), (some (72, true)), (.mov (.t 10))⟩, ⟨(some 74), (some (72, true)), (.mov (.t 9))⟩, ⟨(some 75), (some (72, true)), (.call 98 [(.t 74)])⟩, ⟨(some 76), (some (72, true)), (.bin .gtr (.t 73) (.t 75))⟩, ⟨(some 77), none, (.pick (.t 72) (.t 76) (.c (.bool false)))⟩, ⟨(some 78), none, (.mov (.t 77))⟩, ⟨(some 79), (some (78, true)), (.mov (.t 9))⟩, ⟨(some 80), (some (78, true)), (.mov (.t 0))⟩, ⟨(some 81), (some (78, true)), (.slen (.t 80))⟩, ⟨(some 82), (some (78, true)), (.bin .lss (.t 79) (.t 81))⟩, ⟨(some 83), none, (.pick (.t 78) (.t 82) (.c (.bool false)))⟩, ⟨(some 84), none, (.mov (.t 83))⟩, ⟨(some 85), (some (84, false)), (.mov (.c (.bool false)))⟩, ⟨(some 86), (some (85, true)), (.mov (.t 10))⟩, ⟨(some 87), (some (85, true)), (.mov (.t 9))⟩, ⟨(some 88), (some (85, true)), (.bin .shr (.t 87) (.c (.int .u64 4)))⟩, ⟨(some 89), (some (85, true)), (.bin .add (.c (.int .i64 4)) (.t 88))⟩, ⟨(some 90), (some (85, true)), (.bin .geq (.t 86) (.t 89))⟩, ⟨(some 91), (some (84, false)), (.pick (.t 85) (.t 90) (.c (.bool false)))⟩, ⟨(some 92), (some (84, false)), (.mov (.t 91))⟩, ⟨(some 93), (some (92, true)), (.mov (.t 9))⟩, ⟨(some 94), (some (92, true)), (.mov (.t 0))⟩, ⟨(some 95), (some (92, true)), (.slen (.t 94))⟩, ⟨(some 96), (some (92, true)), (.bin .lss (.t 93) (.t 95))⟩, ⟨(some 97), (some (84, false)), (.pick (.t 92) (.t 96) (.c (.bool false)))⟩, ⟨(some 98), none, (.pick (.t 84) (.c (.bool true)) (.t 97))⟩]) (.cond (.t 98) (.goto 1) .skip))))))))
def F_strings_IndexRune_L4 : C := (.seq (.ops [⟨(some 176), none, (.snx (.t 175))⟩, ⟨(some 177), none, (.ext (.t 176) 0)⟩]) (.seq (.cond (.t 177) .skip (.exit 9)) (.block 10 (.seq (.ops [⟨(some 178), none, (.ext (.t 176) 1)⟩, ⟨(some 179), none, (.ext (.t 176) 2)⟩, ⟨(some 5), none, (.mov (.t 178))⟩, ⟨(some 6), none, (.mov (.t 179))⟩]) (.seq (.ops [⟨(some 180), none, (.mov (.t 6))⟩, ⟨(some 181), none, (.bin .eql (.t 180) (.c (.int .i32 65533)))⟩]) (.cond (.t 181) (.seq (.ops [⟨(some 182), none, (.mov (.t 5))⟩, ⟨(some 4), none, (.mov (.t 182))⟩]) .ret) .skip))))))
def F_strings_IndexRune : F := ⟨(.seq (.ops [⟨(some 4), none, (.mov (.c (.int .i64 0)))⟩]) (.block 0 (.seq (.ops [⟨(some 161), none, (.mov (.t 1))⟩, ⟨(some 162), none, (.bin .leq (.c (.int .i32 0)) (.t 161))⟩, ⟨(some 163), none, (.mov (.t 162))⟩, ⟨(some 164), (some (163, true)), (.mov (.t 1))⟩, ⟨(some 165), (some (163, true)), (.bin .lss (.t 164) (.c (.int .i32 128)))⟩, ⟨(some 166), none, (.pick (.t 163) (.t 165) (.c (.bool false)))⟩, ⟨(some 160), none, (.mov (.t 166))⟩]) (.cond (.t 160) (.seq (.ops [⟨(some 167), none, (.mov (.t 0))⟩, ⟨(some 168), none, (.mov (.t 1))⟩, ⟨(some 169), none, (.conv .u8 (.t 168))⟩, ⟨(some 170), none, (.call 96 [(.t 167), (.t 169)])⟩, ⟨(some 4), none, (.mov (.t 170))⟩]) .ret) (.seq (.ops [⟨(some 172), none, (.mov (.t 1))⟩, ⟨(some 173), none, (.bin .eql (.t 172) (.c (.int .i32 65533)))⟩, ⟨(some 171), none, (.mov (.t 173))⟩]) (.cond (.t 171) (.seq (.seq (.ops [⟨(some 174), none, (.mov (.t 0))⟩, ⟨(some 175), none, (.srg (.t 174))⟩]) (.block 9 (.loop F_strings_IndexRune_L4))) (.seq (.ops [⟨(some 4), none, (.mov (.c (.int .i64 (-1))))⟩]) .ret)) (.seq (.ops [⟨(some 184), none, (.mov (.t 1))⟩, ⟨(some 185), none, (.call 97 [(.t 184)])⟩, ⟨(some 186), none, (.un .not (.t 185))⟩, ⟨(some 183), none, (.mov (.t 186))⟩]) (.cond (.t 183) (.seq (.ops [⟨(some 4), none, (.mov (.c (.int .i64 (-1))))⟩]) .ret) (.scope (.seq (.ops [⟨(some 17), none, (.mov (.t 1))⟩, ⟨(some 18), none, .dead⟩, ⟨(some 7), none, (.mov (.t 18))⟩]) (.seq (.ops [⟨(some 19), none, (.mov (.t 7))⟩, ⟨(some 20), none, (.slen (.t 19))⟩, ⟨(some 21), none, (.bin .sub (.t 20) (.c (.int .i64 1)))⟩, ⟨(some 8), none, (.mov (.t 21))⟩]) (.seq (.ops [⟨(some 22), none, (.mov (.t 8))⟩, ⟨(some 9), none, (.mov (.t 22))⟩]) (.seq (.ops [⟨(some 10), none, (.mov (.c (.int .i64 0)))⟩]) (.seq (.block 1 (.loop F_strings_IndexRune_L3)) (.seq (.seq (.ops [⟨(some 4), none, (.mov (.c (.int .i64 (-1))))⟩]) .ret) (.seq (.label 1) (.seq (.cond (.c (.bool true)) (.seq (.ops [⟨(some 99), none, (.mov (.t 0))⟩, ⟨(some 100), none, (.mov (.t 9))⟩, ⟨(some 101), none, (.mov (.t 8))⟩, ⟨(some 102), none, (.bin .sub (.t 100) (.t 101))⟩, ⟨(some 103), none, .dead⟩, ⟨(some 104), none, (.mov (.t 1))⟩, ⟨(some 105), none, .dead⟩, ⟨(some 106), none, (.call 99 [(.t 103), (.t 105)])⟩, ⟨(some 13), none, (.mov (.t 106))⟩]) (.seq (.ops [⟨(some 107), none, (.mov (.t 13))⟩, ⟨(some 108), none, (.bin .geq (.t 107) (.c (.int .i64 0)))⟩]) (.cond (.t 108) (.seq (.ops [⟨(some 109), none, (.mov (.t 9))⟩, ⟨(some 110), none, (.mov (.t 13))⟩, ⟨(some 111), none, (.bin .add (.t 109) (.t 110))⟩, ⟨(some 112), none, (.mov (.t 8))⟩, ⟨(some 113), none, (.bin .sub (.t 111) (.t 112))⟩, ⟨(some 4), none, (.mov (.t 113))⟩]) .ret) .skip))) (.scope (.seq (.ops [⟨(some 114), none, (.mov (.t 7))⟩, ⟨(some 115), none, (.mov (.t 8))⟩, ⟨(some 116), none, (.sidx (.t 114) (.t 115))⟩, ⟨(some 14), none, (.mov (.t 116))⟩]) (.seq (.ops [⟨(some 117), none, (.mov (.t 7))⟩, ⟨(some 118), none, (.mov (.t 8))⟩, ⟨(some 119), none, (.bin .sub (.t 118) (.c (.int .i64 1)))⟩, ⟨(some 120), none, (.sidx (.t 117) (.t 119))⟩, ⟨(some 15), none, (.mov (.t 120))⟩]) (.seq (.label 2) (.block 5 (.loop F_strings_IndexRune_L1))))))) (.seq (.ops [⟨(some 4), none, (.mov (.c (.int .i64 (-1))))⟩]) .ret)))))))))))))))))), 187, [(.tmp 4)]⟩
theorem F_strings_IndexRune_ok : compF Tryz.prog (fun _ => true) 89 = some F_strings_IndexRune := by kernel_rfl
@[simp] abbrev n_strings_IndexByte : FuncId := 96
def F_strings_IndexByte : F := ⟨(.seq (.ops [⟨(some 4), none, (.mov (.c (.int .i64 0)))⟩]) (.seq (.ops [⟨(some 5), none, (.mov (.t 0))⟩, ⟨(some 6), none, (.mov (.t 1))⟩, ⟨(some 7), none, (.call 108 [(.t 5), (.t 6)])⟩, ⟨(some 4), none, (.mov (.t 7))⟩]) .ret)), 8, [(.tmp 4)]⟩
theorem F_strings_IndexByte_ok : compF Tryz.prog (fun _ => true) 96 = some F_strings_IndexByte := by kernel_rfl
@[simp] abbrev n_unicode_utf8_ValidRune : FuncId := 97
@[simp] abbrev n_internal_bytealg_Cutover : FuncId := 98
@[simp] abbrev n_internal_bytealg_IndexString : FuncId := 99
@[simp] abbrev n_internal_stringslite_IndexByte : FuncId := 108
def F_internal_stringslite_IndexByte : F := ⟨(.seq (.ops [⟨(some 4), none, (.mov (.c (.int .i64 0)))⟩]) (.seq (.ops [⟨(some 5), none, (.mov (.t 0))⟩, ⟨(some 6), none, (.mov (.t 1))⟩, ⟨(some 7), none, (.call 113 [(.t 5), (.t 6)])⟩, ⟨(some 4), none, (.mov (.t 7))⟩]) .ret)), 8, [(.tmp 4)]⟩
theorem F_internal_stringslite_IndexByte_ok : compF Tryz.prog (fun _ => true) 108 = some F_internal_stringslite_IndexByte := by kernel_rfl
@[simp] abbrev n_internal_bytealg_IndexByteString : FuncId := 113
end Go.Av

namespace Go.Av
open Go.Proofs

@[simp] abbrev n_bytes_Equal : FuncId := 52
def F_bytes_Equal : F := ⟨(.seq (.ops [⟨(some 4), none, (.mov (.c (.bool false)))⟩]) (.seq (.ops [⟨(some 5), none, (.mov (.t 0))⟩, ⟨(some 6), none, (.b2s (.t 5))⟩, ⟨(some 7), none, (.mov (.t 1))⟩, ⟨(some 8), none, (.b2s (.t 7))⟩, ⟨(some 9), none, (.bin .eql (.t 6) (.t 8))⟩, ⟨(some 4), none, (.mov (.t 9))⟩]) .ret)), 10, [(.tmp 4)]⟩
theorem F_bytes_Equal_ok : compF Tryz.prog (fun _ => true) 52 = some F_bytes_Equal := by kernel_rfl
@[simp] abbrev n_crc_halves : FuncId := 100
def F_crc_halves : F := ⟨(.seq (.ops [⟨(some 0), none, (.alc [(.val (.int .u32 0)), (.val (.int .u32 0)), (.val (.int .u32 0)), (.val (.int .u32 0)), (.val (.int .u32 0)), (.val (.int .u32 0)), (.val (.int .u32 0)), (.val (.int .u32 0)), (.val (.int .u32 0)), (.val (.int .u32 0)), (.val (.int .u32 0)), (.val (.int .u32 0)), (.val (.int .u32 0)), (.val (.int .u32 0)), (.val (.int .u32 0)), (.val (.int .u32 0))])⟩]) (.seq (.ops [⟨(some 1), none, (.bld [(.val (.int .u32 0)), (.val (.int .u32 0)), (.val (.int .u32 0)), (.val (.int .u32 0)), (.val (.int .u32 0)), (.val (.int .u32 0)), (.val (.int .u32 0)), (.val (.int .u32 0)), (.val (.int .u32 0)), (.val (.int .u32 0)), (.val (.int .u32 0)), (.val (.int .u32 0)), (.val (.int .u32 0)), (.val (.int .u32 0)), (.val (.int .u32 0)), (.val (.int .u32 0))] [(0, (1, (.c (.int .u32 0)))), (1, (1, (.c (.int .u32 274646895)))), (2, (1, (.c (.int .u32 549293790)))), (3, (1, (.c (.int .u32 820201905)))), (4, (1, (.c (.int .u32 1098587580)))), (5, (1, (.c (.int .u32 1361435347)))), (6, (1, (.c (.int .u32 1640403810)))), (7, (1, (.c (.int .u32 1905808397)))), (8, (1, (.c (.int .u32 2197175160)))), (9, (1, (.c (.int .u32 2460548119)))), (10, (1, (.c (.int .u32 2722870694)))), (11, (1, (.c (.int .u32 2987750089)))), (12, (1, (.c (.int .u32 3280807620)))), (13, (1, (.c (.int .u32 3553878443)))), (14, (1, (.c (.int .u32 3811616794)))), (15, (1, (.c (.int .u32 4084100981))))])⟩, ⟨none, none, (.st (.t 0) 16 (.t 1))⟩]) .ret)), 2, [(.cell 0 (some 16))]⟩
theorem F_crc_halves_ok : compF Tryz.prog (fun _ => true) 100 = some F_crc_halves := by kernel_rfl
@[simp] abbrev n_crc_More : FuncId := 90
def F_crc_More_L0 : C := (.seq (.ops [⟨(some 14), none, (.bin .lss (.t 13) (.t 12))⟩]) (.seq (.cond (.t 14) .skip (.exit 0)) (.seq (.block 1 (.seq (.ops [⟨(some 15), none, (.ixs (.t 11) (.t 13) 1)⟩, ⟨(some 16), none, (.lde (.t 15) none)⟩, ⟨(some 7), none, (.mov (.t 16))⟩]) (.seq (.ops [⟨(some 17), none, (.mov (.t 0))⟩, ⟨(some 18), none, (.mov (.t 7))⟩, ⟨(some 19), none, (.conv .u32 (.t 18))⟩, ⟨(some 20), none, (.bin .xor (.t 17) (.t 19))⟩, ⟨(some 0), none, (.mov (.t 20))⟩]) (.seq (.ops [⟨(some 21), none, (.mov (.t 0))⟩, ⟨(some 22), none, (.bin .shr (.t 21) (.c (.int .u64 4)))⟩, ⟨(some 23), none, (.mov (.t 0))⟩, ⟨(some 24), none, (.bin .and (.t 23) (.c (.int .u32 15)))⟩, ⟨(some 25), none, (.ixa (.t 5) (.t 24) 16 1)⟩, ⟨(some 26), none, (.ld (.t 25) none)⟩, ⟨(some 27), none, (.bin .xor (.t 22) (.t 26))⟩, ⟨(some 0), none, (.mov (.t 27))⟩]) (.ops [⟨(some 28), none, (.mov (.t 0))⟩, ⟨(some 29), none, (.bin .shr (.t 28) (.c (.int .u64 4)))⟩, ⟨(some 30), none, (.mov (.t 0))⟩, ⟨(some 31), none, (.bin .and (.t 30) (.c (.int .u32 15)))⟩, ⟨(some 32), none, (.ixa (.t 5) (.t 31) 16 1)⟩, ⟨(some 33), none, (.ld (.t 32) none)⟩, ⟨(some 34), none, (.bin .xor (.t 29) (.t 33))⟩, ⟨(some 0), none, (.mov (.t 34))⟩]))))) (.ops [⟨(some 35), none, (.bin .add (.t 13) (.c (.int .i64 1)))⟩, ⟨(some 13), none, (.mov (.t 35))⟩]))))
def F_crc_More : F := ⟨(.seq (.ops [⟨(some 4), none, (.mov (.c (.int .u32 0)))⟩]) (.seq (.ops [⟨(some 8), none, (.call 100 [])⟩, ⟨(some 5), none, (.alc [(.val (.int .u32 0)), (.val (.int .u32 0)), (.val (.int .u32 0)), (.val (.int .u32 0)), (.val (.int .u32 0)), (.val (.int .u32 0)), (.val (.int .u32 0)), (.val (.int .u32 0)), (.val (.int .u32 0)), (.val (.int .u32 0)), (.val (.int .u32 0)), (.val (.int .u32 0)), (.val (.int .u32 0)), (.val (.int .u32 0)), (.val (.int .u32 0)), (.val (.int .u32 0))])⟩, ⟨none, none, (.st (.t 5) 16 (.t 8))⟩]) (.seq (.ops [⟨(some 9), none, (.mov (.t 0))⟩, ⟨(some 10), none, (.bin .xor (.t 9) (.c (.int .u32 4294967295)))⟩, ⟨(some 0), none, (.mov (.t 10))⟩]) (.seq (.seq (.ops [⟨(some 11), none, (.mov (.t 1))⟩, ⟨(some 12), none, (.len (.t 11))⟩, ⟨(some 13), none, (.mov (.c (.int .i64 0)))⟩]) (.block 0 (.loop F_crc_More_L0))) (.seq (.ops [⟨(some 36), none, (.mov (.t 0))⟩, ⟨(some 37), none, (.bin .xor (.t 36) (.c (.int .u32 4294967295)))⟩, ⟨(some 4), none, (.mov (.t 37))⟩]) .ret))))), 38, [(.tmp 4)]⟩
theorem F_crc_More_ok : compF Tryz.prog (fun _ => true) 90 = some F_crc_More := by kernel_rfl
@[simp] abbrev n_crc_Sum : FuncId := 71
def F_crc_Sum : F := ⟨(.seq (.ops [⟨(some 2), none, (.mov (.c (.int .u32 0)))⟩]) (.seq (.ops [⟨(some 3), none, (.mov (.t 0))⟩, ⟨(some 4), none, (.call 90 [(.c (.int .u32 0)), (.t 3)])⟩, ⟨(some 2), none, (.mov (.t 4))⟩]) .ret)), 5, [(.tmp 2)]⟩
theorem F_crc_Sum_ok : compF Tryz.prog (fun _ => true) 71 = some F_crc_Sum := by kernel_rfl
@[simp] abbrev n_crc_Seal : FuncId := 41
def F_crc_Seal : F := ⟨(.seq (.ops [⟨(some 2), none, (.nil 5 1 true)⟩]) (.seq (.ops [⟨(some 6), none, (.mov (.t 0))⟩, ⟨(some 7), none, (.mov (.t 0))⟩, ⟨(some 8), none, (.call 71 [(.t 7)])⟩, ⟨(some 9), none, (.conv .u64 (.t 8))⟩, ⟨(some 10), none, (.call 24 [(.t 6), (.t 9), (.c (.int .i64 4))])⟩, ⟨(some 5), none, (.mov (.t 10))⟩, ⟨(some 11), none, (.ext (.t 5) 0)⟩, ⟨(some 12), none, (.ext (.t 5) 1)⟩, ⟨(some 3), none, (.mov (.t 11))⟩, ⟨(some 4), none, (.mov (.t 12))⟩]) (.seq (.ops [⟨(some 13), none, (.mov (.t 3))⟩, ⟨(some 2), none, (.mov (.t 13))⟩]) .ret))), 14, [(.tmp 2)]⟩
theorem F_crc_Seal_ok : compF Tryz.prog (fun _ => true) 41 = some F_crc_Seal := by kernel_rfl
@[simp] abbrev n_crc_Open : FuncId := 42
def F_crc_Open : F := ⟨(.seq (.ops [⟨(some 2), none, (.nil 5 1 true)⟩, ⟨(some 3), none, (.mov (.c (.int .i64 0)))⟩]) (.seq (.ops [⟨(some 5), none, (.mov (.t 0))⟩, ⟨(some 6), none, (.len (.t 5))⟩, ⟨(some 7), none, (.bin .sub (.t 6) (.c (.int .i64 4)))⟩, ⟨(some 4), none, (.mov (.t 7))⟩]) (.seq (.seq (.ops [⟨(some 8), none, (.mov (.t 4))⟩, ⟨(some 9), none, (.bin .lss (.t 8) (.c (.int .i64 0)))⟩, ⟨(some 10), none, (.mov (.t 9))⟩, ⟨(some 11), (some (10, false)), (.mov (.t 0))⟩, ⟨(some 12), (some (10, false)), (.mov (.t 4))⟩, ⟨(some 13), (some (10, false)), (.slc (.t 11) none (some (.t 12)) none 1)⟩, ⟨(some 14), (some (10, false)), (.call 41 [(.t 13)])⟩, ⟨(some 15), (some (10, false)), (.mov (.t 0))⟩, ⟨(some 16), (some (10, false)), (.call 52 [(.t 14), (.t 15)])⟩, ⟨(some 17), (some (10, false)), (.un .not (.t 16))⟩, ⟨(some 18), none, (.pick (.t 10) (.c (.bool true)) (.t 17))⟩]) (.cond (.t 18) (.seq (.ops [⟨(some 2), none, (.nil 5 1 true)⟩, ⟨(some 3), none, (.mov (.c (.int .i64 20)))⟩]) .ret) .skip)) (.seq (.ops [⟨(some 19), none, (.mkl 5 1 [] true)⟩, ⟨(some 20), none, (.mov (.t 0))⟩, ⟨(some 21), none, (.mov (.t 4))⟩, ⟨(some 22), none, (.slc (.t 20) none (some (.t 21)) none 1)⟩, ⟨(some 23), none, (.app (.t 19) (.t 22) 5 1 1 true)⟩, ⟨(some 2), none, (.mov (.t 23))⟩, ⟨(some 3), none, (.mov (.c (.int .i64 0)))⟩]) .ret)))), 24, [(.tmp 2), (.tmp 3)]⟩
theorem F_crc_Open_ok : compF Tryz.prog (fun _ => true) 42 = some F_crc_Open := by kernel_rfl
@[simp] abbrev n_extent_within : FuncId := 76
def F_extent_within : F := ⟨(.seq (.ops [⟨(some 6), none, (.mov (.c (.bool false)))⟩]) (.seq (.ops [⟨(some 7), none, (.mov (.t 0))⟩, ⟨(some 8), none, (.mov (.t 1))⟩, ⟨(some 9), none, (.bin .geq (.t 7) (.t 8))⟩, ⟨(some 10), none, (.mov (.t 9))⟩, ⟨(some 11), (some (10, true)), (.mov (.t 0))⟩, ⟨(some 12), (some (10, true)), (.mov (.t 2))⟩, ⟨(some 13), (some (10, true)), (.bin .leq (.t 11) (.t 12))⟩, ⟨(some 14), none, (.pick (.t 10) (.t 13) (.c (.bool false)))⟩, ⟨(some 6), none, (.mov (.t 14))⟩]) .ret)), 15, [(.tmp 6)]⟩
theorem F_extent_within_ok : compF Tryz.prog (fun _ => true) 76 = some F_extent_within := by kernel_rfl
@[simp] abbrev n_extent_data : FuncId := 73
def F_extent_data : F := ⟨(.seq (.ops [⟨(some 1), none, (.box (.t 0))⟩, ⟨(some 2), none, (.mov (.c (.int .i64 0)))⟩]) (.seq (.seq (.ops [⟨(some 3), none, (.fad (.t 1) 2)⟩, ⟨(some 4), none, (.ld (.t 3) none)⟩, ⟨(some 5), none, (.bin .eql (.t 4) (.c (.int .i64 2)))⟩]) (.cond (.t 5) (.seq (.ops [⟨(some 6), none, (.fad (.t 1) 1)⟩, ⟨(some 7), none, (.ld (.t 6) none)⟩, ⟨(some 8), none, (.bin .mul (.t 7) (.c (.int .i64 32)))⟩, ⟨(some 2), none, (.mov (.t 8))⟩]) .ret) .skip)) (.seq (.ops [⟨(some 2), none, (.mov (.c (.int .i64 0)))⟩]) .ret))), 9, [(.tmp 2)]⟩
theorem F_extent_data_ok : compF Tryz.prog (fun _ => true) 73 = some F_extent_data := by kernel_rfl
@[simp] abbrev n_extent_Check : FuncId := 69
def F_extent_Check : F := ⟨(.seq (.ops [⟨(some 1), none, (.box (.t 0))⟩, ⟨(some 2), none, (.mov (.c (.bool false)))⟩]) (.seq (.dops false [] [⟨(some 3), none, (.fad (.t 1) 0)⟩, ⟨(some 4), none, (.ld (.t 3) none)⟩, ⟨(some 5), none, (.callq 76 [(.t 4), (.c (.int .i64 0)), (.c (.int .i64 64))])⟩, ⟨(some 6), none, (.mov (.t 5))⟩, ⟨(some 7), (some (6, true)), (.fad (.t 1) 1)⟩, ⟨(some 8), (some (6, true)), (.ld (.t 7) none)⟩, ⟨(some 9), (some (6, true)), (.fad (.t 1) 0)⟩, ⟨(some 10), (some (6, true)), (.ld (.t 9) none)⟩, ⟨(some 11), (some (6, true)), (.bin .sub (.c (.int .i64 64)) (.t 10))⟩, ⟨(some 12), (some (6, true)), (.callq 76 [(.t 8), (.c (.int .i64 1)), (.t 11)])⟩, ⟨(some 13), none, (.pick (.t 6) (.t 12) (.c (.bool false)))⟩, ⟨(some 14), none, (.mov (.t 13))⟩, ⟨(some 15), (some (14, true)), (.fad (.t 1) 2)⟩, ⟨(some 16), (some (14, true)), (.ld (.t 15) none)⟩, ⟨(some 17), (some (14, true)), (.callq 76 [(.t 16), (.c (.int .i64 0)), (.c (.int .i64 2))])⟩, ⟨(some 18), none, (.pick (.t 14) (.t 17) (.c (.bool false)))⟩, ⟨(some 19), none, (.mov (.t 18))⟩, ⟨(some 20), (some (19, true)), (.fad (.t 1) 3)⟩, ⟨(some 21), (some (19, true)), (.ld (.t 20) none)⟩, ⟨(some 22), (some (19, true)), (.callq 76 [(.t 21), (.c (.int .i64 0)), (.c (.int .i64 2147483647))])⟩, ⟨(some 23), none, (.pick (.t 19) (.t 22) (.c (.bool false)))⟩, ⟨(some 24), none, (.mov (.t 23))⟩, ⟨(some 25), (some (24, true)), (.fad (.t 1) 4)⟩, ⟨(some 26), (some (24, true)), (.ld (.t 25) none)⟩, ⟨(some 27), (some (24, true)), (.len (.t 26))⟩, ⟨(some 28), (some (24, true)), (.ld (.t 1) (some 5))⟩, ⟨(some 29), (some (24, true)), (.callq 73 [(.t 28)])⟩, ⟨(some 30), (some (24, true)), (.bin .eql (.t 27) (.t 29))⟩, ⟨(some 31), none, (.pick (.t 24) (.t 30) (.c (.bool false)))⟩, ⟨(some 2), none, (.mov (.t 31))⟩]) .ret)), 32, [(.tmp 2)]⟩
theorem F_extent_Check_ok : compF Tryz.prog (fun _ => true) 69 = some F_extent_Check := by kernel_rfl
@[simp] abbrev n_extent_Joins : FuncId := 74
def F_extent_Joins : F := ⟨(.seq (.ops [⟨(some 2), none, (.box (.t 0))⟩, ⟨(some 3), none, (.box (.t 1))⟩, ⟨(some 4), none, (.mov (.c (.bool false)))⟩]) (.seq (.ops [⟨(some 5), none, (.ld (.t 2) (some 5))⟩, ⟨(some 6), none, (.call 69 [(.t 5)])⟩, ⟨(some 7), none, (.mov (.t 6))⟩, ⟨(some 8), (some (7, true)), (.ld (.t 3) (some 5))⟩, ⟨(some 9), (some (7, true)), (.call 69 [(.t 8)])⟩, ⟨(some 10), none, (.pick (.t 7) (.t 9) (.c (.bool false)))⟩, ⟨(some 11), none, (.mov (.t 10))⟩, ⟨(some 12), (some (11, true)), (.fad (.t 2) 0)⟩, ⟨(some 13), (some (11, true)), (.ld (.t 12) none)⟩, ⟨(some 14), (some (11, true)), (.fad (.t 2) 1)⟩, ⟨(some 15), (some (11, true)), (.ld (.t 14) none)⟩, ⟨(some 16), (some (11, true)), (.bin .add (.t 13) (.t 15))⟩, ⟨(some 17), (some (11, true)), (.fad (.t 3) 0)⟩, ⟨(some 18), (some (11, true)), (.ld (.t 17) none)⟩, ⟨(some 19), (some (11, true)), (.bin .eql (.t 16) (.t 18))⟩, ⟨(some 20), none, (.pick (.t 11) (.t 19) (.c (.bool false)))⟩, ⟨(some 21), none, (.mov (.t 20))⟩, ⟨(some 22), (some (21, true)), (.fad (.t 2) 2)⟩, ⟨(some 23), (some (21, true)), (.ld (.t 22) none)⟩, ⟨(some 24), (some (21, true)), (.fad (.t 3) 2)⟩, ⟨(some 25), (some (21, true)), (.ld (.t 24) none)⟩, ⟨(some 26), (some (21, true)), (.bin .eql (.t 23) (.t 25))⟩, ⟨(some 27), none, (.pick (.t 21) (.t 26) (.c (.bool false)))⟩, ⟨(some 28), none, (.mov (.t 27))⟩, ⟨(some 29), (some (28, true)), (.fad (.t 2) 3)⟩, ⟨(some 30), (some (28, true)), (.ld (.t 29) none)⟩, ⟨(some 31), (some (28, true)), (.fad (.t 3) 3)⟩, ⟨(some 32), (some (28, true)), (.ld (.t 31) none)⟩, ⟨(some 33), (some (28, true)), (.bin .eql (.t 30) (.t 32))⟩, ⟨(some 34), none, (.pick (.t 28) (.t 33) (.c (.bool false)))⟩, ⟨(some 4), none, (.mov (.t 34))⟩]) .ret)), 35, [(.tmp 4)]⟩
theorem F_extent_Joins_ok : compF Tryz.prog (fun _ => true) 74 = some F_extent_Joins := by kernel_rfl
@[simp] abbrev n_extent_Cut : FuncId := 51
def F_extent_Cut : F := ⟨(.seq (.ops [⟨(some 3), none, (.box (.t 0))⟩, ⟨(some 6), none, (.alc [(.val (.int .i64 0)), (.val (.int .i64 0)), (.val (.int .i64 0)), (.val (.int .i64 0)), (.lit 1 [])])⟩, ⟨(some 7), none, (.mov (.c (.bool false)))⟩]) (.seq (.seq (.ops [⟨(some 11), none, (.ld (.t 3) (some 5))⟩, ⟨(some 12), none, (.call 69 [(.t 11)])⟩, ⟨(some 13), none, (.un .not (.t 12))⟩, ⟨(some 14), none, (.mov (.t 13))⟩, ⟨(some 15), (some (14, false)), (.mov (.t 1))⟩, ⟨(some 16), (some (14, false)), (.call 76 [(.t 15), (.c (.int .i64 0)), (.c (.int .i64 64))])⟩, ⟨(some 17), (some (14, false)), (.un .not (.t 16))⟩, ⟨(some 18), none, (.pick (.t 14) (.c (.bool true)) (.t 17))⟩, ⟨(some 19), none, (.mov (.t 18))⟩, ⟨(some 20), (some (19, false)), (.mov (.t 2))⟩, ⟨(some 21), (some (19, false)), (.call 76 [(.t 20), (.c (.int .i64 0)), (.c (.int .i64 64))])⟩, ⟨(some 22), (some (19, false)), (.un .not (.t 21))⟩, ⟨(some 23), none, (.pick (.t 19) (.c (.bool true)) (.t 22))⟩]) (.cond (.t 23) (.seq (.ops [⟨(some 24), none, (.bld [(.val (.int .i64 0)), (.val (.int .i64 0)), (.val (.int .i64 0)), (.val (.int .i64 0)), (.lit 1 [])] [])⟩, ⟨none, none, (.st (.t 6) 5 (.t 24))⟩, ⟨(some 7), none, (.mov (.c (.bool false)))⟩]) .ret) .skip)) (.seq (.dops false [] [⟨(some 25), none, (.fad (.t 3) 0)⟩, ⟨(some 26), none, (.ld (.t 25) none)⟩, ⟨(some 27), none, (.mov (.t 1))⟩, ⟨(some 28), none, (.mm true (.t 26) (.t 27))⟩, ⟨(some 29), none, (.fad (.t 3) 0)⟩, ⟨(some 30), none, (.ld (.t 29) none)⟩, ⟨(some 31), none, (.fad (.t 3) 1)⟩, ⟨(some 32), none, (.ld (.t 31) none)⟩, ⟨(some 33), none, (.bin .add (.t 30) (.t 32))⟩, ⟨(some 34), none, (.mov (.t 1))⟩, ⟨(some 35), none, (.mov (.t 2))⟩, ⟨(some 36), none, (.bin .add (.t 34) (.t 35))⟩, ⟨(some 37), none, (.mm false (.t 33) (.t 36))⟩, ⟨(some 8), none, (.mov (.t 28))⟩, ⟨(some 9), none, (.mov (.t 37))⟩]) (.seq (.seq (.ops [⟨(some 38), none, (.mov (.t 8))⟩, ⟨(some 39), none, (.mov (.t 9))⟩, ⟨(some 40), none, (.bin .geq (.t 38) (.t 39))⟩]) (.cond (.t 40) (.seq (.ops [⟨(some 41), none, (.bld [(.val (.int .i64 0)), (.val (.int .i64 0)), (.val (.int .i64 0)), (.val (.int .i64 0)), (.lit 1 [])] [])⟩, ⟨none, none, (.st (.t 6) 5 (.t 41))⟩, ⟨(some 7), none, (.mov (.c (.bool false)))⟩]) .ret) .skip)) (.seq (.ops [⟨(some 42), none, (.fad (.t 3) 4)⟩, ⟨(some 43), none, (.ld (.t 42) none)⟩, ⟨(some 10), none, (.mov (.t 43))⟩]) (.seq (.seq (.ops [⟨(some 44), none, (.fad (.t 3) 4)⟩, ⟨none, none, (.st (.t 44) 1 (.c (.slice none 0 0)))⟩]) (.seq (.ops [⟨(some 45), none, (.fad (.t 3) 2)⟩, ⟨(some 46), none, (.ld (.t 45) none)⟩, ⟨(some 47), none, (.bin .eql (.t 46) (.c (.int .i64 2)))⟩]) (.cond (.t 47) (.ops [⟨(some 48), none, (.mov (.t 10))⟩, ⟨(some 49), none, (.mov (.t 8))⟩, ⟨(some 50), none, (.fad (.t 3) 0)⟩, ⟨(some 51), none, (.ld (.t 50) none)⟩, ⟨(some 52), none, (.bin .sub (.t 49) (.t 51))⟩, ⟨(some 53), none, (.bin .mul (.t 52) (.c (.int .i64 32)))⟩, ⟨(some 54), none, (.mov (.t 9))⟩, ⟨(some 55), none, (.fad (.t 3) 0)⟩, ⟨(some 56), none, (.ld (.t 55) none)⟩, ⟨(some 57), none, (.bin .sub (.t 54) (.t 56))⟩, ⟨(some 58), none, (.bin .mul (.t 57) (.c (.int .i64 32)))⟩, ⟨(some 59), none, (.slc (.t 48) (some (.t 53)) (some (.t 58)) none 1)⟩, ⟨(some 60), none, (.call 23 [(.t 59)])⟩, ⟨(some 61), none, (.fad (.t 3) 4)⟩, ⟨none, none, (.st (.t 61) 1 (.t 60))⟩]) .skip))) (.seq (.ops [⟨(some 62), none, (.mov (.t 8))⟩, ⟨(some 63), none, (.mov (.t 9))⟩, ⟨(some 64), none, (.mov (.t 8))⟩, ⟨(some 65), none, (.bin .sub (.t 63) (.t 64))⟩, ⟨(some 66), none, (.fad (.t 3) 0)⟩, ⟨none, none, (.st (.t 66) 1 (.t 62))⟩, ⟨(some 67), none, (.fad (.t 3) 1)⟩, ⟨none, none, (.st (.t 67) 1 (.t 65))⟩]) (.seq (.ops [⟨(some 68), none, (.ld (.t 3) (some 5))⟩, ⟨none, none, (.st (.t 6) 5 (.t 68))⟩, ⟨(some 7), none, (.mov (.c (.bool true)))⟩]) .ret)))))))), 69, [(.cell 6 (some 5)), (.tmp 7)]⟩
theorem F_extent_Cut_ok : compF Tryz.prog (fun _ => true) 51 = some F_extent_Cut := by kernel_rfl
@[simp] abbrev n_extent_Write : FuncId := 39
def F_extent_Write_L0 : C := (.seq (.ops [⟨(some 16), none, (.bin .lss (.t 15) (.t 14))⟩]) (.seq (.cond (.t 16) .skip (.exit 0)) (.seq (.block 1 (.seq (.ops [⟨(some 17), none, (.ixs (.t 13) (.t 15) 5)⟩, ⟨(some 18), none, (.lde (.t 17) (some 5))⟩, ⟨(some 6), none, (.alc [(.val (.int .i64 0)), (.val (.int .i64 0)), (.val (.int .i64 0)), (.val (.int .i64 0)), (.lit 1 [])])⟩, ⟨none, none, (.st (.t 6) 5 (.t 18))⟩]) (.seq (.ops [⟨(some 20), none, (.fad (.t 6) 0)⟩, ⟨(some 21), none, (.ld (.t 20) none)⟩, ⟨(some 22), none, (.conv .u64 (.t 21))⟩, ⟨(some 23), none, (.fad (.t 6) 1)⟩, ⟨(some 24), none, (.ld (.t 23) none)⟩, ⟨(some 25), none, (.conv .u64 (.t 24))⟩, ⟨(some 26), none, (.fad (.t 6) 2)⟩, ⟨(some 27), none, (.ld (.t 26) none)⟩, ⟨(some 28), none, (.conv .u64 (.t 27))⟩, ⟨(some 29), none, (.fad (.t 6) 3)⟩, ⟨(some 30), none, (.ld (.t 29) none)⟩, ⟨(some 31), none, (.conv .u64 (.t 30))⟩, ⟨(some 32), none, (.mkl 69 1 [(.t 22), (.t 25), (.t 28), (.t 31)] true)⟩, ⟨(some 33), none, (.call 40 [(.c (.string ⟨#[98, 98, 98, 119]⟩)), (.t 32)])⟩, ⟨(some 19), none, (.mov (.t 33))⟩, ⟨(some 34), none, (.ext (.t 19) 0)⟩, ⟨(some 35), none, (.ext (.t 19) 1)⟩, ⟨(some 7), none, (.mov (.t 34))⟩, ⟨(some 8), none, (.mov (.t 35))⟩]) (.seq (.seq (.ops [⟨(some 36), none, (.ld (.t 6) (some 5))⟩, ⟨(some 37), none, (.call 69 [(.t 36)])⟩, ⟨(some 38), none, (.un .not (.t 37))⟩, ⟨(some 39), none, (.mov (.t 38))⟩, ⟨(some 40), (some (39, false)), (.mov (.t 8))⟩, ⟨(some 41), (some (39, false)), (.bin .neq (.t 40) (.c (.int .i64 0)))⟩, ⟨(some 42), none, (.pick (.t 39) (.c (.bool true)) (.t 41))⟩]) (.cond (.t 42) (.seq (.ops [⟨(some 2), none, (.nil 5 1 true)⟩, ⟨(some 3), none, (.mov (.c (.int .i64 70)))⟩]) .ret) .skip)) (.dops false [] [⟨(some 43), none, (.mov (.t 4))⟩, ⟨(some 44), none, (.mov (.t 7))⟩, ⟨(some 46), none, (.fad (.t 6) 4)⟩, ⟨(some 47), none, (.ld (.t 46) none)⟩, ⟨(some 45), none, (.app (.t 43) (.t 44) 5 1 1 true)⟩, ⟨(some 48), none, (.app (.t 45) (.t 47) 5 1 1 true)⟩, ⟨(some 4), none, (.mov (.t 48))⟩]))))) (.ops [⟨(some 49), none, (.bin .add (.t 15) (.c (.int .i64 1)))⟩, ⟨(some 15), none, (.mov (.t 49))⟩]))))
def F_extent_Write : F := ⟨(.seq (.ops [⟨(some 2), none, (.nil 5 1 true)⟩, ⟨(some 3), none, (.mov (.c (.int .i64 0)))⟩]) (.seq (.ops [⟨(some 9), none, (.mov (.t 0))⟩, ⟨(some 10), none, (.len (.t 9))⟩, ⟨(some 11), none, (.conv .u8 (.t 10))⟩, ⟨(some 12), none, (.mkl 5 1 [(.t 11)] true)⟩, ⟨(some 4), none, (.mov (.t 12))⟩]) (.seq (.seq (.ops [⟨(some 13), none, (.mov (.t 0))⟩, ⟨(some 14), none, (.len (.t 13))⟩, ⟨(some 15), none, (.mov (.c (.int .i64 0)))⟩]) (.block 0 (.loop F_extent_Write_L0))) (.seq (.seq (.ops [⟨(some 50), none, (.mov (.t 0))⟩, ⟨(some 51), none, (.len (.t 50))⟩, ⟨(some 52), none, (.bin .gtr (.t 51) (.c (.int .i64 64)))⟩]) (.cond (.t 52) (.seq (.ops [⟨(some 2), none, (.nil 5 1 true)⟩, ⟨(some 3), none, (.mov (.c (.int .i64 70)))⟩]) .ret) .skip)) (.seq (.ops [⟨(some 53), none, (.mov (.t 4))⟩, ⟨(some 2), none, (.mov (.t 53))⟩, ⟨(some 3), none, (.mov (.c (.int .i64 0)))⟩]) .ret))))), 54, [(.tmp 2), (.tmp 3)]⟩
theorem F_extent_Write_ok : compF Tryz.prog (fun _ => true) 39 = some F_extent_Write := by kernel_rfl
@[simp] abbrev n_extent_Read : FuncId := 47
def F_extent_Read_B0 : C := (.seq (.seq (.ops [⟨(some 24), none, (.mov (.t 2))⟩, ⟨(some 25), none, (.len (.t 24))⟩, ⟨(some 26), none, (.mov (.t 4))⟩, ⟨(some 27), none, (.bin .eql (.t 25) (.t 26))⟩]) (.cond (.t 27) (.seq (.seq (.ops [⟨(some 28), none, (.ld (.t 1) none)⟩, ⟨(some 29), none, (.len (.t 28))⟩, ⟨(some 30), none, (.bin .gtr (.t 29) (.c (.int .i64 0)))⟩]) (.cond (.t 30) (.seq (.ops [⟨(some 2), none, (.nil 109 5 true)⟩, ⟨(some 3), none, (.mov (.c (.int .i64 70)))⟩]) .ret) .skip)) (.seq (.ops [⟨(some 31), none, (.mov (.t 2))⟩, ⟨(some 2), none, (.mov (.t 31))⟩, ⟨(some 3), none, (.mov (.c (.int .i64 0)))⟩]) .ret)) .skip)) (.seq (.ops [⟨(some 33), none, (.mov (.t 5))⟩, ⟨(some 34), none, (.callv (.t 33) [])⟩, ⟨(some 32), none, (.mov (.t 34))⟩, ⟨(some 35), none, (.ext (.t 32) 0)⟩, ⟨(some 36), none, (.ext (.t 32) 1)⟩, ⟨(some 6), none, (.alc [(.val (.int .i64 0)), (.val (.int .i64 0)), (.val (.int .i64 0)), (.val (.int .i64 0)), (.lit 1 [])])⟩, ⟨none, none, (.st (.t 6) 5 (.t 35))⟩, ⟨(some 7), none, (.mov (.t 36))⟩]) (.seq (.seq (.ops [⟨(some 37), none, (.mov (.t 7))⟩, ⟨(some 38), none, (.un .not (.t 37))⟩]) (.cond (.t 38) (.seq (.ops [⟨(some 2), none, (.nil 109 5 true)⟩, ⟨(some 3), none, (.mov (.c (.int .i64 70)))⟩]) .ret) .skip)) (.seq (.ops [⟨(some 39), none, (.mov (.t 2))⟩, ⟨(some 40), none, (.ld (.t 6) (some 5))⟩, ⟨(some 41), none, (.mkl 109 5 [(.t 40)] true)⟩, ⟨(some 42), none, (.app (.t 39) (.t 41) 109 5 56 true)⟩, ⟨(some 2), none, (.mov (.t 42))⟩]) (.goto 0)))))
def F_extent_Read_J0 : C := (.seq .skip F_extent_Read_B0)
def F_extent_Read_S0 : C := (.seq (.seq (.ops [⟨(some 8), none, (.ld (.t 1) none)⟩, ⟨(some 9), none, (.len (.t 8))⟩, ⟨(some 10), none, (.bin .eql (.t 9) (.c (.int .i64 0)))⟩, ⟨(some 11), none, (.mov (.t 10))⟩, ⟨(some 12), (some (11, false)), (.ld (.t 1) none)⟩, ⟨(some 13), (some (11, false)), (.ixs (.t 12) (.c (.int .i64 0)) 1)⟩, ⟨(some 14), (some (11, false)), (.lde (.t 13) none)⟩, ⟨(some 15), (some (11, false)), (.bin .gtr (.t 14) (.c (.int .u8 64)))⟩, ⟨(some 16), none, (.pick (.t 11) (.c (.bool true)) (.t 15))⟩]) (.cond (.t 16) (.seq (.ops [⟨(some 2), none, (.nil 109 5 true)⟩, ⟨(some 3), none, (.mov (.c (.int .i64 70)))⟩]) .ret) .skip)) (.seq (.ops [⟨(some 17), none, (.ld (.t 1) none)⟩, ⟨(some 18), none, (.ixs (.t 17) (.c (.int .i64 0)) 1)⟩, ⟨(some 19), none, (.lde (.t 18) none)⟩, ⟨(some 20), none, (.conv .i64 (.t 19))⟩, ⟨(some 4), none, (.mov (.t 20))⟩]) (.seq (.ops [⟨(some 21), none, (.ld (.t 1) none)⟩, ⟨(some 22), none, (.slc (.t 21) (some (.c (.int .i64 1))) none none 1)⟩, ⟨none, none, (.st (.t 1) 1 (.t 22))⟩]) (.seq (.ops [⟨(some 23), none, (.mkf 72 [(.t 1)])⟩, ⟨(some 5), none, (.mov (.t 23))⟩]) (.seq (.label 0) F_extent_Read_B0)))))
def F_extent_Read : F := ⟨(.seq (.ops [⟨(some 1), none, (.box (.t 0))⟩, ⟨(some 2), none, (.nil 109 5 true)⟩, ⟨(some 3), none, (.mov (.c (.int .i64 0)))⟩]) (.scopeJ F_extent_Read_S0 0 F_extent_Read_J0)), 43, [(.tmp 2), (.tmp 3)]⟩
theorem F_extent_Read_ok : compF Tryz.prog (fun _ => true) 47 = some F_extent_Read := by kernel_rfl
@[simp] abbrev n_extent_Read_1 : FuncId := 72
def F_extent_Read_1 : F := ⟨(.seq (.ops [⟨(some 1), none, (.alc [(.val (.int .i64 0)), (.val (.int .i64 0)), (.val (.int .i64 0)), (.val (.int .i64 0)), (.lit 1 [])])⟩, ⟨(some 2), none, (.mov (.c (.bool false)))⟩]) (.seq (.seq (.ops [⟨(some 6), none, (.ld (.t 0) none)⟩, ⟨(some 7), none, (.len (.t 6))⟩, ⟨(some 8), none, (.bin .lss (.t 7) (.c (.int .i64 7)))⟩]) (.cond (.t 8) (.seq (.ops [⟨(some 9), none, (.ld (.t 1) (some 5))⟩, ⟨none, none, (.st (.t 1) 5 (.t 9))⟩, ⟨(some 2), none, (.mov (.c (.bool false)))⟩]) .ret) .skip)) (.seq (.ops [⟨(some 11), none, (.ld (.t 0) none)⟩, ⟨(some 12), none, (.slc (.t 11) none (some (.c (.int .i64 7))) none 1)⟩, ⟨(some 13), none, (.call 45 [(.c (.string ⟨#[98, 98, 98, 119]⟩)), (.t 12)])⟩, ⟨(some 10), none, (.mov (.t 13))⟩, ⟨(some 14), none, (.ext (.t 10) 0)⟩, ⟨(some 15), none, (.ext (.t 10) 1)⟩, ⟨(some 3), none, (.mov (.t 14))⟩, ⟨(some 4), none, (.mov (.t 15))⟩]) (.seq (.seq (.ops [⟨(some 16), none, (.mov (.t 4))⟩, ⟨(some 17), none, (.bin .neq (.t 16) (.c (.int .i64 0)))⟩]) (.cond (.t 17) (.seq (.ops [⟨(some 18), none, (.ld (.t 1) (some 5))⟩, ⟨none, none, (.st (.t 1) 5 (.t 18))⟩, ⟨(some 2), none, (.mov (.c (.bool false)))⟩]) .ret) .skip)) (.seq (.dops false [(0, 1)] [⟨(some 19), none, (.mov (.t 3))⟩, ⟨(some 20), none, (.ixs (.t 19) (.c (.int .i64 0)) 1)⟩, ⟨(some 21), none, (.lde (.t 20) none)⟩, ⟨(some 22), none, (.conv .i64 (.t 21))⟩, ⟨(some 23), none, (.mov (.t 3))⟩, ⟨(some 24), none, (.ixs (.t 23) (.c (.int .i64 1)) 1)⟩, ⟨(some 25), none, (.lde (.t 24) none)⟩, ⟨(some 26), none, (.conv .i64 (.t 25))⟩, ⟨(some 27), none, (.mov (.t 3))⟩, ⟨(some 28), none, (.ixs (.t 27) (.c (.int .i64 2)) 1)⟩, ⟨(some 29), none, (.lde (.t 28) none)⟩, ⟨(some 30), none, (.conv .i64 (.t 29))⟩, ⟨(some 31), none, (.mov (.t 3))⟩, ⟨(some 32), none, (.ixs (.t 31) (.c (.int .i64 3)) 1)⟩, ⟨(some 33), none, (.lde (.t 32) none)⟩, ⟨(some 34), none, (.conv .i64 (.t 33))⟩, ⟨(some 35), none, (.bld [(.val (.int .i64 0)), (.val (.int .i64 0)), (.val (.int .i64 0)), (.val (.int .i64 0)), (.lit 1 [])] [(0, (1, (.t 22))), (1, (1, (.t 26))), (2, (1, (.t 30))), (3, (1, (.t 34)))])⟩, ⟨(some 36), none, (.ld (.t 0) none)⟩, ⟨(some 37), none, (.slc (.t 36) (some (.c (.int .i64 7))) none none 1)⟩, ⟨none, none, (.st (.t 1) 5 (.t 35))⟩, ⟨none, none, (.st (.t 0) 1 (.t 37))⟩]) (.seq (.seq (.ops [⟨(some 38), none, (.ld (.t 1) (some 5))⟩, ⟨(some 39), none, (.call 73 [(.t 38)])⟩, ⟨(some 5), none, (.mov (.t 39))⟩]) (.seq (.ops [⟨(some 40), none, (.mov (.t 5))⟩, ⟨(some 41), none, (.bin .gtr (.t 40) (.c (.int .i64 0)))⟩, ⟨(some 42), none, (.mov (.t 41))⟩, ⟨(some 43), (some (42, true)), (.mov (.t 5))⟩, ⟨(some 44), (some (42, true)), (.ld (.t 0) none)⟩, ⟨(some 45), (some (42, true)), (.len (.t 44))⟩, ⟨(some 46), (some (42, true)), (.bin .leq (.t 43) (.t 45))⟩, ⟨(some 47), none, (.pick (.t 42) (.t 46) (.c (.bool false)))⟩]) (.cond (.t 47) (.dops false [(0, 55)] [⟨(some 48), none, (.ld (.t 0) none)⟩, ⟨(some 49), none, (.mov (.t 5))⟩, ⟨(some 50), none, (.slc (.t 48) none (some (.t 49)) none 1)⟩, ⟨(some 51), none, (.callq 23 [(.t 50)])⟩, ⟨(some 52), none, (.ld (.t 0) none)⟩, ⟨(some 53), none, (.mov (.t 5))⟩, ⟨(some 54), none, (.slc (.t 52) (some (.t 53)) none none 1)⟩, ⟨(some 55), none, (.fad (.t 1) 4)⟩, ⟨none, none, (.st (.t 55) 1 (.t 51))⟩, ⟨none, none, (.st (.t 0) 1 (.t 54))⟩]) .skip))) (.seq (.dops false [] [⟨(some 56), none, (.ld (.t 1) (some 5))⟩, ⟨(some 57), none, (.ld (.t 1) (some 5))⟩, ⟨(some 58), none, (.callq 69 [(.t 57)])⟩, ⟨none, none, (.st (.t 1) 5 (.t 56))⟩, ⟨(some 2), none, (.mov (.t 58))⟩]) .ret))))))), 59, [(.cell 1 (some 5)), (.tmp 2)]⟩
theorem F_extent_Read_1_ok : compF Tryz.prog (fun _ => true) 72 = some F_extent_Read_1 := by kernel_rfl
@[simp] abbrev n_r07_Same : FuncId := 68
def F_r07_Same : F := ⟨(.seq (.ops [⟨(some 2), none, (.box (.t 0))⟩, ⟨(some 3), none, (.box (.t 1))⟩, ⟨(some 4), none, (.mov (.c (.bool false)))⟩]) (.seq (.ops [⟨(some 5), none, (.fad (.t 2) 0)⟩, ⟨(some 6), none, (.ld (.t 5) none)⟩, ⟨(some 7), none, (.fad (.t 3) 0)⟩, ⟨(some 8), none, (.ld (.t 7) none)⟩, ⟨(some 9), none, (.bin .eql (.t 6) (.t 8))⟩, ⟨(some 10), none, (.mov (.t 9))⟩, ⟨(some 11), (some (10, true)), (.fad (.t 2) 1)⟩, ⟨(some 12), (some (10, true)), (.ld (.t 11) none)⟩, ⟨(some 13), (some (10, true)), (.fad (.t 3) 1)⟩, ⟨(some 14), (some (10, true)), (.ld (.t 13) none)⟩, ⟨(some 15), (some (10, true)), (.bin .eql (.t 12) (.t 14))⟩, ⟨(some 16), none, (.pick (.t 10) (.t 15) (.c (.bool false)))⟩, ⟨(some 17), none, (.mov (.t 16))⟩, ⟨(some 18), (some (17, true)), (.fad (.t 2) 2)⟩, ⟨(some 19), (some (17, true)), (.ld (.t 18) none)⟩, ⟨(some 20), (some (17, true)), (.fad (.t 3) 2)⟩, ⟨(some 21), (some (17, true)), (.ld (.t 20) none)⟩, ⟨(some 22), (some (17, true)), (.bin .eql (.t 19) (.t 21))⟩, ⟨(some 23), none, (.pick (.t 17) (.t 22) (.c (.bool false)))⟩, ⟨(some 24), none, (.mov (.t 23))⟩, ⟨(some 25), (some (24, true)), (.fad (.t 2) 3)⟩, ⟨(some 26), (some (24, true)), (.ld (.t 25) none)⟩, ⟨(some 27), (some (24, true)), (.fad (.t 3) 3)⟩, ⟨(some 28), (some (24, true)), (.ld (.t 27) none)⟩, ⟨(some 29), (some (24, true)), (.bin .eql (.t 26) (.t 28))⟩, ⟨(some 30), none, (.pick (.t 24) (.t 29) (.c (.bool false)))⟩, ⟨(some 31), none, (.mov (.t 30))⟩, ⟨(some 32), (some (31, true)), (.fad (.t 2) 4)⟩, ⟨(some 33), (some (31, true)), (.ld (.t 32) none)⟩, ⟨(some 34), (some (31, true)), (.b2s (.t 33))⟩, ⟨(some 35), (some (31, true)), (.fad (.t 3) 4)⟩, ⟨(some 36), (some (31, true)), (.ld (.t 35) none)⟩, ⟨(some 37), (some (31, true)), (.b2s (.t 36))⟩, ⟨(some 38), (some (31, true)), (.bin .eql (.t 34) (.t 37))⟩, ⟨(some 39), none, (.pick (.t 31) (.t 38) (.c (.bool false)))⟩, ⟨(some 4), none, (.mov (.t 39))⟩]) .ret)), 40, [(.tmp 4)]⟩
theorem F_r07_Same_ok : compF Tryz.prog (fun _ => true) 68 = some F_r07_Same := by kernel_rfl
@[simp] abbrev n_r07_All : FuncId := 34
def F_r07_All_L0 : C := (.seq (.seq (.ops [⟨(some 12), none, (.mov (.t 5))⟩, ⟨(some 13), none, (.mov (.t 0))⟩, ⟨(some 14), none, (.len (.t 13))⟩, ⟨(some 15), none, (.bin .lss (.t 12) (.t 14))⟩]) (.cond (.t 15) .skip (.exit 0))) (.seq (.block 1 (.seq (.dops false [] [⟨(some 18), none, (.mov (.t 0))⟩, ⟨(some 19), none, (.mov (.t 5))⟩, ⟨(some 20), none, (.ixs (.t 18) (.t 19) 5)⟩, ⟨(some 21), none, (.lde (.t 20) (some 5))⟩, ⟨(some 22), none, (.mov (.t 1))⟩, ⟨(some 23), none, (.mov (.t 5))⟩, ⟨(some 24), none, (.ixs (.t 22) (.t 23) 5)⟩, ⟨(some 25), none, (.lde (.t 24) (some 5))⟩, ⟨(some 26), none, (.call 68 [(.t 21), (.t 25)])⟩, ⟨(some 6), none, (.mov (.t 26))⟩]) (.seq (.ops [⟨(some 27), none, (.mov (.t 6))⟩, ⟨(some 28), none, (.un .not (.t 27))⟩]) (.cond (.t 28) (.seq (.ops [⟨(some 4), none, (.mov (.c (.bool false)))⟩]) .ret) .skip)))) (.ops [⟨(some 16), none, (.mov (.t 5))⟩, ⟨(some 17), none, (.bin .add (.t 16) (.c (.int .i64 1)))⟩, ⟨(some 5), none, (.mov (.t 17))⟩])))
def F_r07_All : F := ⟨(.seq (.ops [⟨(some 4), none, (.mov (.c (.bool false)))⟩]) (.seq (.seq (.ops [⟨(some 7), none, (.mov (.t 0))⟩, ⟨(some 8), none, (.len (.t 7))⟩, ⟨(some 9), none, (.mov (.t 1))⟩, ⟨(some 10), none, (.len (.t 9))⟩, ⟨(some 11), none, (.bin .neq (.t 8) (.t 10))⟩]) (.cond (.t 11) (.seq (.ops [⟨(some 4), none, (.mov (.c (.bool false)))⟩]) .ret) .skip)) (.seq (.seq (.ops [⟨(some 5), none, (.mov (.c (.int .i64 0)))⟩]) (.block 0 (.loop F_r07_All_L0))) (.seq (.ops [⟨(some 4), none, (.mov (.c (.bool true)))⟩]) .ret)))), 29, [(.tmp 4)]⟩
theorem F_r07_All_ok : compF Tryz.prog (fun _ => true) 34 = some F_r07_All := by kernel_rfl
end Go.Av

namespace Go.Av
open Go.Proofs

@[simp] abbrev n_extmap_New : FuncId := 36
def F_extmap_New : F := ⟨(.seq (.ops [⟨(some 2), none, (.nil 109 5 true)⟩, ⟨(some 3), none, (.mov (.c (.int .i64 0)))⟩]) (.seq (.seq (.ops [⟨(some 4), none, (.mov (.t 0))⟩, ⟨(some 5), none, (.bin .lss (.t 4) (.c (.int .i64 1)))⟩, ⟨(some 6), none, (.mov (.t 5))⟩, ⟨(some 7), (some (6, false)), (.mov (.t 0))⟩, ⟨(some 8), (some (6, false)), (.bin .gtr (.t 7) (.c (.int .i64 64)))⟩, ⟨(some 9), none, (.pick (.t 6) (.c (.bool true)) (.t 8))⟩]) (.cond (.t 9) (.seq (.ops [⟨(some 2), none, (.nil 109 5 true)⟩, ⟨(some 3), none, (.mov (.c (.int .i64 81)))⟩]) .ret) .skip)) (.seq (.ops [⟨(some 10), none, (.mov (.t 0))⟩, ⟨(some 11), none, (.bld [(.val (.int .i64 0)), (.val (.int .i64 0)), (.val (.int .i64 0)), (.val (.int .i64 0)), (.lit 1 [])] [(1, (1, (.t 10)))])⟩, ⟨(some 12), none, (.mkl 109 5 [(.t 11)] true)⟩, ⟨(some 2), none, (.mov (.t 12))⟩, ⟨(some 3), none, (.mov (.c (.int .i64 0)))⟩]) .ret))), 13, [(.tmp 2), (.tmp 3)]⟩
theorem F_extmap_New_ok : compF Tryz.prog (fun _ => true) 36 = some F_extmap_New := by kernel_rfl
@[simp] abbrev n_extmap_Check : FuncId := 48
def F_extmap_Check_L0 : C := (.seq (.ops [⟨(some 11), none, (.bin .lss (.t 10) (.t 9))⟩]) (.seq (.cond (.t 11) .skip (.exit 0)) (.seq (.block 1 (.seq (.ops [⟨(some 12), none, (.mov (.t 10))⟩, ⟨(some 13), none, (.ixs (.t 8) (.t 10) 5)⟩, ⟨(some 14), none, (.lde (.t 13) (some 5))⟩, ⟨(some 7), none, (.alc [(.val (.int .i64 0)), (.val (.int .i64 0)), (.val (.int .i64 0)), (.val (.int .i64 0)), (.lit 1 [])])⟩, ⟨(some 6), none, (.mov (.t 12))⟩, ⟨none, none, (.st (.t 7) 5 (.t 14))⟩]) (.seq (.seq (.dops false [] [⟨(some 15), none, (.ld (.t 7) (some 5))⟩, ⟨(some 16), none, (.call 69 [(.t 15)])⟩, ⟨(some 17), none, (.un .not (.t 16))⟩, ⟨(some 18), none, (.mov (.t 17))⟩, ⟨(some 19), (some (18, false)), (.fad (.t 7) 0)⟩, ⟨(some 20), (some (18, false)), (.ld (.t 19) none)⟩, ⟨(some 21), (some (18, false)), (.mov (.t 5))⟩, ⟨(some 22), (some (18, false)), (.bin .neq (.t 20) (.t 21))⟩, ⟨(some 23), none, (.pick (.t 18) (.c (.bool true)) (.t 22))⟩, ⟨(some 24), none, (.mov (.t 23))⟩, ⟨(some 25), (some (24, false)), (.mov (.t 6))⟩, ⟨(some 26), (some (24, false)), (.bin .gtr (.t 25) (.c (.int .i64 0)))⟩, ⟨(some 27), (some (24, false)), (.mov (.t 26))⟩, ⟨(some 28), (some (27, true)), (.mov (.t 1))⟩, ⟨(some 29), (some (27, true)), (.mov (.t 6))⟩, ⟨(some 30), (some (27, true)), (.bin .sub (.t 29) (.c (.int .i64 1)))⟩, ⟨(some 31), (some (27, true)), (.ixs (.t 28) (.t 30) 5)⟩, ⟨(some 32), (some (27, true)), (.lde (.t 31) (some 5))⟩, ⟨(some 33), (some (27, true)), (.ld (.t 7) (some 5))⟩, ⟨(some 34), (some (27, true)), (.call 74 [(.t 32), (.t 33)])⟩, ⟨(some 35), (some (24, false)), (.pick (.t 27) (.t 34) (.c (.bool false)))⟩, ⟨(some 36), none, (.pick (.t 24) (.c (.bool true)) (.t 35))⟩]) (.cond (.t 36) (.seq (.ops [⟨(some 4), none, (.mov (.c (.bool false)))⟩]) .ret) .skip)) (.ops [⟨(some 37), none, (.mov (.t 5))⟩, ⟨(some 38), none, (.fad (.t 7) 1)⟩, ⟨(some 39), none, (.ld (.t 38) none)⟩, ⟨(some 40), none, (.bin .add (.t 37) (.t 39))⟩, ⟨(some 5), none, (.mov (.t 40))⟩])))) (.ops [⟨(some 41), none, (.bin .add (.t 10) (.c (.int .i64 1)))⟩, ⟨(some 10), none, (.mov (.t 41))⟩]))))
def F_extmap_Check : F := ⟨(.seq (.ops [⟨(some 4), none, (.mov (.c (.bool false)))⟩]) (.seq (.ops [⟨(some 5), none, (.mov (.c (.int .i64 0)))⟩]) (.seq (.seq (.ops [⟨(some 8), none, (.mov (.t 1))⟩, ⟨(some 9), none, (.len (.t 8))⟩, ⟨(some 10), none, (.mov (.c (.int .i64 0)))⟩]) (.block 0 (.loop F_extmap_Check_L0))) (.seq (.ops [⟨(some 42), none, (.mov (.t 1))⟩, ⟨(some 43), none, (.len (.t 42))⟩, ⟨(some 44), none, (.bin .gtr (.t 43) (.c (.int .i64 0)))⟩, ⟨(some 45), none, (.mov (.t 44))⟩, ⟨(some 46), (some (45, true)), (.mov (.t 5))⟩, ⟨(some 47), (some (45, true)), (.mov (.t 0))⟩, ⟨(some 48), (some (45, true)), (.bin .eql (.t 46) (.t 47))⟩, ⟨(some 49), none, (.pick (.t 45) (.t 48) (.c (.bool false)))⟩, ⟨(some 4), none, (.mov (.t 49))⟩]) .ret)))), 50, [(.tmp 4)]⟩
theorem F_extmap_Check_ok : compF Tryz.prog (fun _ => true) 48 = some F_extmap_Check := by kernel_rfl
@[simp] abbrev n_slices_ContainsFunc_Extent : FuncId := 49
def F_slices_ContainsFunc_Extent : F := ⟨(.seq (.ops [⟨(some 4), none, (.mov (.c (.bool false)))⟩]) (.seq (.ops [⟨(some 5), none, (.mov (.t 0))⟩, ⟨(some 6), none, (.mov (.t 1))⟩, ⟨(some 7), none, (.call 75 [(.t 5), (.t 6)])⟩, ⟨(some 8), none, (.bin .geq (.t 7) (.c (.int .i64 0)))⟩, ⟨(some 4), none, (.mov (.t 8))⟩]) .ret)), 9, [(.tmp 4)]⟩
theorem F_slices_ContainsFunc_Extent_ok : compF Tryz.prog (fun _ => true) 49 = some F_slices_ContainsFunc_Extent := by kernel_rfl
@[simp] abbrev n_slices_IndexFunc_Extent : FuncId := 75
def F_slices_IndexFunc_Extent_L0 : C := (.seq (.ops [⟨(some 9), none, (.bin .lss (.t 8) (.t 7))⟩]) (.seq (.cond (.t 9) .skip (.exit 0)) (.seq (.block 1 (.seq (.ops [⟨(some 10), none, (.mov (.t 8))⟩, ⟨(some 5), none, (.mov (.t 10))⟩]) (.seq (.ops [⟨(some 11), none, (.mov (.t 1))⟩, ⟨(some 12), none, (.mov (.t 0))⟩, ⟨(some 13), none, (.mov (.t 5))⟩, ⟨(some 14), none, (.ixs (.t 12) (.t 13) 5)⟩, ⟨(some 15), none, (.lde (.t 14) (some 5))⟩, ⟨(some 16), none, (.callv (.t 11) [(.t 15)])⟩]) (.cond (.t 16) (.seq (.ops [⟨(some 17), none, (.mov (.t 5))⟩, ⟨(some 4), none, (.mov (.t 17))⟩]) .ret) .skip)))) (.ops [⟨(some 18), none, (.bin .add (.t 8) (.c (.int .i64 1)))⟩, ⟨(some 8), none, (.mov (.t 18))⟩]))))
def F_slices_IndexFunc_Extent : F := ⟨(.seq (.ops [⟨(some 4), none, (.mov (.c (.int .i64 0)))⟩]) (.seq (.seq (.ops [⟨(some 6), none, (.mov (.t 0))⟩, ⟨(some 7), none, (.len (.t 6))⟩, ⟨(some 8), none, (.mov (.c (.int .i64 0)))⟩]) (.block 0 (.loop F_slices_IndexFunc_Extent_L0))) (.seq (.ops [⟨(some 4), none, (.mov (.c (.int .i64 (-1))))⟩]) .ret))), 19, [(.tmp 4)]⟩
theorem F_slices_IndexFunc_Extent_ok : compF Tryz.prog (fun _ => true) 75 = some F_slices_IndexFunc_Extent := by kernel_rfl
@[simp] abbrev n_state_within : FuncId := 20
def F_state_within : F := ⟨(.seq (.ops [⟨(some 6), none, (.mov (.c (.bool false)))⟩]) (.seq (.ops [⟨(some 7), none, (.mov (.t 0))⟩, ⟨(some 8), none, (.mov (.t 1))⟩, ⟨(some 9), none, (.bin .geq (.t 7) (.t 8))⟩, ⟨(some 10), none, (.mov (.t 9))⟩, ⟨(some 11), (some (10, true)), (.mov (.t 0))⟩, ⟨(some 12), (some (10, true)), (.mov (.t 2))⟩, ⟨(some 13), (some (10, true)), (.bin .leq (.t 11) (.t 12))⟩, ⟨(some 14), none, (.pick (.t 10) (.t 13) (.c (.bool false)))⟩, ⟨(some 6), none, (.mov (.t 14))⟩]) .ret)), 15, [(.tmp 6)]⟩
theorem F_state_within_ok : compF Tryz.prog (fun _ => true) 20 = some F_state_within := by kernel_rfl
@[simp] abbrev n_state_upto : FuncId := 19
def F_state_upto : F := ⟨(.seq (.ops [⟨(some 5), none, (.box (.t 2))⟩, ⟨(some 6), none, (.mov (.c (.bool false)))⟩]) (.seq (.ops [⟨(some 7), none, (.mov (.t 0))⟩, ⟨(some 8), none, (.mov (.t 1))⟩, ⟨(some 9), none, (.call 48 [(.t 7), (.t 8)])⟩, ⟨(some 10), none, (.mov (.t 9))⟩, ⟨(some 11), (some (10, true)), (.mov (.t 1))⟩, ⟨(some 12), (some (10, true)), (.mkf 50 [(.t 5)])⟩, ⟨(some 13), (some (10, true)), (.call 49 [(.t 11), (.t 12)])⟩, ⟨(some 14), (some (10, true)), (.un .not (.t 13))⟩, ⟨(some 15), none, (.pick (.t 10) (.t 14) (.c (.bool false)))⟩, ⟨(some 6), none, (.mov (.t 15))⟩]) .ret)), 16, [(.tmp 6)]⟩
theorem F_state_upto_ok : compF Tryz.prog (fun _ => true) 19 = some F_state_upto := by kernel_rfl
@[simp] abbrev n_state_upto_1 : FuncId := 50
def F_state_upto_1 : F := ⟨(.seq (.ops [⟨(some 2), none, (.box (.t 0))⟩, ⟨(some 3), none, (.mov (.c (.bool false)))⟩]) (.seq (.ops [⟨(some 4), none, (.fad (.t 2) 3)⟩, ⟨(some 5), none, (.ld (.t 4) none)⟩, ⟨(some 6), none, (.ld (.t 1) none)⟩, ⟨(some 7), none, (.bin .gtr (.t 5) (.t 6))⟩, ⟨(some 3), none, (.mov (.t 7))⟩]) .ret)), 8, [(.tmp 3)]⟩
theorem F_state_upto_1_ok : compF Tryz.prog (fun _ => true) 50 = some F_state_upto_1 := by kernel_rfl
@[simp] abbrev n_state_kept : FuncId := 21
def F_state_kept_L0 : C := (.seq (.ops [⟨(some 28), none, (.bin .lss (.t 27) (.t 26))⟩]) (.seq (.cond (.t 28) .skip (.exit 2)) (.seq (.block 3 (.seq (.ops [⟨(some 29), none, (.ixs (.t 25) (.t 27) 5)⟩, ⟨(some 30), none, (.lde (.t 29) (some 5))⟩, ⟨(some 10), none, (.alc [(.val (.int .i64 0)), (.val (.int .i64 0)), (.val (.int .i64 0)), (.val (.int .i64 0)), (.lit 1 [])])⟩, ⟨none, none, (.st (.t 10) 5 (.t 30))⟩]) (.seq (.ops [⟨(some 32), none, (.ld (.t 10) (some 5))⟩, ⟨(some 33), none, (.fad (.t 8) 0)⟩, ⟨(some 34), none, (.ld (.t 33) none)⟩, ⟨(some 35), none, (.fad (.t 8) 1)⟩, ⟨(some 36), none, (.ld (.t 35) none)⟩, ⟨(some 37), none, (.call 51 [(.t 32), (.t 34), (.t 36)])⟩, ⟨(some 31), none, (.mov (.t 37))⟩, ⟨(some 38), none, (.ext (.t 31) 0)⟩, ⟨(some 39), none, (.ext (.t 31) 1)⟩, ⟨(some 11), none, (.alc [(.val (.int .i64 0)), (.val (.int .i64 0)), (.val (.int .i64 0)), (.val (.int .i64 0)), (.lit 1 [])])⟩, ⟨none, none, (.st (.t 11) 5 (.t 38))⟩, ⟨(some 12), none, (.mov (.t 39))⟩]) (.seq (.seq (.ops [⟨(some 40), none, (.mov (.t 12))⟩, ⟨(some 41), none, (.un .not (.t 40))⟩]) (.cond (.t 41) (.exit 3) .skip)) (.seq (.ops [⟨(some 43), none, (.ld (.t 8) (some 5))⟩, ⟨(some 44), none, (.fad (.t 11) 0)⟩, ⟨(some 45), none, (.ld (.t 44) none)⟩, ⟨(some 46), none, (.fad (.t 11) 1)⟩, ⟨(some 47), none, (.ld (.t 46) none)⟩, ⟨(some 48), none, (.call 51 [(.t 43), (.t 45), (.t 47)])⟩, ⟨(some 42), none, (.mov (.t 48))⟩, ⟨(some 49), none, (.ext (.t 42) 0)⟩, ⟨(some 50), none, (.ext (.t 42) 1)⟩, ⟨(some 13), none, (.alc [(.val (.int .i64 0)), (.val (.int .i64 0)), (.val (.int .i64 0)), (.val (.int .i64 0)), (.lit 1 [])])⟩, ⟨none, none, (.st (.t 13) 5 (.t 49))⟩, ⟨(some 14), none, (.mov (.t 50))⟩]) (.seq (.ops [⟨(some 51), none, (.fad (.t 13) 2)⟩, ⟨(some 52), none, (.ld (.t 51) none)⟩, ⟨(some 53), none, (.fad (.t 11) 2)⟩, ⟨(some 54), none, (.ld (.t 53) none)⟩, ⟨(some 55), none, (.bin .neq (.t 52) (.t 54))⟩, ⟨(some 56), none, (.mov (.t 55))⟩, ⟨(some 57), (some (56, false)), (.fad (.t 13) 3)⟩, ⟨(some 58), (some (56, false)), (.ld (.t 57) none)⟩, ⟨(some 59), (some (56, false)), (.fad (.t 11) 3)⟩, ⟨(some 60), (some (56, false)), (.ld (.t 59) none)⟩, ⟨(some 61), (some (56, false)), (.bin .neq (.t 58) (.t 60))⟩, ⟨(some 62), none, (.pick (.t 56) (.c (.bool true)) (.t 61))⟩, ⟨(some 63), none, (.mov (.t 62))⟩, ⟨(some 64), (some (63, false)), (.fad (.t 13) 4)⟩, ⟨(some 65), (some (63, false)), (.ld (.t 64) none)⟩, ⟨(some 66), (some (63, false)), (.fad (.t 11) 4)⟩, ⟨(some 67), (some (63, false)), (.ld (.t 66) none)⟩, ⟨(some 68), (some (63, false)), (.call 52 [(.t 65), (.t 67)])⟩, ⟨(some 69), (some (63, false)), (.un .not (.t 68))⟩, ⟨(some 70), none, (.pick (.t 63) (.c (.bool true)) (.t 69))⟩]) (.cond (.t 70) (.seq (.ops [⟨(some 6), none, (.mov (.c (.bool false)))⟩]) .ret) .skip))))))) (.ops [⟨(some 71), none, (.bin .add (.t 27) (.c (.int .i64 1)))⟩, ⟨(some 27), none, (.mov (.t 71))⟩]))))
def F_state_kept_L1 : C := (.seq (.ops [⟨(some 18), none, (.bin .lss (.t 17) (.t 16))⟩]) (.seq (.cond (.t 18) .skip (.exit 0)) (.seq (.block 1 (.seq (.ops [⟨(some 19), none, (.ixs (.t 15) (.t 17) 5)⟩, ⟨(some 20), none, (.lde (.t 19) (some 5))⟩, ⟨(some 8), none, (.alc [(.val (.int .i64 0)), (.val (.int .i64 0)), (.val (.int .i64 0)), (.val (.int .i64 0)), (.lit 1 [])])⟩, ⟨none, none, (.st (.t 8) 5 (.t 20))⟩]) (.seq (.seq (.ops [⟨(some 21), none, (.fad (.t 8) 3)⟩, ⟨(some 22), none, (.ld (.t 21) none)⟩, ⟨(some 23), none, (.mov (.t 2))⟩, ⟨(some 24), none, (.bin .gtr (.t 22) (.t 23))⟩]) (.cond (.t 24) (.exit 1) .skip)) (.seq (.ops [⟨(some 25), none, (.mov (.t 0))⟩, ⟨(some 26), none, (.len (.t 25))⟩, ⟨(some 27), none, (.mov (.c (.int .i64 0)))⟩]) (.block 2 (.loop F_state_kept_L0)))))) (.ops [⟨(some 72), none, (.bin .add (.t 17) (.c (.int .i64 1)))⟩, ⟨(some 17), none, (.mov (.t 72))⟩]))))
def F_state_kept : F := ⟨(.seq (.ops [⟨(some 6), none, (.mov (.c (.bool false)))⟩]) (.seq (.seq (.ops [⟨(some 15), none, (.mov (.t 1))⟩, ⟨(some 16), none, (.len (.t 15))⟩, ⟨(some 17), none, (.mov (.c (.int .i64 0)))⟩]) (.block 0 (.loop F_state_kept_L1))) (.seq (.ops [⟨(some 6), none, (.mov (.c (.bool true)))⟩]) .ret))), 73, [(.tmp 6)]⟩
theorem F_state_kept_ok : compF Tryz.prog (fun _ => true) 21 = some F_state_kept := by kernel_rfl
@[simp] abbrev n_state_Check : FuncId := 6
def F_state_Check_L0 : C := (.seq (.ops [⟨(some 40), none, (.bin .lss (.t 39) (.t 38))⟩]) (.seq (.cond (.t 40) .skip (.exit 0)) (.seq (.block 1 (.seq (.ops [⟨(some 41), none, (.ixs (.t 37) (.t 39) 3)⟩, ⟨(some 42), none, (.lde (.t 41) (some 3))⟩, ⟨(some 6), none, (.alc [(.val (.int .i64 0)), (.val (.int .i64 0)), (.lit 5 [])])⟩, ⟨none, none, (.st (.t 6) 3 (.t 42))⟩]) (.seq (.ops [⟨(some 43), none, (.mov (.t 3))⟩, ⟨(some 44), none, (.mov (.t 43))⟩, ⟨(some 45), (some (44, true)), (.fad (.t 1) 0)⟩, ⟨(some 46), (some (44, true)), (.ld (.t 45) none)⟩, ⟨(some 47), (some (44, true)), (.fad (.t 6) 2)⟩, ⟨(some 48), (some (44, true)), (.ld (.t 47) none)⟩, ⟨(some 49), (some (44, true)), (.fad (.t 6) 1)⟩, ⟨(some 50), (some (44, true)), (.ld (.t 49) none)⟩, ⟨(some 51), (some (44, true)), (.call 19 [(.t 46), (.t 48), (.t 50)])⟩, ⟨(some 52), none, (.pick (.t 44) (.t 51) (.c (.bool false)))⟩, ⟨(some 53), none, (.mov (.t 52))⟩, ⟨(some 54), (some (53, true)), (.fad (.t 6) 0)⟩, ⟨(some 55), (some (53, true)), (.ld (.t 54) none)⟩, ⟨(some 56), (some (53, true)), (.fad (.t 4) 0)⟩, ⟨(some 57), (some (53, true)), (.ld (.t 56) none)⟩, ⟨(some 58), (some (53, true)), (.bin .gtr (.t 55) (.t 57))⟩, ⟨(some 59), none, (.pick (.t 53) (.t 58) (.c (.bool false)))⟩, ⟨(some 60), none, (.mov (.t 59))⟩, ⟨(some 61), (some (60, true)), (.fad (.t 6) 0)⟩, ⟨(some 62), (some (60, true)), (.ld (.t 61) none)⟩, ⟨(some 63), (some (60, true)), (.fad (.t 1) 4)⟩, ⟨(some 64), (some (60, true)), (.ld (.t 63) none)⟩, ⟨(some 65), (some (60, true)), (.bin .leq (.t 62) (.t 64))⟩, ⟨(some 66), none, (.pick (.t 60) (.t 65) (.c (.bool false)))⟩, ⟨(some 67), none, (.mov (.t 66))⟩, ⟨(some 68), (some (67, true)), (.fad (.t 6) 1)⟩, ⟨(some 69), (some (67, true)), (.ld (.t 68) none)⟩, ⟨(some 70), (some (67, true)), (.fad (.t 4) 1)⟩, ⟨(some 71), (some (67, true)), (.ld (.t 70) none)⟩, ⟨(some 72), (some (67, true)), (.bin .gtr (.t 69) (.t 71))⟩, ⟨(some 73), none, (.pick (.t 67) (.t 72) (.c (.bool false)))⟩, ⟨(some 74), none, (.mov (.t 73))⟩, ⟨(some 75), (some (74, true)), (.fad (.t 6) 1)⟩, ⟨(some 76), (some (74, true)), (.ld (.t 75) none)⟩, ⟨(some 77), (some (74, true)), (.fad (.t 1) 1)⟩, ⟨(some 78), (some (74, true)), (.ld (.t 77) none)⟩, ⟨(some 79), (some (74, true)), (.bin .lss (.t 76) (.t 78))⟩, ⟨(some 80), none, (.pick (.t 74) (.t 79) (.c (.bool false)))⟩, ⟨(some 81), none, (.mov (.t 80))⟩, ⟨(some 82), (some (81, true)), (.fad (.t 4) 2)⟩, ⟨(some 83), (some (81, true)), (.ld (.t 82) none)⟩, ⟨(some 84), (some (81, true)), (.fad (.t 6) 2)⟩, ⟨(some 85), (some (81, true)), (.ld (.t 84) none)⟩, ⟨(some 86), (some (81, true)), (.fad (.t 4) 1)⟩, ⟨(some 87), (some (81, true)), (.ld (.t 86) none)⟩, ⟨(some 88), (some (81, true)), (.call 21 [(.t 83), (.t 85), (.t 87)])⟩, ⟨(some 89), none, (.pick (.t 81) (.t 88) (.c (.bool false)))⟩, ⟨(some 3), none, (.mov (.t 89))⟩]) (.ops [⟨(some 90), none, (.ld (.t 6) (some 3))⟩, ⟨none, none, (.st (.t 4) 3 (.t 90))⟩])))) (.ops [⟨(some 91), none, (.bin .add (.t 39) (.c (.int .i64 1)))⟩, ⟨(some 39), none, (.mov (.t 91))⟩]))))
def F_state_Check : F := ⟨(.seq (.ops [⟨(some 1), none, (.box (.t 0))⟩, ⟨(some 2), none, (.mov (.c (.int .i64 0)))⟩]) (.seq (.ops [⟨(some 7), none, (.fad (.t 1) 0)⟩, ⟨(some 8), none, (.ld (.t 7) none)⟩, ⟨(some 9), none, (.fad (.t 1) 2)⟩, ⟨(some 10), none, (.ld (.t 9) none)⟩, ⟨(some 11), none, (.fad (.t 1) 1)⟩, ⟨(some 12), none, (.ld (.t 11) none)⟩, ⟨(some 13), none, (.call 19 [(.t 8), (.t 10), (.t 12)])⟩, ⟨(some 14), none, (.mov (.t 13))⟩, ⟨(some 15), (some (14, true)), (.fad (.t 1) 1)⟩, ⟨(some 16), (some (14, true)), (.ld (.t 15) none)⟩, ⟨(some 17), (some (14, true)), (.call 20 [(.t 16), (.c (.int .i64 1)), (.c (.int .i64 2147483647))])⟩, ⟨(some 18), none, (.pick (.t 14) (.t 17) (.c (.bool false)))⟩, ⟨(some 19), none, (.mov (.t 18))⟩, ⟨(some 20), (some (19, true)), (.fad (.t 1) 3)⟩, ⟨(some 21), (some (19, true)), (.ld (.t 20) none)⟩, ⟨(some 22), (some (19, true)), (.len (.t 21))⟩, ⟨(some 23), (some (19, true)), (.bin .leq (.t 22) (.c (.int .i64 4)))⟩, ⟨(some 24), none, (.pick (.t 19) (.t 23) (.c (.bool false)))⟩, ⟨(some 25), none, (.mov (.t 24))⟩, ⟨(some 26), (some (25, true)), (.fad (.t 1) 4)⟩, ⟨(some 27), (some (25, true)), (.ld (.t 26) none)⟩, ⟨(some 28), (some (25, true)), (.call 20 [(.t 27), (.c (.int .i64 0)), (.c (.int .i64 2147483647))])⟩, ⟨(some 29), none, (.pick (.t 25) (.t 28) (.c (.bool false)))⟩, ⟨(some 30), none, (.mov (.t 29))⟩, ⟨(some 31), (some (30, true)), (.fad (.t 1) 5)⟩, ⟨(some 32), (some (30, true)), (.ld (.t 31) none)⟩, ⟨(some 33), (some (30, true)), (.len (.t 32))⟩, ⟨(some 34), (some (30, true)), (.bin .leq (.t 33) (.c (.int .i64 4000)))⟩, ⟨(some 35), none, (.pick (.t 30) (.t 34) (.c (.bool false)))⟩, ⟨(some 3), none, (.mov (.t 35))⟩]) (.seq (.ops [⟨(some 4), none, (.alc [(.val (.int .i64 0)), (.val (.int .i64 0)), (.lit 5 [])])⟩]) (.seq (.seq (.ops [⟨(some 36), none, (.fad (.t 1) 3)⟩, ⟨(some 37), none, (.ld (.t 36) none)⟩, ⟨(some 38), none, (.len (.t 37))⟩, ⟨(some 39), none, (.mov (.c (.int .i64 0)))⟩]) (.block 0 (.loop F_state_Check_L0))) (.seq (.seq (.ops [⟨(some 92), none, (.mov (.t 3))⟩, ⟨(some 93), none, (.un .not (.t 92))⟩, ⟨(some 94), none, (.mov (.t 93))⟩, ⟨(some 95), (some (94, false)), (.fad (.t 4) 2)⟩, ⟨(some 96), (some (94, false)), (.ld (.t 95) none)⟩, ⟨(some 97), (some (94, false)), (.fad (.t 1) 2)⟩, ⟨(some 98), (some (94, false)), (.ld (.t 97) none)⟩, ⟨(some 99), (some (94, false)), (.fad (.t 4) 1)⟩, ⟨(some 100), (some (94, false)), (.ld (.t 99) none)⟩, ⟨(some 101), (some (94, false)), (.call 21 [(.t 96), (.t 98), (.t 100)])⟩, ⟨(some 102), (some (94, false)), (.un .not (.t 101))⟩, ⟨(some 103), none, (.pick (.t 94) (.c (.bool true)) (.t 102))⟩]) (.cond (.t 103) (.seq (.ops [⟨(some 2), none, (.mov (.c (.int .i64 110)))⟩]) .ret) .skip)) (.seq (.ops [⟨(some 2), none, (.mov (.c (.int .i64 0)))⟩]) .ret)))))), 104, [(.tmp 2)]⟩
theorem F_state_Check_ok : compF Tryz.prog (fun _ => true) 6 = some F_state_Check := by kernel_rfl
@[simp] abbrev n_state_New : FuncId := 14
def F_state_New : F := ⟨(.seq (.ops [⟨(some 2), none, (.alc [(.val (.int .i64 0)), (.val (.int .i64 0)), (.lit 5 []), (.lit 3 []), (.val (.int .i64 0)), (.lit 1 [])])⟩, ⟨(some 3), none, (.mov (.c (.int .i64 0)))⟩]) (.seq (.ops [⟨(some 7), none, (.mov (.t 0))⟩, ⟨(some 8), none, (.call 36 [(.t 7)])⟩, ⟨(some 6), none, (.mov (.t 8))⟩, ⟨(some 9), none, (.ext (.t 6) 0)⟩, ⟨(some 10), none, (.ext (.t 6) 1)⟩, ⟨(some 4), none, (.mov (.t 9))⟩, ⟨(some 5), none, (.mov (.t 10))⟩]) (.seq (.seq (.ops [⟨(some 11), none, (.mov (.t 5))⟩, ⟨(some 12), none, (.bin .neq (.t 11) (.c (.int .i64 0)))⟩]) (.cond (.t 12) (.seq (.ops [⟨(some 13), none, (.bld [(.val (.int .i64 0)), (.val (.int .i64 0)), (.lit 5 []), (.lit 3 []), (.val (.int .i64 0)), (.lit 1 [])] [])⟩, ⟨(some 14), none, (.mov (.t 5))⟩, ⟨none, none, (.st (.t 2) 6 (.t 13))⟩, ⟨(some 3), none, (.mov (.t 14))⟩]) .ret) .skip)) (.seq (.ops [⟨(some 15), none, (.mov (.t 0))⟩, ⟨(some 16), none, (.mov (.t 4))⟩, ⟨(some 17), none, (.bld [(.val (.int .i64 0)), (.val (.int .i64 0)), (.lit 5 []), (.lit 3 []), (.val (.int .i64 0)), (.lit 1 [])] [(0, (1, (.t 15))), (1, (1, (.c (.int .i64 1)))), (2, (1, (.t 16)))])⟩, ⟨none, none, (.st (.t 2) 6 (.t 17))⟩, ⟨(some 3), none, (.mov (.c (.int .i64 0)))⟩]) .ret)))), 18, [(.cell 2 (some 6)), (.tmp 3)]⟩
theorem F_state_New_ok : compF Tryz.prog (fun _ => true) 14 = some F_state_New := by kernel_rfl
@[simp] abbrev n_r11_Points : FuncId := 35
def F_r11_Points : F := ⟨(.seq (.ops [⟨(some 2), none, (.box (.t 0))⟩, ⟨(some 3), none, (.box (.t 1))⟩, ⟨(some 4), none, (.mov (.c (.bool false)))⟩]) (.seq (.ops [⟨(some 6), none, (.fad (.t 2) 2)⟩, ⟨(some 7), none, (.ld (.t 6) none)⟩, ⟨(some 8), none, (.fad (.t 3) 2)⟩, ⟨(some 9), none, (.ld (.t 8) none)⟩, ⟨(some 10), none, (.call 34 [(.t 7), (.t 9)])⟩, ⟨(some 5), none, (.mov (.t 10))⟩]) (.seq (.ops [⟨(some 11), none, (.fad (.t 2) 0)⟩, ⟨(some 12), none, (.ld (.t 11) none)⟩, ⟨(some 13), none, (.fad (.t 3) 0)⟩, ⟨(some 14), none, (.ld (.t 13) none)⟩, ⟨(some 15), none, (.bin .eql (.t 12) (.t 14))⟩, ⟨(some 16), none, (.mov (.t 15))⟩, ⟨(some 17), (some (16, true)), (.fad (.t 2) 1)⟩, ⟨(some 18), (some (16, true)), (.ld (.t 17) none)⟩, ⟨(some 19), (some (16, true)), (.fad (.t 3) 1)⟩, ⟨(some 20), (some (16, true)), (.ld (.t 19) none)⟩, ⟨(some 21), (some (16, true)), (.bin .eql (.t 18) (.t 20))⟩, ⟨(some 22), none, (.pick (.t 16) (.t 21) (.c (.bool false)))⟩, ⟨(some 23), none, (.mov (.t 22))⟩, ⟨(some 24), (some (23, true)), (.mov (.t 5))⟩, ⟨(some 25), none, (.pick (.t 23) (.t 24) (.c (.bool false)))⟩, ⟨(some 4), none, (.mov (.t 25))⟩]) .ret))), 26, [(.tmp 4)]⟩
theorem F_r11_Points_ok : compF Tryz.prog (fun _ => true) 35 = some F_r11_Points := by kernel_rfl
@[simp] abbrev n_r11_Same : FuncId := 12
def F_r11_Same_L0 : C := (.seq (.seq (.ops [⟨(some 54), none, (.mov (.t 6))⟩, ⟨(some 55), none, (.fad (.t 2) 3)⟩, ⟨(some 56), none, (.ld (.t 55) none)⟩, ⟨(some 57), none, (.len (.t 56))⟩, ⟨(some 58), none, (.bin .lss (.t 54) (.t 57))⟩]) (.cond (.t 58) .skip (.exit 0))) (.seq (.block 1 (.seq (.dops false [] [⟨(some 61), none, (.fad (.t 2) 3)⟩, ⟨(some 62), none, (.ld (.t 61) none)⟩, ⟨(some 63), none, (.mov (.t 6))⟩, ⟨(some 64), none, (.ixs (.t 62) (.t 63) 3)⟩, ⟨(some 65), none, (.lde (.t 64) (some 3))⟩, ⟨(some 66), none, (.fad (.t 3) 3)⟩, ⟨(some 67), none, (.ld (.t 66) none)⟩, ⟨(some 68), none, (.mov (.t 6))⟩, ⟨(some 69), none, (.ixs (.t 67) (.t 68) 3)⟩, ⟨(some 70), none, (.lde (.t 69) (some 3))⟩, ⟨(some 71), none, (.call 35 [(.t 65), (.t 70)])⟩, ⟨(some 7), none, (.mov (.t 71))⟩]) (.seq (.ops [⟨(some 72), none, (.mov (.t 7))⟩, ⟨(some 73), none, (.un .not (.t 72))⟩]) (.cond (.t 73) (.seq (.ops [⟨(some 4), none, (.mov (.c (.bool false)))⟩]) .ret) .skip)))) (.ops [⟨(some 59), none, (.mov (.t 6))⟩, ⟨(some 60), none, (.bin .add (.t 59) (.c (.int .i64 1)))⟩, ⟨(some 6), none, (.mov (.t 60))⟩])))
def F_r11_Same : F := ⟨(.seq (.ops [⟨(some 2), none, (.box (.t 0))⟩, ⟨(some 3), none, (.box (.t 1))⟩, ⟨(some 4), none, (.mov (.c (.bool false)))⟩]) (.seq (.ops [⟨(some 8), none, (.fad (.t 2) 2)⟩, ⟨(some 9), none, (.ld (.t 8) none)⟩, ⟨(some 10), none, (.fad (.t 3) 2)⟩, ⟨(some 11), none, (.ld (.t 10) none)⟩, ⟨(some 12), none, (.call 34 [(.t 9), (.t 11)])⟩, ⟨(some 5), none, (.mov (.t 12))⟩]) (.seq (.seq (.ops [⟨(some 13), none, (.mov (.t 5))⟩, ⟨(some 14), none, (.un .not (.t 13))⟩, ⟨(some 15), none, (.mov (.t 14))⟩, ⟨(some 16), (some (15, false)), (.fad (.t 2) 0)⟩, ⟨(some 17), (some (15, false)), (.ld (.t 16) none)⟩, ⟨(some 18), (some (15, false)), (.fad (.t 3) 0)⟩, ⟨(some 19), (some (15, false)), (.ld (.t 18) none)⟩, ⟨(some 20), (some (15, false)), (.bin .neq (.t 17) (.t 19))⟩, ⟨(some 21), none, (.pick (.t 15) (.c (.bool true)) (.t 20))⟩, ⟨(some 22), none, (.mov (.t 21))⟩, ⟨(some 23), (some (22, false)), (.fad (.t 2) 1)⟩, ⟨(some 24), (some (22, false)), (.ld (.t 23) none)⟩, ⟨(some 25), (some (22, false)), (.fad (.t 3) 1)⟩, ⟨(some 26), (some (22, false)), (.ld (.t 25) none)⟩, ⟨(some 27), (some (22, false)), (.bin .neq (.t 24) (.t 26))⟩, ⟨(some 28), none, (.pick (.t 22) (.c (.bool true)) (.t 27))⟩, ⟨(some 29), none, (.mov (.t 28))⟩, ⟨(some 30), (some (29, false)), (.fad (.t 2) 4)⟩, ⟨(some 31), (some (29, false)), (.ld (.t 30) none)⟩, ⟨(some 32), (some (29, false)), (.fad (.t 3) 4)⟩, ⟨(some 33), (some (29, false)), (.ld (.t 32) none)⟩, ⟨(some 34), (some (29, false)), (.bin .neq (.t 31) (.t 33))⟩, ⟨(some 35), none, (.pick (.t 29) (.c (.bool true)) (.t 34))⟩, ⟨(some 36), none, (.mov (.t 35))⟩, ⟨(some 37), (some (36, false)), (.fad (.t 2) 5)⟩, ⟨(some 38), (some (36, false)), (.ld (.t 37) none)⟩, ⟨(some 39), (some (36, false)), (.b2s (.t 38))⟩, ⟨(some 40), (some (36, false)), (.fad (.t 3) 5)⟩, ⟨(some 41), (some (36, false)), (.ld (.t 40) none)⟩, ⟨(some 42), (some (36, false)), (.b2s (.t 41))⟩, ⟨(some 43), (some (36, false)), (.bin .neq (.t 39) (.t 42))⟩, ⟨(some 44), none, (.pick (.t 36) (.c (.bool true)) (.t 43))⟩, ⟨(some 45), none, (.mov (.t 44))⟩, ⟨(some 46), (some (45, false)), (.fad (.t 2) 3)⟩, ⟨(some 47), (some (45, false)), (.ld (.t 46) none)⟩, ⟨(some 48), (some (45, false)), (.len (.t 47))⟩, ⟨(some 49), (some (45, false)), (.fad (.t 3) 3)⟩, ⟨(some 50), (some (45, false)), (.ld (.t 49) none)⟩, ⟨(some 51), (some (45, false)), (.len (.t 50))⟩, ⟨(some 52), (some (45, false)), (.bin .neq (.t 48) (.t 51))⟩, ⟨(some 53), none, (.pick (.t 45) (.c (.bool true)) (.t 52))⟩]) (.cond (.t 53) (.seq (.ops [⟨(some 4), none, (.mov (.c (.bool false)))⟩]) .ret) .skip)) (.seq (.seq (.ops [⟨(some 6), none, (.mov (.c (.int .i64 0)))⟩]) (.block 0 (.loop F_r11_Same_L0))) (.seq (.ops [⟨(some 4), none, (.mov (.c (.bool true)))⟩]) .ret))))), 74, [(.tmp 4)]⟩
theorem F_r11_Same_ok : compF Tryz.prog (fun _ => true) 12 = some F_r11_Same := by kernel_rfl
end Go.Av

namespace Go.Av
open Go.Proofs

@[simp] abbrev n_snap_Write : FuncId := 15
def F_snap_Write_L0 : C := (.seq (.ops [⟨(some 53), none, (.bin .lss (.t 52) (.t 51))⟩]) (.seq (.cond (.t 53) .skip (.exit 0)) (.seq (.block 1 (.seq (.ops [⟨(some 54), none, (.ixs (.t 50) (.t 52) 3)⟩, ⟨(some 55), none, (.lde (.t 54) (some 3))⟩, ⟨(some 10), none, (.alc [(.val (.int .i64 0)), (.val (.int .i64 0)), (.lit 5 [])])⟩, ⟨none, none, (.st (.t 10) 3 (.t 55))⟩]) (.seq (.dops false [] [⟨(some 56), none, (.ld (.t 7) none)⟩, ⟨(some 57), none, (.fad (.t 10) 0)⟩, ⟨(some 58), none, (.ld (.t 57) none)⟩, ⟨(some 59), none, (.conv .u64 (.t 58))⟩, ⟨(some 60), none, (.fad (.t 10) 1)⟩, ⟨(some 61), none, (.ld (.t 60) none)⟩, ⟨(some 62), none, (.conv .u64 (.t 61))⟩, ⟨(some 63), none, (.mkl 69 1 [(.t 59), (.t 62)] true)⟩, ⟨(some 64), none, (.callq 40 [(.c (.string ⟨#[119, 119]⟩)), (.t 63)])⟩, ⟨(some 65), none, (.ext (.t 64) 0)⟩, ⟨(some 66), none, (.ext (.t 64) 1)⟩, ⟨(some 67), none, (.callv (.t 56) [(.t 65), (.t 66)])⟩]) (.ops [⟨(some 68), none, (.mov (.t 8))⟩, ⟨(some 69), none, (.fad (.t 10) 2)⟩, ⟨(some 70), none, (.ld (.t 69) none)⟩, ⟨(some 71), none, (.callv (.t 68) [(.t 70)])⟩])))) (.ops [⟨(some 72), none, (.bin .add (.t 52) (.c (.int .i64 1)))⟩, ⟨(some 52), none, (.mov (.t 72))⟩]))))
def F_snap_Write : F := ⟨(.seq (.ops [⟨(some 1), none, (.box (.t 0))⟩, ⟨(some 2), none, (.nil 5 1 true)⟩, ⟨(some 3), none, (.mov (.c (.int .i64 0)))⟩]) (.seq (.seq (.ops [⟨(some 11), none, (.ld (.t 1) (some 6))⟩, ⟨(some 12), none, (.call 6 [(.t 11)])⟩, ⟨(some 4), none, (.mov (.t 12))⟩]) (.seq (.ops [⟨(some 13), none, (.mov (.t 4))⟩, ⟨(some 14), none, (.bin .neq (.t 13) (.c (.int .i64 0)))⟩]) (.cond (.t 14) (.seq (.ops [⟨(some 15), none, (.mov (.t 4))⟩, ⟨(some 2), none, (.nil 5 1 true)⟩, ⟨(some 3), none, (.mov (.t 15))⟩]) .ret) .skip))) (.seq (.ops [⟨(some 5), none, (.alr 5 1)⟩]) (.seq (.ops [⟨(some 6), none, (.alc [(.val (.int .i64 0))])⟩]) (.seq (.ops [⟨(some 16), none, (.mkf 37 [(.t 5), (.t 6)])⟩, ⟨(some 7), none, (.alc [(.val .nilFunc)])⟩, ⟨none, none, (.st (.t 7) 1 (.t 16))⟩]) (.seq (.ops [⟨(some 17), none, (.mkf 38 [(.t 7)])⟩, ⟨(some 8), none, (.mov (.t 17))⟩]) (.seq (.dops false [] [⟨(some 18), none, (.ld (.t 7) none)⟩, ⟨(some 19), none, (.fad (.t 1) 0)⟩, ⟨(some 20), none, (.ld (.t 19) none)⟩, ⟨(some 21), none, (.conv .u64 (.t 20))⟩, ⟨(some 22), none, (.fad (.t 1) 1)⟩, ⟨(some 23), none, (.ld (.t 22) none)⟩, ⟨(some 24), none, (.conv .u64 (.t 23))⟩, ⟨(some 25), none, (.fad (.t 1) 4)⟩, ⟨(some 26), none, (.ld (.t 25) none)⟩, ⟨(some 27), none, (.conv .u64 (.t 26))⟩, ⟨(some 28), none, (.fad (.t 1) 3)⟩, ⟨(some 29), none, (.ld (.t 28) none)⟩, ⟨(some 30), none, (.len (.t 29))⟩, ⟨(some 31), none, (.conv .u64 (.t 30))⟩, ⟨(some 32), none, (.fad (.t 1) 5)⟩, ⟨(some 33), none, (.ld (.t 32) none)⟩, ⟨(some 34), none, (.len (.t 33))⟩, ⟨(some 35), none, (.conv .u64 (.t 34))⟩, ⟨(some 36), none, (.mkl 69 1 [(.t 21), (.t 24), (.t 27), (.t 31), (.t 35)] true)⟩, ⟨(some 37), none, (.callq 40 [(.c (.string ⟨#[98, 119, 119, 98, 104]⟩)), (.t 36)])⟩, ⟨(some 38), none, (.ext (.t 37) 0)⟩, ⟨(some 39), none, (.ext (.t 37) 1)⟩, ⟨(some 40), none, (.callv (.t 18) [(.t 38), (.t 39)])⟩]) (.seq (.ops [⟨(some 41), none, (.ld (.t 7) none)⟩, ⟨(some 42), none, (.fad (.t 1) 5)⟩, ⟨(some 43), none, (.ld (.t 42) none)⟩, ⟨(some 44), none, (.callv (.t 41) [(.t 43), (.c (.int .i64 0))])⟩]) (.seq (.ops [⟨(some 45), none, (.mov (.t 8))⟩, ⟨(some 46), none, (.fad (.t 1) 2)⟩, ⟨(some 47), none, (.ld (.t 46) none)⟩, ⟨(some 48), none, (.callv (.t 45) [(.t 47)])⟩]) (.seq (.seq (.ops [⟨(some 49), none, (.fad (.t 1) 3)⟩, ⟨(some 50), none, (.ld (.t 49) none)⟩, ⟨(some 51), none, (.len (.t 50))⟩, ⟨(some 52), none, (.mov (.c (.int .i64 0)))⟩]) (.block 0 (.loop F_snap_Write_L0))) (.seq (.seq (.ops [⟨(some 73), none, (.ld (.t 6) none)⟩, ⟨(some 74), none, (.bin .neq (.t 73) (.c (.int .i64 0)))⟩]) (.cond (.t 74) (.seq (.ops [⟨(some 2), none, (.nil 5 1 true)⟩, ⟨(some 3), none, (.mov (.c (.int .i64 110)))⟩]) .ret) .skip)) (.seq (.ops [⟨(some 75), none, (.ld (.t 5) none)⟩, ⟨(some 76), none, (.call 41 [(.t 75)])⟩, ⟨(some 2), none, (.mov (.t 76))⟩, ⟨(some 3), none, (.mov (.c (.int .i64 0)))⟩]) .ret)))))))))))), 77, [(.tmp 2), (.tmp 3)]⟩
theorem F_snap_Write_ok : compF Tryz.prog (fun _ => true) 15 = some F_snap_Write := by kernel_rfl
@[simp] abbrev n_snap_Write_1 : FuncId := 37
def F_snap_Write_1 : F := ⟨(.dops false [(3, 2)] [⟨(some 6), none, (.ld (.t 2) none)⟩, ⟨(some 7), none, (.mov (.t 0))⟩, ⟨(some 9), none, (.ld (.t 3) none)⟩, ⟨(some 10), none, (.mov (.t 1))⟩, ⟨(some 11), none, (.mm true (.t 9) (.t 10))⟩, ⟨(some 8), none, (.app (.t 6) (.t 7) 5 1 1 true)⟩, ⟨none, none, (.st (.t 2) 1 (.t 8))⟩, ⟨none, none, (.st (.t 3) 1 (.t 11))⟩]), 12, []⟩
theorem F_snap_Write_1_ok : compF Tryz.prog (fun _ => true) 37 = some F_snap_Write_1 := by kernel_rfl
@[simp] abbrev n_snap_Write_2 : FuncId := 38
def F_snap_Write_2 : F := ⟨(.seq (.ops [⟨(some 6), none, (.mov (.t 0))⟩, ⟨(some 7), none, (.call 39 [(.t 6)])⟩, ⟨(some 5), none, (.mov (.t 7))⟩, ⟨(some 8), none, (.ext (.t 5) 0)⟩, ⟨(some 9), none, (.ext (.t 5) 1)⟩, ⟨(some 3), none, (.mov (.t 8))⟩, ⟨(some 4), none, (.mov (.t 9))⟩]) (.seq (.dops false [] [⟨(some 10), none, (.ld (.t 1) none)⟩, ⟨(some 11), none, (.mov (.t 3))⟩, ⟨(some 12), none, (.len (.t 11))⟩, ⟨(some 13), none, (.conv .u64 (.t 12))⟩, ⟨(some 14), none, (.callq 24 [(.c (.slice none 0 0)), (.t 13), (.c (.int .i64 2))])⟩, ⟨(some 15), none, (.ext (.t 14) 0)⟩, ⟨(some 16), none, (.ext (.t 14) 1)⟩, ⟨(some 17), none, (.callv (.t 10) [(.t 15), (.t 16)])⟩]) (.ops [⟨(some 18), none, (.ld (.t 1) none)⟩, ⟨(some 19), none, (.mov (.t 3))⟩, ⟨(some 20), none, (.mov (.t 4))⟩, ⟨(some 21), none, (.callv (.t 18) [(.t 19), (.t 20)])⟩]))), 22, []⟩
theorem F_snap_Write_2_ok : compF Tryz.prog (fun _ => true) 38 = some F_snap_Write_2 := by kernel_rfl
@[simp] abbrev n_snap_Read : FuncId := 16
def F_snap_Read_L0 : C := (.seq (.seq (.ops [⟨(some 47), none, (.mov (.t 10))⟩, ⟨(some 48), none, (.mov (.t 9))⟩, ⟨(some 49), none, (.ixs (.t 48) (.c (.int .i64 3)) 1)⟩, ⟨(some 50), none, (.lde (.t 49) none)⟩, ⟨(some 51), none, (.conv .i64 (.t 50))⟩, ⟨(some 52), none, (.bin .lss (.t 47) (.t 51))⟩, ⟨(some 53), none, (.mov (.t 52))⟩, ⟨(some 54), (some (53, true)), (.ld (.t 5) none)⟩, ⟨(some 55), (some (53, true)), (.un .not (.t 54))⟩, ⟨(some 56), none, (.pick (.t 53) (.t 55) (.c (.bool false)))⟩]) (.cond (.t 56) .skip (.exit 0))) (.seq (.block 1 (.seq (.ops [⟨(some 59), none, (.ld (.t 7) none)⟩, ⟨(some 60), none, (.callv (.t 59) [(.c (.string ⟨#[119, 119]⟩)), (.c (.int .i64 8))])⟩, ⟨(some 11), none, (.mov (.t 60))⟩]) (.dops false [] [⟨(some 61), none, (.fad (.t 2) 3)⟩, ⟨(some 62), none, (.ld (.t 61) none)⟩, ⟨(some 63), none, (.mov (.t 11))⟩, ⟨(some 64), none, (.ixs (.t 63) (.c (.int .i64 0)) 1)⟩, ⟨(some 65), none, (.lde (.t 64) none)⟩, ⟨(some 66), none, (.conv .i64 (.t 65))⟩, ⟨(some 67), none, (.mov (.t 11))⟩, ⟨(some 68), none, (.ixs (.t 67) (.c (.int .i64 1)) 1)⟩, ⟨(some 69), none, (.lde (.t 68) none)⟩, ⟨(some 70), none, (.conv .i64 (.t 69))⟩, ⟨(some 71), none, (.mov (.t 8))⟩, ⟨(some 72), none, (.callf (.t 71) [] [61])⟩, ⟨(some 73), none, (.bld [(.val (.int .i64 0)), (.val (.int .i64 0)), (.lit 5 [])] [(0, (1, (.t 66))), (1, (1, (.t 70))), (2, (1, (.t 72)))])⟩, ⟨(some 74), none, (.mkl 60 3 [(.t 73)] false)⟩, ⟨(some 75), none, (.app (.t 62) (.t 74) 60 3 40 true)⟩, ⟨(some 76), none, (.fad (.t 2) 3)⟩, ⟨none, none, (.st (.t 76) 1 (.t 75))⟩]))) (.ops [⟨(some 57), none, (.mov (.t 10))⟩, ⟨(some 58), none, (.bin .add (.t 57) (.c (.int .i64 1)))⟩, ⟨(some 10), none, (.mov (.t 58))⟩])))
def F_snap_Read : F := ⟨(.seq (.ops [⟨(some 2), none, (.alc [(.val (.int .i64 0)), (.val (.int .i64 0)), (.val (.slice none 0 0)), (.val (.slice none 0 0)), (.val (.int .i64 0)), (.val (.slice none 0 0))])⟩, ⟨(some 3), none, (.mov (.c (.int .i64 0)))⟩]) (.seq (.ops [⟨(some 13), none, (.mov (.t 0))⟩, ⟨(some 14), none, (.call 42 [(.t 13)])⟩, ⟨(some 12), none, (.mov (.t 14))⟩, ⟨(some 15), none, (.ext (.t 12) 0)⟩, ⟨(some 16), none, (.ext (.t 12) 1)⟩, ⟨(some 4), none, (.alr 5 1)⟩, ⟨none, none, (.st (.t 4) 1 (.t 15))⟩, ⟨(some 3), none, (.mov (.t 16))⟩]) (.seq (.ops [⟨(some 17), none, (.mov (.t 3))⟩, ⟨(some 18), none, (.bin .neq (.t 17) (.c (.int .i64 0)))⟩, ⟨(some 5), none, (.alc [(.val (.bool false))])⟩, ⟨none, none, (.st (.t 5) 1 (.t 18))⟩]) (.seq (.ops [⟨(some 19), none, (.mkf 43 [(.t 5), (.t 4)])⟩, ⟨(some 6), none, (.alc [(.val .nilFunc)])⟩, ⟨none, none, (.st (.t 6) 1 (.t 19))⟩]) (.seq (.ops [⟨(some 20), none, (.mkf 44 [(.t 6), (.t 5)])⟩, ⟨(some 7), none, (.alc [(.val .nilFunc)])⟩, ⟨none, none, (.st (.t 7) 1 (.t 20))⟩]) (.seq (.ops [⟨(some 21), none, (.mkf 46 [(.t 7), (.t 6), (.t 5)])⟩, ⟨(some 8), none, (.mov (.t 21))⟩]) (.seq (.ops [⟨(some 22), none, (.ld (.t 7) none)⟩, ⟨(some 23), none, (.callv (.t 22) [(.c (.string ⟨#[98, 119, 119, 98, 104]⟩)), (.c (.int .i64 12))])⟩, ⟨(some 9), none, (.mov (.t 23))⟩]) (.seq (.dops false [] [⟨(some 24), none, (.mov (.t 9))⟩, ⟨(some 25), none, (.ixs (.t 24) (.c (.int .i64 0)) 1)⟩, ⟨(some 26), none, (.lde (.t 25) none)⟩, ⟨(some 27), none, (.conv .i64 (.t 26))⟩, ⟨(some 28), none, (.mov (.t 9))⟩, ⟨(some 29), none, (.ixs (.t 28) (.c (.int .i64 1)) 1)⟩, ⟨(some 30), none, (.lde (.t 29) none)⟩, ⟨(some 31), none, (.conv .i64 (.t 30))⟩, ⟨(some 32), none, (.mov (.t 9))⟩, ⟨(some 33), none, (.ixs (.t 32) (.c (.int .i64 2)) 1)⟩, ⟨(some 34), none, (.lde (.t 33) none)⟩, ⟨(some 35), none, (.conv .i64 (.t 34))⟩, ⟨(some 36), none, (.ld (.t 6) none)⟩, ⟨(some 37), none, (.mov (.t 9))⟩, ⟨(some 38), none, (.ixs (.t 37) (.c (.int .i64 4)) 1)⟩, ⟨(some 39), none, (.lde (.t 38) none)⟩, ⟨(some 40), none, (.conv .i64 (.t 39))⟩, ⟨(some 41), none, (.callv (.t 36) [(.t 40)])⟩, ⟨(some 42), none, (.call 23 [(.t 41)])⟩, ⟨(some 43), none, (.bld [(.val (.int .i64 0)), (.val (.int .i64 0)), (.val (.slice none 0 0)), (.val (.slice none 0 0)), (.val (.int .i64 0)), (.val (.slice none 0 0))] [(0, (1, (.t 27))), (1, (1, (.t 31))), (4, (1, (.t 35))), (5, (1, (.t 42)))])⟩, ⟨none, none, (.st (.t 2) 6 (.t 43))⟩]) (.seq (.ops [⟨(some 44), none, (.mov (.t 8))⟩, ⟨(some 45), none, (.callv (.t 44) [])⟩, ⟨(some 46), none, (.fad (.t 2) 2)⟩, ⟨none, none, (.st (.t 46) 1 (.t 45))⟩]) (.seq (.seq (.ops [⟨(some 10), none, (.mov (.c (.int .i64 0)))⟩]) (.block 0 (.loop F_snap_Read_L0))) (.seq (.seq (.ops [⟨(some 77), none, (.ld (.t 5) none)⟩, ⟨(some 78), none, (.mov (.t 77))⟩, ⟨(some 79), (some (78, false)), (.ld (.t 4) none)⟩, ⟨(some 80), (some (78, false)), (.len (.t 79))⟩, ⟨(some 81), (some (78, false)), (.bin .gtr (.t 80) (.c (.int .i64 0)))⟩, ⟨(some 82), none, (.pick (.t 78) (.c (.bool true)) (.t 81))⟩, ⟨(some 83), none, (.mov (.t 82))⟩, ⟨(some 84), (some (83, false)), (.ld (.t 2) (some 6))⟩, ⟨(some 85), (some (83, false)), (.call 6 [(.t 84)])⟩, ⟨(some 86), (some (83, false)), (.bin .neq (.t 85) (.c (.int .i64 0)))⟩, ⟨(some 87), none, (.pick (.t 83) (.c (.bool true)) (.t 86))⟩]) (.cond (.t 87) (.seq (.ops [⟨(some 88), none, (.bld [(.val (.int .i64 0)), (.val (.int .i64 0)), (.lit 5 []), (.lit 3 []), (.val (.int .i64 0)), (.lit 1 [])] [])⟩, ⟨none, none, (.st (.t 2) 6 (.t 88))⟩, ⟨(some 3), none, (.mov (.c (.int .i64 120)))⟩]) .ret) .skip)) (.seq (.ops [⟨(some 89), none, (.ld (.t 2) (some 6))⟩, ⟨none, none, (.st (.t 2) 6 (.t 89))⟩, ⟨(some 3), none, (.mov (.c (.int .i64 0)))⟩]) .ret)))))))))))), 90, [(.cell 2 (some 6)), (.tmp 3)]⟩
theorem F_snap_Read_ok : compF Tryz.prog (fun d => !([74, 2097154, 2097195].contains d)) 16 = some F_snap_Read := by kernel_rfl
@[simp] abbrev n_snap_Read_1 : FuncId := 43
def F_snap_Read_1 : F := ⟨(.seq (.ops [⟨(some 4), none, (.nil 5 1 true)⟩]) (.seq (.seq (.ops [⟨(some 5), none, (.ld (.t 1) none)⟩, ⟨(some 6), none, (.mov (.t 5))⟩, ⟨(some 7), (some (6, false)), (.mov (.t 0))⟩, ⟨(some 8), (some (6, false)), (.ld (.t 2) none)⟩, ⟨(some 9), (some (6, false)), (.len (.t 8))⟩, ⟨(some 10), (some (6, false)), (.bin .gtr (.t 7) (.t 9))⟩, ⟨(some 11), none, (.pick (.t 6) (.c (.bool true)) (.t 10))⟩, ⟨none, none, (.st (.t 1) 1 (.t 11))⟩]) (.seq (.ops [⟨(some 12), none, (.ld (.t 1) none)⟩, ⟨(some 13), none, (.un .not (.t 12))⟩]) (.cond (.t 13) (.dops false [] [⟨(some 14), none, (.ld (.t 2) none)⟩, ⟨(some 15), none, (.mov (.t 0))⟩, ⟨(some 16), none, (.mov (.t 0))⟩, ⟨(some 17), none, (.slc (.t 14) none (some (.t 15)) (some (.t 16)) 1)⟩, ⟨(some 18), none, (.ld (.t 2) none)⟩, ⟨(some 19), none, (.mov (.t 0))⟩, ⟨(some 20), none, (.slc (.t 18) (some (.t 19)) none none 1)⟩, ⟨(some 4), none, (.mov (.t 17))⟩, ⟨none, none, (.st (.t 2) 1 (.t 20))⟩]) .skip))) (.seq (.ops [⟨(some 21), none, (.mov (.t 4))⟩, ⟨(some 4), none, (.mov (.t 21))⟩]) .ret))), 22, [(.tmp 4)]⟩
theorem F_snap_Read_1_ok : compF Tryz.prog (fun _ => true) 43 = some F_snap_Read_1 := by kernel_rfl
@[simp] abbrev n_snap_Read_2 : FuncId := 44
def F_snap_Read_2 : F := ⟨(.seq (.ops [⟨(some 6), none, (.nil 69 1 true)⟩]) (.seq (.ops [⟨(some 10), none, (.mov (.t 0))⟩, ⟨(some 11), none, (.ld (.t 2) none)⟩, ⟨(some 12), none, (.mov (.t 1))⟩, ⟨(some 13), none, (.callv (.t 11) [(.t 12)])⟩, ⟨(some 14), none, (.call 45 [(.t 10), (.t 13)])⟩, ⟨(some 9), none, (.mov (.t 14))⟩, ⟨(some 15), none, (.ext (.t 9) 0)⟩, ⟨(some 16), none, (.ext (.t 9) 1)⟩, ⟨(some 7), none, (.mov (.t 15))⟩, ⟨(some 8), none, (.mov (.t 16))⟩]) (.seq (.ops [⟨(some 17), none, (.ld (.t 3) none)⟩, ⟨(some 18), none, (.mov (.t 17))⟩, ⟨(some 19), (some (18, false)), (.mov (.t 8))⟩, ⟨(some 20), (some (18, false)), (.bin .neq (.t 19) (.c (.int .i64 0)))⟩, ⟨(some 21), none, (.pick (.t 18) (.c (.bool true)) (.t 20))⟩, ⟨none, none, (.st (.t 3) 1 (.t 21))⟩]) (.seq (.seq (.ops [⟨(some 22), none, (.ld (.t 3) none)⟩]) (.cond (.t 22) (.seq (.ops [⟨(some 23), none, (.mov (.t 0))⟩, ⟨(some 24), none, (.slen (.t 23))⟩, ⟨(some 25), none, (.mks (.t 24) (.t 24) 69 1 8 [(.val (.int .u64 0))] true)⟩, ⟨(some 6), none, (.mov (.t 25))⟩]) .ret) .skip)) (.seq (.ops [⟨(some 26), none, (.mov (.t 7))⟩, ⟨(some 6), none, (.mov (.t 26))⟩]) .ret))))), 27, [(.tmp 6)]⟩
theorem F_snap_Read_2_ok : compF Tryz.prog (fun _ => true) 44 = some F_snap_Read_2 := by kernel_rfl
@[simp] abbrev n_snap_Read_3 : FuncId := 46
def F_snap_Read_3 : F := ⟨(.seq (.ops [⟨(some 3), none, (.nil 109 5 true)⟩]) (.seq (.ops [⟨(some 7), none, (.ld (.t 0) none)⟩, ⟨(some 8), none, (.callv (.t 7) [(.c (.string ⟨#[104]⟩)), (.c (.int .i64 2))])⟩, ⟨(some 4), none, (.mov (.t 8))⟩]) (.seq (.dops false [] [⟨(some 10), none, (.ld (.t 1) none)⟩, ⟨(some 11), none, (.mov (.t 4))⟩, ⟨(some 12), none, (.ixs (.t 11) (.c (.int .i64 0)) 1)⟩, ⟨(some 13), none, (.lde (.t 12) none)⟩, ⟨(some 14), none, (.conv .i64 (.t 13))⟩, ⟨(some 15), none, (.callv (.t 10) [(.t 14)])⟩, ⟨(some 16), none, (.call 47 [(.t 15)])⟩, ⟨(some 9), none, (.mov (.t 16))⟩, ⟨(some 17), none, (.ext (.t 9) 0)⟩, ⟨(some 18), none, (.ext (.t 9) 1)⟩, ⟨(some 5), none, (.mov (.t 17))⟩, ⟨(some 6), none, (.mov (.t 18))⟩]) (.seq (.ops [⟨(some 19), none, (.ld (.t 2) none)⟩, ⟨(some 20), none, (.mov (.t 19))⟩, ⟨(some 21), (some (20, false)), (.mov (.t 6))⟩, ⟨(some 22), (some (20, false)), (.bin .neq (.t 21) (.c (.int .i64 0)))⟩, ⟨(some 23), none, (.pick (.t 20) (.c (.bool true)) (.t 22))⟩, ⟨none, none, (.st (.t 2) 1 (.t 23))⟩]) (.seq (.ops [⟨(some 24), none, (.mov (.t 5))⟩, ⟨(some 3), none, (.mov (.t 24))⟩]) .ret))))), 25, [(.tmp 3)]⟩
theorem F_snap_Read_3_ok : compF Tryz.prog (fun _ => true) 46 = some F_snap_Read_3 := by kernel_rfl
@[simp] abbrev n_snap_parts : FuncId := 22
def F_snap_parts : F := ⟨(.seq (.ops [⟨(some 2), none, (.mov (.c .nilFunc))⟩]) (.seq (.ops [⟨(some 3), none, (.mov (.t 0))⟩, ⟨(some 4), none, (.call 53 [(.t 3), (.c (.int .i64 4096))])⟩, ⟨(some 2), none, (.mov (.t 4))⟩]) .ret)), 5, [(.tmp 2)]⟩
theorem F_snap_parts_ok : compF Tryz.prog (fun _ => true) 22 = some F_snap_parts := by kernel_rfl
@[simp] abbrev n_slices_Chunk_byte : FuncId := 53
def F_slices_Chunk_byte : F := ⟨(.seq (.ops [⟨(some 2), none, (.box (.t 0))⟩, ⟨(some 3), none, (.box (.t 1))⟩, ⟨(some 4), none, (.mov (.c .nilFunc))⟩]) (.seq (.seq (.ops [⟨(some 5), none, (.ld (.t 3) none)⟩, ⟨(some 6), none, (.bin .lss (.t 5) (.c (.int .i64 1)))⟩]) (.cond (.t 6) (.ops [⟨(some 7), none, .dead⟩, ⟨none, none, .dead⟩]) .skip)) (.seq (.ops [⟨(some 8), none, (.mkf 77 [(.t 2), (.t 3)])⟩, ⟨(some 4), none, (.mov (.t 8))⟩]) .ret))), 9, [(.tmp 4)]⟩
theorem F_slices_Chunk_byte_ok : compF Tryz.prog (fun _ => true) 53 = some F_slices_Chunk_byte := by kernel_rfl
@[simp] abbrev n_slices_Chunk_byte_1 : FuncId := 77
def F_slices_Chunk_byte_1_L0 : C := (.seq (.seq (.ops [⟨(some 6), none, (.mov (.t 4))⟩, ⟨(some 7), none, (.ld (.t 1) none)⟩, ⟨(some 8), none, (.len (.t 7))⟩, ⟨(some 9), none, (.bin .lss (.t 6) (.t 8))⟩]) (.cond (.t 9) .skip (.exit 0))) (.seq (.block 1 (.seq (.dops false [] [⟨(some 13), none, (.ld (.t 2) none)⟩, ⟨(some 14), none, (.ld (.t 1) none)⟩, ⟨(some 15), none, (.mov (.t 4))⟩, ⟨(some 16), none, (.slc (.t 14) (some (.t 15)) none none 1)⟩, ⟨(some 17), none, (.len (.t 16))⟩, ⟨(some 18), none, (.mm false (.t 13) (.t 17))⟩, ⟨(some 5), none, (.mov (.t 18))⟩]) (.seq (.ops [⟨(some 19), none, (.mov (.t 0))⟩, ⟨(some 20), none, (.ld (.t 1) none)⟩, ⟨(some 21), none, (.mov (.t 4))⟩, ⟨(some 22), none, (.mov (.t 4))⟩, ⟨(some 23), none, (.mov (.t 5))⟩, ⟨(some 24), none, (.bin .add (.t 22) (.t 23))⟩, ⟨(some 25), none, (.mov (.t 4))⟩, ⟨(some 26), none, (.mov (.t 5))⟩, ⟨(some 27), none, (.bin .add (.t 25) (.t 26))⟩, ⟨(some 28), none, (.slc (.t 20) (some (.t 21)) (some (.t 24)) (some (.t 27)) 1)⟩, ⟨(some 29), none, (.callv (.t 19) [(.t 28)])⟩, ⟨(some 30), none, (.un .not (.t 29))⟩]) (.cond (.t 30) .ret .skip)))) (.ops [⟨(some 10), none, (.mov (.t 4))⟩, ⟨(some 11), none, (.ld (.t 2) none)⟩, ⟨(some 12), none, (.bin .add (.t 10) (.t 11))⟩, ⟨(some 4), none, (.mov (.t 12))⟩])))
def F_slices_Chunk_byte_1 : F := ⟨(.seq (.ops [⟨(some 4), none, (.mov (.c (.int .i64 0)))⟩]) (.block 0 (.loop F_slices_Chunk_byte_1_L0))), 31, []⟩
theorem F_slices_Chunk_byte_1_ok : compF Tryz.prog (fun _ => true) 77 = some F_slices_Chunk_byte_1 := by kernel_rfl
@[simp] abbrev n_snap_Records : FuncId := 8
def F_snap_Records : F := ⟨(.seq (.ops [⟨(some 2), none, (.box (.t 0))⟩, ⟨(some 3), none, (.box (.t 1))⟩, ⟨(some 4), none, (.alr 40 3)⟩, ⟨(some 5), none, (.mov (.c (.int .i64 0)))⟩]) (.seq (.ops [⟨(some 10), none, (.ld (.t 2) (some 6))⟩, ⟨(some 11), none, (.call 15 [(.t 10)])⟩, ⟨(some 9), none, (.mov (.t 11))⟩, ⟨(some 12), none, (.ext (.t 9) 0)⟩, ⟨(some 13), none, (.ext (.t 9) 1)⟩, ⟨(some 6), none, (.mov (.t 12))⟩, ⟨(some 5), none, (.mov (.t 13))⟩]) (.seq (.seq (.ops [⟨(some 14), none, (.mov (.t 5))⟩, ⟨(some 15), none, (.bin .neq (.t 14) (.c (.int .i64 0)))⟩]) (.cond (.t 15) (.seq (.ops [⟨(some 16), none, (.mov (.t 5))⟩, ⟨none, none, (.st (.t 4) 1 (.c (.slice none 0 0)))⟩, ⟨(some 5), none, (.mov (.t 16))⟩]) .ret) .skip)) (.seq (.seq (.ops [⟨(some 17), none, (.ld (.t 3) none)⟩, ⟨(some 18), none, (.bin .lss (.t 17) (.c (.int .i64 0)))⟩, ⟨(some 19), none, (.mov (.t 18))⟩, ⟨(some 20), (some (19, false)), (.ld (.t 3) none)⟩, ⟨(some 21), (some (19, false)), (.bin .gtr (.t 20) (.c (.int .i64 2305843009213693952)))⟩, ⟨(some 22), none, (.pick (.t 19) (.c (.bool true)) (.t 21))⟩]) (.cond (.t 22) (.seq (.ops [⟨none, none, (.st (.t 4) 1 (.c (.slice none 0 0)))⟩, ⟨(some 5), none, (.mov (.c (.int .i64 120)))⟩]) .ret) .skip)) (.seq (.seq (.ops [⟨(some 23), none, (.mov (.t 6))⟩, ⟨(some 24), none, (.call 22 [(.t 23)])⟩]) (.block 0 (.rangeF false (.t 24) [25] (.ops [⟨(some 7), none, (.mov (.t 25))⟩]) (.block 1 (.dops false [] [⟨(some 26), none, (.ld (.t 4) none)⟩, ⟨(some 27), none, (.ld (.t 3) none)⟩, ⟨(some 28), none, (.ld (.t 4) none)⟩, ⟨(some 29), none, (.len (.t 28))⟩, ⟨(some 30), none, (.bin .add (.t 27) (.t 29))⟩, ⟨(some 31), none, (.mov (.t 7))⟩, ⟨(some 32), none, (.callq 23 [(.t 31)])⟩, ⟨(some 33), none, (.bld [(.val (.int .i64 0)), (.val (.int .i64 0)), (.lit 1 [])] [(0, (1, (.c (.int .i64 2)))), (1, (1, (.t 30))), (2, (1, (.t 32)))])⟩, ⟨(some 34), none, (.mkl 40 3 [(.t 33)] false)⟩, ⟨(some 35), none, (.app (.t 26) (.t 34) 40 3 40 true)⟩, ⟨none, none, (.st (.t 4) 1 (.t 35))⟩]))))) (.seq (.ops [⟨(some 37), none, (.ld (.t 4) none)⟩, ⟨(some 38), none, (.len (.t 37))⟩, ⟨(some 39), none, (.conv .u64 (.t 38))⟩, ⟨(some 40), none, (.call 24 [(.c (.slice none 0 0)), (.t 39), (.c (.int .i64 2))])⟩, ⟨(some 36), none, (.mov (.t 40))⟩, ⟨(some 41), none, (.ext (.t 36) 0)⟩, ⟨(some 42), none, (.ext (.t 36) 1)⟩, ⟨(some 8), none, (.mov (.t 41))⟩, ⟨(some 5), none, (.mov (.t 42))⟩]) (.seq (.ops [⟨(some 43), none, (.ld (.t 4) none)⟩, ⟨(some 44), none, (.ld (.t 3) none)⟩, ⟨(some 45), none, (.ld (.t 4) none)⟩, ⟨(some 46), none, (.len (.t 45))⟩, ⟨(some 47), none, (.bin .add (.t 44) (.t 46))⟩, ⟨(some 48), none, (.mov (.t 8))⟩, ⟨(some 49), none, (.bld [(.val (.int .i64 0)), (.val (.int .i64 0)), (.lit 1 [])] [(0, (1, (.c (.int .i64 3)))), (1, (1, (.t 47))), (2, (1, (.t 48)))])⟩, ⟨(some 50), none, (.mkl 40 3 [(.t 49)] false)⟩, ⟨(some 51), none, (.app (.t 43) (.t 50) 40 3 40 true)⟩, ⟨(some 52), none, (.mov (.t 5))⟩, ⟨none, none, (.st (.t 4) 1 (.t 51))⟩, ⟨(some 5), none, (.mov (.t 52))⟩]) .ret))))))), 53, [(.cell 4 none), (.tmp 5)]⟩
theorem F_snap_Records_ok : compF Tryz.prog (fun d => !([34, 50].contains d)) 8 = some F_snap_Records := by kernel_rfl
@[simp] abbrev n_snap_Found : FuncId := 11
def F_snap_Found_L0 : C := (.seq (.seq (.ops [⟨(some 71), none, (.mov (.t 17))⟩, ⟨(some 72), none, (.fad (.t 11) 1)⟩, ⟨(some 73), none, (.ld (.t 72) none)⟩, ⟨(some 74), none, (.bin .lss (.t 71) (.t 73))⟩]) (.cond (.t 74) .skip (.exit 4))) (.seq (.block 5 (.seq (.ops [⟨(some 78), none, (.ld (.t 6) none)⟩, ⟨(some 79), none, (.mov (.t 17))⟩, ⟨(some 80), none, (.mlk (.t 78) (.t 79) (.agg [(.val (.int .i64 0)), (.val (.int .i64 0)), (.lit 1 [])]) true)⟩, ⟨(some 77), none, (.mov (.t 80))⟩, ⟨(some 81), none, (.ext (.t 77) 0)⟩, ⟨(some 82), none, (.ext (.t 77) 1)⟩, ⟨(some 18), none, (.alc [(.val (.int .i64 0)), (.val (.int .i64 0)), (.lit 1 [])])⟩, ⟨none, none, (.st (.t 18) 3 (.t 81))⟩, ⟨(some 19), none, (.mov (.t 82))⟩]) (.seq (.seq (.ops [⟨(some 83), none, (.mov (.t 19))⟩, ⟨(some 84), none, (.un .not (.t 83))⟩, ⟨(some 85), none, (.mov (.t 84))⟩, ⟨(some 86), (some (85, false)), (.fad (.t 18) 0)⟩, ⟨(some 87), (some (85, false)), (.ld (.t 86) none)⟩, ⟨(some 88), (some (85, false)), (.bin .neq (.t 87) (.c (.int .i64 2)))⟩, ⟨(some 89), none, (.pick (.t 85) (.c (.bool true)) (.t 88))⟩]) (.cond (.t 89) (.exit 3) .skip)) (.ops [⟨(some 90), none, (.mov (.t 15))⟩, ⟨(some 91), none, (.fad (.t 18) 2)⟩, ⟨(some 92), none, (.ld (.t 91) none)⟩, ⟨(some 93), none, (.app (.t 90) (.t 92) 5 1 1 true)⟩, ⟨(some 15), none, (.mov (.t 93))⟩])))) (.ops [⟨(some 75), none, (.mov (.t 17))⟩, ⟨(some 76), none, (.bin .add (.t 75) (.c (.int .i64 1)))⟩, ⟨(some 17), none, (.mov (.t 76))⟩])))
def F_snap_Found : F := ⟨(.seq (.ops [⟨(some 2), none, (.alc [(.val (.int .i64 0)), (.val (.int .i64 0)), (.lit 5 []), (.lit 3 []), (.val (.int .i64 0)), (.lit 1 [])])⟩, ⟨(some 3), none, (.alc [(.val (.int .i64 0))])⟩, ⟨(some 4), none, (.alc [(.val (.int .i64 0))])⟩, ⟨(some 5), none, (.alc [(.val (.int .i64 0))])⟩]) (.scope (.seq (.ops [⟨(some 22), none, .mkm⟩, ⟨(some 6), none, (.alc [(.val (.map none))])⟩, ⟨none, none, (.st (.t 6) 1 (.t 22))⟩]) (.seq (.seq (.ops [⟨(some 23), none, (.mov (.t 0))⟩, ⟨(some 24), none, (.call 32 [(.t 23)])⟩]) (.block 0 (.rangeF false (.t 24) [25, 26] (.ops [⟨(some 8), none, (.alc [(.val (.int .i64 0)), (.val (.int .i64 0)), (.lit 1 []), (.val (.int .i64 0)), (.val (.int .i64 0))])⟩, ⟨none, none, (.st (.t 8) 5 (.t 26))⟩]) (.block 1 (.ops [⟨(some 27), none, (.ld (.t 6) none)⟩, ⟨(some 28), none, (.fad (.t 8) 0)⟩, ⟨(some 29), none, (.fad (.t 28) 1)⟩, ⟨(some 30), none, (.ld (.t 29) none)⟩, ⟨(some 31), none, (.fad (.t 8) 0)⟩, ⟨(some 32), none, (.ld (.t 31) (some 3))⟩, ⟨none, none, (.mup (.t 27) (.t 30) (.t 32))⟩]))))) (.seq (.label 0) (.seq (.seq (.ops [⟨(some 33), none, (.mov (.t 0))⟩, ⟨(some 34), none, (.call 32 [(.t 33)])⟩]) (.block 2 (.rangeF false (.t 34) [35, 36] (.ops [⟨(some 10), none, (.alc [(.val (.int .i64 0)), (.val (.int .i64 0)), (.lit 1 []), (.val (.int .i64 0)), (.val (.int .i64 0))])⟩, ⟨none, none, (.st (.t 10) 5 (.t 36))⟩]) (.block 3 (.seq (.ops [⟨(some 37), none, (.fad (.t 10) 0)⟩, ⟨(some 38), none, (.ld (.t 37) (some 3))⟩, ⟨(some 11), none, (.alc [(.val (.int .i64 0)), (.val (.int .i64 0)), (.lit 1 [])])⟩, ⟨none, none, (.st (.t 11) 3 (.t 38))⟩]) (.seq (.ops [⟨(some 40), none, (.fad (.t 11) 2)⟩, ⟨(some 41), none, (.ld (.t 40) none)⟩, ⟨(some 42), none, (.call 33 [(.t 41), (.c (.int .i64 2))])⟩, ⟨(some 39), none, (.mov (.t 42))⟩, ⟨(some 43), none, (.ext (.t 39) 0)⟩, ⟨(some 44), none, (.ext (.t 39) 1)⟩, ⟨(some 45), none, (.ext (.t 39) 2)⟩, ⟨(some 12), none, (.mov (.t 43))⟩, ⟨(some 13), none, (.mov (.t 44))⟩, ⟨(some 14), none, (.mov (.t 45))⟩]) (.seq (.seq (.ops [⟨(some 46), none, (.fad (.t 11) 0)⟩, ⟨(some 47), none, (.ld (.t 46) none)⟩, ⟨(some 48), none, (.bin .neq (.t 47) (.c (.int .i64 3)))⟩, ⟨(some 49), none, (.mov (.t 48))⟩, ⟨(some 50), (some (49, false)), (.mov (.t 14))⟩, ⟨(some 51), (some (49, false)), (.bin .neq (.t 50) (.c (.int .i64 0)))⟩, ⟨(some 52), none, (.pick (.t 49) (.c (.bool true)) (.t 51))⟩, ⟨(some 53), none, (.mov (.t 52))⟩, ⟨(some 54), (some (53, false)), (.mov (.t 13))⟩, ⟨(some 55), (some (53, false)), (.len (.t 54))⟩, ⟨(some 56), (some (53, false)), (.bin .gtr (.t 55) (.c (.int .i64 0)))⟩, ⟨(some 57), none, (.pick (.t 53) (.c (.bool true)) (.t 56))⟩, ⟨(some 58), none, (.mov (.t 57))⟩, ⟨(some 59), (some (58, false)), (.mov (.t 12))⟩, ⟨(some 60), (some (58, false)), (.conv .i64 (.t 59))⟩, ⟨(some 61), (some (58, false)), (.fad (.t 11) 1)⟩, ⟨(some 62), (some (58, false)), (.ld (.t 61) none)⟩, ⟨(some 63), (some (58, false)), (.bin .gtr (.t 60) (.t 62))⟩, ⟨(some 64), none, (.pick (.t 58) (.c (.bool true)) (.t 63))⟩]) (.cond (.t 64) (.exit 3) .skip)) (.seq (.ops [⟨(some 15), none, (.nil 5 1 true)⟩]) (.seq (.ops [⟨(some 65), none, (.fad (.t 11) 1)⟩, ⟨(some 66), none, (.ld (.t 65) none)⟩, ⟨(some 67), none, (.mov (.t 12))⟩, ⟨(some 68), none, (.conv .i64 (.t 67))⟩, ⟨(some 69), none, (.bin .sub (.t 66) (.t 68))⟩, ⟨(some 16), none, (.mov (.t 69))⟩]) (.seq (.seq (.ops [⟨(some 70), none, (.mov (.t 16))⟩, ⟨(some 17), none, (.mov (.t 70))⟩]) (.block 4 (.loop F_snap_Found_L0))) (.seq (.ops [⟨(some 95), none, (.mov (.t 15))⟩, ⟨(some 96), none, (.call 16 [(.t 95)])⟩, ⟨(some 94), none, (.mov (.t 96))⟩, ⟨(some 97), none, (.ext (.t 94) 0)⟩, ⟨(some 98), none, (.ext (.t 94) 1)⟩, ⟨(some 20), none, (.alc [(.val (.int .i64 0)), (.val (.int .i64 0)), (.lit 5 []), (.lit 3 []), (.val (.int .i64 0)), (.lit 1 [])])⟩, ⟨none, none, (.st (.t 20) 6 (.t 97))⟩, ⟨(some 21), none, (.mov (.t 98))⟩]) (.seq (.ops [⟨(some 99), none, (.mov (.t 21))⟩, ⟨(some 100), none, (.bin .eql (.t 99) (.c (.int .i64 0)))⟩]) (.cond (.t 100) (.seq (.dops false [(103, 2), (103, 3)] [⟨(some 101), none, (.ld (.t 20) (some 6))⟩, ⟨(some 102), none, (.mov (.t 16))⟩, ⟨(some 103), none, (.fad (.t 11) 1)⟩, ⟨(some 104), none, (.ld (.t 103) none)⟩, ⟨none, none, (.st (.t 2) 6 (.t 101))⟩, ⟨none, none, (.st (.t 3) 1 (.t 102))⟩, ⟨none, none, (.st (.t 4) 1 (.t 104))⟩, ⟨none, none, (.st (.t 5) 1 (.c (.int .i64 0)))⟩]) .ret) .skip))))))))))))) (.seq (.ops [⟨(some 105), none, (.bld [(.val (.int .i64 0)), (.val (.int .i64 0)), (.lit 5 []), (.lit 3 []), (.val (.int .i64 0)), (.lit 1 [])] [])⟩, ⟨none, none, (.st (.t 2) 6 (.t 105))⟩, ⟨none, none, (.st (.t 3) 1 (.c (.int .i64 0)))⟩, ⟨none, none, (.st (.t 4) 1 (.c (.int .i64 0)))⟩, ⟨none, none, (.st (.t 5) 1 (.c (.int .i64 120)))⟩]) .ret))))))), 106, [(.cell 2 (some 6)), (.cell 3 none), (.cell 4 none), (.cell 5 none)]⟩
theorem F_snap_Found_ok : compF Tryz.prog (fun _ => true) 11 = some F_snap_Found := by kernel_rfl
@[simp] abbrev n_slices_Backward_Found : FuncId := 32
def F_slices_Backward_Found : F := ⟨(.seq (.ops [⟨(some 1), none, (.box (.t 0))⟩, ⟨(some 2), none, (.mov (.c .nilFunc))⟩]) (.seq (.ops [⟨(some 3), none, (.mkf 67 [(.t 1)])⟩, ⟨(some 2), none, (.mov (.t 3))⟩]) .ret)), 4, [(.tmp 2)]⟩
theorem F_slices_Backward_Found_ok : compF Tryz.prog (fun _ => true) 32 = some F_slices_Backward_Found := by kernel_rfl
@[simp] abbrev n_slices_Backward_Found_1 : FuncId := 67
def F_slices_Backward_Found_1_L0 : C := (.seq (.seq (.ops [⟨(some 7), none, (.mov (.t 3))⟩, ⟨(some 8), none, (.bin .geq (.t 7) (.c (.int .i64 0)))⟩]) (.cond (.t 8) .skip (.exit 0))) (.seq (.block 1 (.seq (.ops [⟨(some 11), none, (.mov (.t 0))⟩, ⟨(some 12), none, (.mov (.t 3))⟩, ⟨(some 13), none, (.ld (.t 1) none)⟩, ⟨(some 14), none, (.mov (.t 3))⟩, ⟨(some 15), none, (.ixs (.t 13) (.t 14) 5)⟩, ⟨(some 16), none, (.lde (.t 15) (some 5))⟩, ⟨(some 17), none, (.callv (.t 11) [(.t 12), (.t 16)])⟩, ⟨(some 18), none, (.un .not (.t 17))⟩]) (.cond (.t 18) .ret .skip))) (.ops [⟨(some 9), none, (.mov (.t 3))⟩, ⟨(some 10), none, (.bin .sub (.t 9) (.c (.int .i64 1)))⟩, ⟨(some 3), none, (.mov (.t 10))⟩])))
def F_slices_Backward_Found_1 : F := ⟨(.seq (.ops [⟨(some 4), none, (.ld (.t 1) none)⟩, ⟨(some 5), none, (.len (.t 4))⟩, ⟨(some 6), none, (.bin .sub (.t 5) (.c (.int .i64 1)))⟩, ⟨(some 3), none, (.mov (.t 6))⟩]) (.block 0 (.loop F_slices_Backward_Found_1_L0))), 19, []⟩
theorem F_slices_Backward_Found_1_ok : compF Tryz.prog (fun _ => true) 67 = some F_slices_Backward_Found_1 := by kernel_rfl
@[simp] abbrev n_w12_awake : FuncId := 4
def F_w12_awake : F := ⟨(.seq (.ops [⟨(some 0), none, (.mov (.c (.bool false)))⟩]) (.seq (.ops [⟨(some 23), none, (.call 14 [(.c (.int .i64 8))])⟩, ⟨(some 22), none, (.mov (.t 23))⟩, ⟨(some 24), none, (.ext (.t 22) 0)⟩, ⟨(some 25), none, (.ext (.t 22) 1)⟩, ⟨(some 1), none, (.alc [(.val (.int .i64 0)), (.val (.int .i64 0)), (.lit 5 []), (.lit 3 []), (.val (.int .i64 0)), (.lit 1 [])])⟩, ⟨none, none, (.st (.t 1) 6 (.t 24))⟩, ⟨(some 2), none, (.mov (.t 25))⟩]) (.seq (.ops [⟨(some 27), none, (.ld (.t 1) (some 6))⟩, ⟨(some 28), none, (.call 15 [(.t 27)])⟩, ⟨(some 26), none, (.mov (.t 28))⟩, ⟨(some 29), none, (.ext (.t 26) 0)⟩, ⟨(some 30), none, (.ext (.t 26) 1)⟩, ⟨(some 3), none, (.mov (.t 29))⟩, ⟨(some 4), none, (.mov (.t 30))⟩]) (.seq (.ops [⟨(some 32), none, (.mov (.t 3))⟩, ⟨(some 33), none, (.call 16 [(.t 32)])⟩, ⟨(some 31), none, (.mov (.t 33))⟩, ⟨(some 34), none, (.ext (.t 31) 0)⟩, ⟨(some 35), none, (.ext (.t 31) 1)⟩, ⟨(some 5), none, (.alc [(.val (.int .i64 0)), (.val (.int .i64 0)), (.lit 5 []), (.lit 3 []), (.val (.int .i64 0)), (.lit 1 [])])⟩, ⟨none, none, (.st (.t 5) 6 (.t 34))⟩, ⟨(some 6), none, (.mov (.t 35))⟩]) (.seq (.ops [⟨(some 37), none, (.ld (.t 1) (some 6))⟩, ⟨(some 38), none, (.call 8 [(.t 37), (.c (.int .i64 5))])⟩, ⟨(some 36), none, (.mov (.t 38))⟩, ⟨(some 39), none, (.ext (.t 36) 0)⟩, ⟨(some 40), none, (.ext (.t 36) 1)⟩, ⟨(some 7), none, (.mov (.t 39))⟩, ⟨(some 8), none, (.mov (.t 40))⟩]) (.seq (.ops [⟨(some 42), none, (.mov (.t 7))⟩, ⟨(some 43), none, (.call 17 [(.t 42)])⟩, ⟨(some 44), none, (.call 11 [(.t 43)])⟩, ⟨(some 41), none, (.mov (.t 44))⟩, ⟨(some 45), none, (.ext (.t 41) 0)⟩, ⟨(some 46), none, (.ext (.t 41) 1)⟩, ⟨(some 47), none, (.ext (.t 41) 2)⟩, ⟨(some 48), none, (.ext (.t 41) 3)⟩, ⟨(some 9), none, (.alc [(.val (.int .i64 0)), (.val (.int .i64 0)), (.lit 5 []), (.lit 3 []), (.val (.int .i64 0)), (.lit 1 [])])⟩, ⟨none, none, (.st (.t 9) 6 (.t 45))⟩, ⟨(some 10), none, (.mov (.t 46))⟩, ⟨(some 11), none, (.mov (.t 47))⟩, ⟨(some 12), none, (.mov (.t 48))⟩]) (.seq (.ops [⟨(some 50), none, (.call 11 [(.c (.slice none 0 0))])⟩, ⟨(some 49), none, (.mov (.t 50))⟩, ⟨(some 51), none, (.ext (.t 49) 0)⟩, ⟨(some 52), none, (.ext (.t 49) 1)⟩, ⟨(some 53), none, (.ext (.t 49) 2)⟩, ⟨(some 54), none, (.ext (.t 49) 3)⟩, ⟨(some 13), none, (.alc [(.val (.int .i64 0)), (.val (.int .i64 0)), (.lit 5 []), (.lit 3 []), (.val (.int .i64 0)), (.lit 1 [])])⟩, ⟨none, none, (.st (.t 13) 6 (.t 51))⟩, ⟨(some 14), none, (.mov (.t 52))⟩, ⟨(some 15), none, (.mov (.t 53))⟩, ⟨(some 16), none, (.mov (.t 54))⟩]) (.seq (.ops [⟨(some 56), none, (.bld [(.val (.int .i64 0)), (.val (.int .i64 0)), (.lit 5 []), (.lit 3 []), (.val (.int .i64 0)), (.lit 1 [])] [])⟩, ⟨(some 57), none, (.call 15 [(.t 56)])⟩, ⟨(some 55), none, (.mov (.t 57))⟩, ⟨(some 58), none, (.ext (.t 55) 0)⟩, ⟨(some 59), none, (.ext (.t 55) 1)⟩, ⟨(some 17), none, (.mov (.t 58))⟩, ⟨(some 18), none, (.mov (.t 59))⟩]) (.seq (.ops [⟨(some 61), none, (.call 16 [(.c (.slice none 0 0))])⟩, ⟨(some 60), none, (.mov (.t 61))⟩, ⟨(some 62), none, (.ext (.t 60) 0)⟩, ⟨(some 63), none, (.ext (.t 60) 1)⟩, ⟨(some 19), none, (.alc [(.val (.int .i64 0)), (.val (.int .i64 0)), (.lit 5 []), (.lit 3 []), (.val (.int .i64 0)), (.lit 1 [])])⟩, ⟨none, none, (.st (.t 19) 6 (.t 62))⟩, ⟨(some 20), none, (.mov (.t 63))⟩]) (.seq (.seq (.ops [⟨(some 64), none, (.mov (.t 7))⟩, ⟨(some 65), none, (.len (.t 64))⟩, ⟨(some 66), none, (.bin .neq (.t 65) (.c (.int .i64 2)))⟩]) (.cond (.t 66) (.seq (.ops [⟨(some 0), none, (.mov (.c (.bool false)))⟩]) .ret) .skip)) (.seq (.ops [⟨(some 67), none, (.ld (.t 1) (some 6))⟩, ⟨(some 68), none, (.ld (.t 5) (some 6))⟩, ⟨(some 69), none, (.call 12 [(.t 67), (.t 68)])⟩, ⟨(some 70), none, (.mov (.t 69))⟩, ⟨(some 71), (some (70, true)), (.ld (.t 1) (some 6))⟩, ⟨(some 72), (some (70, true)), (.ld (.t 9) (some 6))⟩, ⟨(some 73), (some (70, true)), (.call 12 [(.t 71), (.t 72)])⟩, ⟨(some 74), none, (.pick (.t 70) (.t 73) (.c (.bool false)))⟩, ⟨(some 21), none, (.mov (.t 74))⟩]) (.seq (.ops [⟨(some 75), none, (.mov (.t 4))⟩, ⟨(some 76), none, (.bin .eql (.t 75) (.c (.int .i64 0)))⟩, ⟨(some 77), none, (.mov (.t 76))⟩, ⟨(some 78), (some (77, true)), (.mov (.t 6))⟩, ⟨(some 79), (some (77, true)), (.bin .eql (.t 78) (.c (.int .i64 0)))⟩, ⟨(some 80), none, (.pick (.t 77) (.t 79) (.c (.bool false)))⟩, ⟨(some 81), none, (.mov (.t 80))⟩, ⟨(some 82), (some (81, true)), (.mov (.t 21))⟩, ⟨(some 83), none, (.pick (.t 81) (.t 82) (.c (.bool false)))⟩, ⟨(some 84), none, (.mov (.t 83))⟩, ⟨(some 85), (some (84, true)), (.mov (.t 8))⟩, ⟨(some 86), (some (84, true)), (.bin .eql (.t 85) (.c (.int .i64 0)))⟩, ⟨(some 87), none, (.pick (.t 84) (.t 86) (.c (.bool false)))⟩, ⟨(some 88), none, (.mov (.t 87))⟩, ⟨(some 89), (some (88, true)), (.mov (.t 7))⟩, ⟨(some 90), (some (88, true)), (.ixs (.t 89) (.c (.int .i64 0)) 3)⟩, ⟨(some 91), (some (88, true)), (.fad (.t 90) 0)⟩, ⟨(some 92), (some (88, true)), (.lde (.t 91) none)⟩, ⟨(some 93), (some (88, true)), (.bin .eql (.t 92) (.c (.int .i64 2)))⟩, ⟨(some 94), none, (.pick (.t 88) (.t 93) (.c (.bool false)))⟩, ⟨(some 95), none, (.mov (.t 94))⟩, ⟨(some 96), (some (95, true)), (.mov (.t 7))⟩, ⟨(some 97), (some (95, true)), (.ixs (.t 96) (.c (.int .i64 1)) 3)⟩, ⟨(some 98), (some (95, true)), (.fad (.t 97) 0)⟩, ⟨(some 99), (some (95, true)), (.lde (.t 98) none)⟩, ⟨(some 100), (some (95, true)), (.bin .eql (.t 99) (.c (.int .i64 3)))⟩, ⟨(some 101), none, (.pick (.t 95) (.t 100) (.c (.bool false)))⟩, ⟨(some 102), none, (.mov (.t 101))⟩, ⟨(some 103), (some (102, true)), (.mov (.t 7))⟩, ⟨(some 104), (some (102, true)), (.ixs (.t 103) (.c (.int .i64 1)) 3)⟩, ⟨(some 105), (some (102, true)), (.fad (.t 104) 1)⟩, ⟨(some 106), (some (102, true)), (.lde (.t 105) none)⟩, ⟨(some 107), (some (102, true)), (.bin .eql (.t 106) (.c (.int .i64 6)))⟩, ⟨(some 108), none, (.pick (.t 102) (.t 107) (.c (.bool false)))⟩, ⟨(some 109), none, (.mov (.t 108))⟩, ⟨(some 110), (some (109, true)), (.mov (.t 10))⟩, ⟨(some 111), (some (109, true)), (.bin .eql (.t 110) (.c (.int .i64 5)))⟩, ⟨(some 112), none, (.pick (.t 109) (.t 111) (.c (.bool false)))⟩, ⟨(some 113), none, (.mov (.t 112))⟩, ⟨(some 114), (some (113, true)), (.mov (.t 11))⟩, ⟨(some 115), (some (113, true)), (.bin .eql (.t 114) (.c (.int .i64 6)))⟩, ⟨(some 116), none, (.pick (.t 113) (.t 115) (.c (.bool false)))⟩, ⟨(some 117), none, (.mov (.t 116))⟩, ⟨(some 118), (some (117, true)), (.mov (.t 12))⟩, ⟨(some 119), (some (117, true)), (.bin .eql (.t 118) (.c (.int .i64 0)))⟩, ⟨(some 120), none, (.pick (.t 117) (.t 119) (.c (.bool false)))⟩, ⟨(some 121), none, (.mov (.t 120))⟩, ⟨(some 122), (some (121, true)), (.mov (.t 16))⟩, ⟨(some 123), (some (121, true)), (.bin .eql (.t 122) (.c (.int .i64 120)))⟩, ⟨(some 124), none, (.pick (.t 121) (.t 123) (.c (.bool false)))⟩, ⟨(some 125), none, (.mov (.t 124))⟩, ⟨(some 126), (some (125, true)), (.mov (.t 18))⟩, ⟨(some 127), (some (125, true)), (.bin .eql (.t 126) (.c (.int .i64 110)))⟩, ⟨(some 128), none, (.pick (.t 125) (.t 127) (.c (.bool false)))⟩, ⟨(some 129), none, (.mov (.t 128))⟩, ⟨(some 130), (some (129, true)), (.mov (.t 20))⟩, ⟨(some 131), (some (129, true)), (.bin .eql (.t 130) (.c (.int .i64 120)))⟩, ⟨(some 132), none, (.pick (.t 129) (.t 131) (.c (.bool false)))⟩, ⟨(some 133), none, (.mov (.t 132))⟩, ⟨(some 134), none, (.pick (.t 133) (.c (.bool true)) (.c (.bool false)))⟩, ⟨(some 0), none, (.mov (.t 134))⟩]) .ret)))))))))))), 135, [(.tmp 0)]⟩
theorem F_w12_awake_ok : compF Tryz.prog (fun _ => true) 4 = some F_w12_awake := by kernel_rfl
@[simp] abbrev n_w12_found : FuncId := 17
def F_w12_found_L0 : C := (.seq (.seq (.ops [⟨(some 5), none, (.mov (.t 4))⟩, ⟨(some 6), none, (.mov (.t 0))⟩, ⟨(some 7), none, (.len (.t 6))⟩, ⟨(some 8), none, (.bin .lss (.t 5) (.t 7))⟩]) (.cond (.t 8) .skip (.exit 0))) (.seq (.block 1 (.ops [⟨(some 11), none, (.mov (.t 3))⟩, ⟨(some 12), none, (.mov (.t 0))⟩, ⟨(some 13), none, (.mov (.t 4))⟩, ⟨(some 14), none, (.ixs (.t 12) (.t 13) 3)⟩, ⟨(some 15), none, (.lde (.t 14) (some 3))⟩, ⟨(some 16), none, (.bld [(.val (.int .i64 0)), (.val (.int .i64 0)), (.lit 1 []), (.val (.int .i64 0)), (.val (.int .i64 0))] [(0, (3, (.t 15)))])⟩, ⟨(some 17), none, (.mkl 81 5 [(.t 16)] false)⟩, ⟨(some 18), none, (.app (.t 11) (.t 17) 81 5 56 true)⟩, ⟨(some 3), none, (.mov (.t 18))⟩])) (.ops [⟨(some 9), none, (.mov (.t 4))⟩, ⟨(some 10), none, (.bin .add (.t 9) (.c (.int .i64 1)))⟩, ⟨(some 4), none, (.mov (.t 10))⟩])))
def F_w12_found : F := ⟨(.seq (.ops [⟨(some 2), none, (.nil 81 5 true)⟩]) (.seq (.ops [⟨(some 3), none, (.nil 81 5 true)⟩]) (.seq (.seq (.ops [⟨(some 4), none, (.mov (.c (.int .i64 0)))⟩]) (.block 0 (.loop F_w12_found_L0))) (.seq (.ops [⟨(some 19), none, (.mov (.t 3))⟩, ⟨(some 2), none, (.mov (.t 19))⟩]) .ret)))), 20, [(.tmp 2)]⟩
theorem F_w12_found_ok : compF Tryz.prog (fun d => !([17].contains d)) 17 = some F_w12_found := by kernel_rfl
@[simp] abbrev n_w11_Few : FuncId := 5
def F_w11_Few_L0 : C := (.seq (.seq (.ops [⟨(some 20), none, (.mov (.t 3))⟩, ⟨(some 21), none, (.fad (.t 1) 3)⟩, ⟨(some 22), none, (.ld (.t 21) none)⟩, ⟨(some 23), none, (.len (.t 22))⟩, ⟨(some 24), none, (.bin .lss (.t 20) (.t 23))⟩]) (.cond (.t 24) .skip (.exit 0))) (.seq (.block 1 (.seq (.ops [⟨(some 27), none, (.fad (.t 1) 3)⟩, ⟨(some 28), none, (.ld (.t 27) none)⟩, ⟨(some 29), none, (.mov (.t 3))⟩, ⟨(some 30), none, (.ixs (.t 28) (.t 29) 3)⟩, ⟨(some 31), none, (.fad (.t 30) 2)⟩, ⟨(some 32), none, (.lde (.t 31) none)⟩, ⟨(some 33), none, (.call 18 [(.t 32)])⟩, ⟨(some 34), none, (.un .not (.t 33))⟩]) (.cond (.t 34) (.seq (.ops [⟨(some 2), none, (.mov (.c (.bool false)))⟩]) .ret) .skip))) (.ops [⟨(some 25), none, (.mov (.t 3))⟩, ⟨(some 26), none, (.bin .add (.t 25) (.c (.int .i64 1)))⟩, ⟨(some 3), none, (.mov (.t 26))⟩])))
def F_w11_Few : F := ⟨(.seq (.ops [⟨(some 1), none, (.box (.t 0))⟩, ⟨(some 2), none, (.mov (.c (.bool false)))⟩]) (.seq (.seq (.ops [⟨(some 4), none, (.fad (.t 1) 3)⟩, ⟨(some 5), none, (.ld (.t 4) none)⟩, ⟨(some 6), none, (.len (.t 5))⟩, ⟨(some 7), none, (.bin .gtr (.t 6) (.c (.int .i64 10)))⟩, ⟨(some 8), none, (.mov (.t 7))⟩, ⟨(some 9), (some (8, false)), (.fad (.t 1) 5)⟩, ⟨(some 10), (some (8, false)), (.ld (.t 9) none)⟩, ⟨(some 11), (some (8, false)), (.len (.t 10))⟩, ⟨(some 12), (some (8, false)), (.bin .gtr (.t 11) (.c (.int .i64 6000)))⟩, ⟨(some 13), none, (.pick (.t 8) (.c (.bool true)) (.t 12))⟩, ⟨(some 14), none, (.mov (.t 13))⟩, ⟨(some 15), (some (14, false)), (.fad (.t 1) 2)⟩, ⟨(some 16), (some (14, false)), (.ld (.t 15) none)⟩, ⟨(some 17), (some (14, false)), (.call 18 [(.t 16)])⟩, ⟨(some 18), (some (14, false)), (.un .not (.t 17))⟩, ⟨(some 19), none, (.pick (.t 14) (.c (.bool true)) (.t 18))⟩]) (.cond (.t 19) (.seq (.ops [⟨(some 2), none, (.mov (.c (.bool false)))⟩]) .ret) .skip)) (.seq (.seq (.ops [⟨(some 3), none, (.mov (.c (.int .i64 0)))⟩]) (.block 0 (.loop F_w11_Few_L0))) (.seq (.ops [⟨(some 2), none, (.mov (.c (.bool true)))⟩]) .ret)))), 35, [(.tmp 2)]⟩
theorem F_w11_Few_ok : compF Tryz.prog (fun _ => true) 5 = some F_w11_Few := by kernel_rfl
@[simp] abbrev n_w07_Few : FuncId := 18
def F_w07_Few_L0 : C := (.seq (.seq (.ops [⟨(some 7), none, (.mov (.t 3))⟩, ⟨(some 8), none, (.mov (.t 0))⟩, ⟨(some 9), none, (.len (.t 8))⟩, ⟨(some 10), none, (.bin .lss (.t 7) (.t 9))⟩]) (.cond (.t 10) .skip (.exit 0))) (.seq (.block 1 (.seq (.ops [⟨(some 13), none, (.mov (.t 0))⟩, ⟨(some 14), none, (.mov (.t 3))⟩, ⟨(some 15), none, (.ixs (.t 13) (.t 14) 5)⟩, ⟨(some 16), none, (.fad (.t 15) 4)⟩, ⟨(some 17), none, (.lde (.t 16) none)⟩, ⟨(some 18), none, (.len (.t 17))⟩, ⟨(some 19), none, (.bin .gtr (.t 18) (.c (.int .i64 3000)))⟩]) (.cond (.t 19) (.seq (.ops [⟨(some 2), none, (.mov (.c (.bool false)))⟩]) .ret) .skip))) (.ops [⟨(some 11), none, (.mov (.t 3))⟩, ⟨(some 12), none, (.bin .add (.t 11) (.c (.int .i64 1)))⟩, ⟨(some 3), none, (.mov (.t 12))⟩])))
def F_w07_Few : F := ⟨(.seq (.ops [⟨(some 2), none, (.mov (.c (.bool false)))⟩]) (.seq (.seq (.ops [⟨(some 4), none, (.mov (.t 0))⟩, ⟨(some 5), none, (.len (.t 4))⟩, ⟨(some 6), none, (.bin .gtr (.t 5) (.c (.int .i64 70)))⟩]) (.cond (.t 6) (.seq (.ops [⟨(some 2), none, (.mov (.c (.bool false)))⟩]) .ret) .skip)) (.seq (.seq (.ops [⟨(some 3), none, (.mov (.c (.int .i64 0)))⟩]) (.block 0 (.loop F_w07_Few_L0))) (.seq (.ops [⟨(some 2), none, (.mov (.c (.bool true)))⟩]) .ret)))), 20, [(.tmp 2)]⟩
theorem F_w07_Few_ok : compF Tryz.prog (fun _ => true) 18 = some F_w07_Few := by kernel_rfl
end Go.Av
