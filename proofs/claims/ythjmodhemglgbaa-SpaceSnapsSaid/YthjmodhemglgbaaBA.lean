/-
  AvA: Abstract values, and what they say of values in memory.
  AvB: The abstract memory, the compact operations, and how they are reckoned.
  AvC: The abstract memory against the world: what holds, and how it is kept.
  AvD: Stores into boxes, and appends to rows.
  AvE: Operations without calls: from the model's to the compact ones, and that these are sound.
  AvF: Operations on memory.
  AvG: Operations that make memory.
  AvH: New slices, and append.
  AvI: Append; cuts; strings of bytes.
  AvJ: Cuts; bytes as a string; all kinds together.
-/
import Derived.Below
import Derived.Orders
import Derived.WideLaws
import Derived.Maps.AppendAt
import Derived.Deep.MidRow
import Derived.Deep.Draws
import Derived.Laws.Entries
import Derived.Great.FillDense
import Derived.Great.BuildSlice
import Derived.Laws.MakeOwn
import Derived.Laws.BytesString
set_option linter.unusedSimpArgs false
set_option linter.unusedVariables false

namespace Go.Av
open Go.RowKit

/-- What a box's name may be: a map, or a slice that may be written. -/
inductive Rk where
  | map
  | sli (off sz n : Nat)
def Rk.val : Rk → Nat → Nat → Value
  | .map, g, _ => .map (some g)
  | .sli off _ n, g, c => .slice (some ⟨g, off, none⟩) n c
def Rk.cnt : Rk → Nat
  | .map => 0
  | .sli _ _ n => n

/-- An abstract value: scalars as they are; aggregates by cells; slices by what they hold. -/
inductive V where
  | val (v : Value)
  | agg (l : List V)
  | lit (sz : Nat) (xs : List (List V))
  | full (sz : Nat) (xs : List (List V))
  | row (t sz : Nat) (xs : List (List V))
  | ptr (b off : Nat)
  | eptr (cs : List V)
  | func (f : FuncId) (cap : List V)
  | iface (t : TypeId) (v : V)
  | tuple (l : List V)
  | yld (b : Nat)
  | ref (k : Rk) (b : Nat)
  /-- A slice of nothing that is not nil. -/
  | emp (sz : Nat)
  /-- Whatever it is: it is not looked at. -/
  | any
  /-- One of these. -/
  | alts (l : List V)
  /-- Whatever lies in one cell: it is not looked at. -/
  | anyc
  /-- A slice of a box that may be written, and appended to: where it begins, the cells of an element, how many elements it has, and may have at least. -/
  | buf (off sz n lc b : Nat)

instance : Inhabited V := ⟨.tuple []⟩

def plain : Value → Bool
  | .bool _ | .int _ _ | .float _ _ | .complex _ _ _ | .string _ | .nilFunc | .nilIface => true
  | .pointer none | .map none | .slice none 0 0 => true
  | .func _ f c => f.isEmpty && c.isEmpty
  | _ => false

/-- The state of a loop over a function. -/
inductive St where
  | ready
  | busy
  | exit (id : Nat)
  | goto (l : Nat)
  | ret

/-- Where boxes and rows lie, and which cells stay as they are. -/
structure Mp where
  β : List Nat
  γ : List (List (Nat × Nat × Nat))
  I : Nat → Nat → Prop
  /-- Boxes that hold no cells, but an object, by its state. -/
  κ : Nat → Option (St → Obj) := fun _ => none
  /-- How many cells the block of a box has at least. -/
  ζ : Nat → Nat := fun _ => 0

mutual
/-- No box, no row of its own: it says the same in whatever memory. -/
def V.isClean : V → Bool
  | .val _ => true
  | .agg l => cleanL l
  | .lit _ xs => cleanX xs
  | .full _ xs => cleanX xs
  | .emp _ | .any | .anyc => true
  | .row _ _ _ | .ptr _ _ | .yld _ | .ref _ _ | .buf _ _ _ _ _ => false
  | .eptr cs => cleanL cs
  | .func _ cap => cleanL cap
  | .iface _ v => v.isClean
  | .tuple l => cleanL l
  | .alts l => cleanL l
def cleanL : List V → Bool
  | [] => true
  | v :: l => v.isClean && cleanL l
def cleanX : List (List V) → Bool
  | [] => true
  | e :: r => cleanL e && cleanX r
end

mutual
def Rep (M : Mp) (w : World) : V → Value → Prop
  | .val v, x => x = v ∧ plain v = true
  | .agg l, x => ∃ vs : Array Value, x = .agg vs ∧ RepL M w l vs.toList
  | .lit sz xs, x => (xs = [] ∧ x = .slice none 0 0) ∨ ∃ ad c, x = .slice (some ad) xs.length c ∧ xs.length ≤ c ∧ (xs = [] ∨ ad.spot = none) ∧ (∀ e ∈ xs, e.length = sz) ∧ RepX M w xs ad.block ad.off
  | .full sz xs, x => (xs = [] ∧ x = .slice none 0 0) ∨ ∃ ad, x = .slice (some ad) xs.length xs.length ∧ (xs = [] ∨ ad.spot = none) ∧ (∀ e ∈ xs, e.length = sz) ∧ RepX M w xs ad.block ad.off
  | .row t sz xs, x => ∃ G, M.γ[t]? = some G ∧ ((xs = [] ∧ x = .slice none 0 0) ∨ ∃ g c, x = .slice (some ⟨g, 0, none⟩) xs.length c ∧ xs.length ≤ c ∧ (∀ e ∈ xs, e.length = sz) ∧ RepX M w xs g 0 ∧ (xs.length, g, c) ∈ G)
  | .emp _, x => ∃ ad c, x = .slice (some ad) 0 c
  | .ptr b off, x => ∃ g, x = .pointer (some ⟨g, off, none⟩) ∧ M.β[b]? = some g
  | .eptr cs, x => ∃ ad : Addr, x = .pointer (some ad) ∧ ad.spot = none ∧ RepC M w cs ad.block ad.off
  | .func f cap, x => ∃ vs : Array Value, x = .func (.func f) #[] vs ∧ RepL M w cap vs.toList
  | .iface t v, x => ∃ y, x = .iface t y ∧ Rep M w v y
  | .tuple l, x => ∃ vs : Array Value, x = .tuple vs ∧ RepL M w l vs.toList
  | .yld b, x => ∃ g, x = .func (.yield g) #[] #[] ∧ M.β[b]? = some g
  | .ref k b, x => ∃ g c, x = k.val g c ∧ k.cnt ≤ c ∧ M.β[b]? = some g
  | .any, _ => True
  | .anyc, x => x.oneCell' = true
  | .alts l, x => cleanL l = true ∧ RepA M w l x
  | .buf off sz n lc b, x => ∃ g c, x = .slice (some ⟨g, off, none⟩) n c ∧ n ≤ lc ∧ lc ≤ c ∧ c ≤ maxLen ∧ M.β[b]? = some g ∧ off + c * sz ≤ M.ζ b
def RepA (M : Mp) (w : World) : List V → Value → Prop
  | [], _ => False
  | v :: l, x => Rep M w v x ∨ RepA M w l x
def RepL (M : Mp) (w : World) : List V → List Value → Prop
  | [], ys => ys = []
  | v :: l, ys => ∃ x m, ys = x :: m ∧ Rep M w v x ∧ RepL M w l m
def RepC (M : Mp) (w : World) : List V → Nat → Nat → Prop
  | [], _, _ => True
  | v :: l, b, o => (∃ x, M.I b o ∧ w.cell? ⟨b, o, none⟩ = some x ∧ x.oneCell' = true ∧ Rep M w v x) ∧ RepC M w l b (o + 1)
def RepX (M : Mp) (w : World) : List (List V) → Nat → Nat → Prop
  | [], _, _ => True
  | e :: r, b, o => RepC M w e b o ∧ RepX M w r b (o + e.length)
end

structure Ext (M M' : Mp) (w w' : World) : Prop where
  β : ∀ (b g : Nat), M.β[b]? = some g → M'.β[b]? = some g
  γ : ∀ (t : Nat) (G : List (Nat × Nat × Nat)), M.γ[t]? = some G → ∃ G' : List (Nat × Nat × Nat), M'.γ[t]? = some G' ∧ ∀ e ∈ G, e ∈ G'
  I : ∀ (b o : Nat), M.I b o → M'.I b o ∧ w'.cell? ⟨b, o, none⟩ = w.cell? ⟨b, o, none⟩
  κ : ∀ i, i < M.β.length → M'.κ i = M.κ i
  ζ : ∀ i, i < M.β.length → M'.ζ i = M.ζ i

theorem Ext.refl (M : Mp) (w : World) : Ext M M w w := ⟨fun _ _ h => h, fun _ G h => ⟨G, h, fun _ h => h⟩, fun _ _ h => ⟨h, rfl⟩, fun _ _ => rfl, fun _ _ => rfl⟩
theorem Ext.len {M M' : Mp} {w w' : World} (h : Ext M M' w w') {i : Nat} (hi : i < M.β.length) : i < M'.β.length := (List.getElem?_eq_some_iff.1 (h.β i _ (List.getElem?_eq_getElem hi))).1
theorem Ext.trans {A B C : Mp} {a b c : World} (h : Ext A B a b) (k : Ext B C b c) : Ext A C a c :=
  ⟨fun x g hx => k.β x g (h.β x g hx), fun t G hG => by
    obtain ⟨G1, h1, i1⟩ := h.γ t G hG
    obtain ⟨G2, h2, i2⟩ := k.γ t G1 h1
    exact ⟨G2, h2, fun e he => i2 e (i1 e he)⟩, fun x o hi => ⟨(k.I x o (h.I x o hi).1).1, (k.I x o (h.I x o hi).1).2.trans (h.I x o hi).2⟩, fun i hi => (k.κ i (h.len hi)).trans (h.κ i hi), fun i hi => (k.ζ i (h.len hi)).trans (h.ζ i hi)⟩

mutual
theorem Rep.mono {M M' : Mp} {w w' : World} (hE : Ext M M' w w') : ∀ (v : V) (x : Value), Rep M w v x → Rep M' w' v x
  | .val _, _, h => h
  | .agg l, x, h => by
    obtain ⟨vs, rfl, h⟩ := h
    exact ⟨vs, rfl, RepL.mono hE l _ h⟩
  | .lit sz xs, x, h => by
    rcases h with h | ⟨ad, c, rfl, h1, h2, h3, h4⟩
    · exact .inl h
    · exact .inr ⟨ad, c, rfl, h1, h2, h3, RepX.mono hE xs _ _ h4⟩
  | .full sz xs, x, h => by
    rcases h with h | ⟨ad, rfl, h2, h3, h4⟩
    · exact .inl h
    · exact .inr ⟨ad, rfl, h2, h3, RepX.mono hE xs _ _ h4⟩
  | .row t sz xs, x, h => by
    obtain ⟨G, h4, h⟩ := h
    obtain ⟨G', h6, h7⟩ := hE.γ _ _ h4
    rcases h with h | ⟨g, c, rfl, h1, h2, h3, h5⟩
    · exact ⟨G', h6, .inl h⟩
    · exact ⟨G', h6, .inr ⟨g, c, rfl, h1, h2, RepX.mono hE xs _ _ h3, h7 _ h5⟩⟩
  | .emp _, _, h => h
  | .any, _, _ => trivial
  | .anyc, _, h => h
  | .ptr b off, x, h => by
    obtain ⟨g, rfl, h⟩ := h
    exact ⟨g, rfl, hE.β _ _ h⟩
  | .eptr cs, x, h => by
    obtain ⟨ad, rfl, h1, h2⟩ := h
    exact ⟨ad, rfl, h1, RepC.mono hE cs _ _ h2⟩
  | .func f cap, x, h => by
    obtain ⟨vs, rfl, h⟩ := h
    exact ⟨vs, rfl, RepL.mono hE cap _ h⟩
  | .iface t v, x, h => by
    obtain ⟨y, rfl, h⟩ := h
    exact ⟨y, rfl, Rep.mono hE v y h⟩
  | .tuple l, x, h => by
    obtain ⟨vs, rfl, h⟩ := h
    exact ⟨vs, rfl, RepL.mono hE l _ h⟩
  | .yld b, x, h => by
    obtain ⟨g, rfl, h⟩ := h
    exact ⟨g, rfl, hE.β _ _ h⟩
  | .ref k b, x, h => by
    obtain ⟨g, c, rfl, hc, h⟩ := h
    exact ⟨g, c, rfl, hc, hE.β _ _ h⟩
  | .alts l, x, h => ⟨h.1, RepA.mono hE l x h.2⟩
  | .buf off sz n lc b, x, h => by
    obtain ⟨g, c, rfl, h1, h2, h5, h3, h4⟩ := h
    exact ⟨g, c, rfl, h1, h2, h5, hE.β _ _ h3, by rw [hE.ζ b (List.getElem?_eq_some_iff.1 h3).1]; exact h4⟩
theorem RepA.mono {M M' : Mp} {w w' : World} (hE : Ext M M' w w') : ∀ (l : List V) (x : Value), RepA M w l x → RepA M' w' l x
  | [], _, h => h.elim
  | v :: l, x, h => h.imp (Rep.mono hE v x) (RepA.mono hE l x)
theorem RepL.mono {M M' : Mp} {w w' : World} (hE : Ext M M' w w') : ∀ (l : List V) (m : List Value), RepL M w l m → RepL M' w' l m
  | [], _, h => h
  | v :: l, m, h => by
    obtain ⟨x, r, rfl, h1, h2⟩ := h
    exact ⟨x, r, rfl, Rep.mono hE v x h1, RepL.mono hE l r h2⟩
theorem RepC.mono {M M' : Mp} {w w' : World} (hE : Ext M M' w w') : ∀ (l : List V) (b o : Nat), RepC M w l b o → RepC M' w' l b o
  | [], _, _, _ => trivial
  | v :: l, b, o, h => by
    obtain ⟨⟨x, h1, h2, h3, h4⟩, h5⟩ := h
    exact ⟨⟨x, (hE.I b o h1).1, (hE.I b o h1).2.trans h2, h3, Rep.mono hE v x h4⟩, RepC.mono hE l b (o + 1) h5⟩
theorem RepX.mono {M M' : Mp} {w w' : World} (hE : Ext M M' w w') : ∀ (l : List (List V)) (b o : Nat), RepX M w l b o → RepX M' w' l b o
  | [], _, _, _ => trivial
  | e :: r, b, o, h => ⟨RepC.mono hE e b o h.1, RepX.mono hE r b (o + e.length) h.2⟩
end

theorem repA_iff {M : Mp} {w : World} {x : Value} : ∀ {l : List V}, RepA M w l x ↔ ∃ v ∈ l, Rep M w v x
  | [] => by simp [RepA]
  | v :: l => by simp [RepA, repA_iff (l := l)]
theorem RepL.length {M : Mp} {w : World} : ∀ {l : List V} {m : List Value}, RepL M w l m → m.length = l.length
  | [], _, h => by simp only [RepL] at h; subst h; rfl
  | v :: l, _, h => by
    obtain ⟨x, r, rfl, _, h2⟩ := h
    simp [RepL.length h2]
theorem RepL.get {M : Mp} {w : World} : ∀ {l : List V} {m : List Value}, RepL M w l m → ∀ {i : Nat} {v : V}, l[i]? = some v → ∃ x, m[i]? = some x ∧ Rep M w v x
  | [], _, _, i, v, h => by simp at h
  | u :: l, _, h, i, v, hi => by
    obtain ⟨x, r, rfl, h1, h2⟩ := h
    cases i with
    | zero => simp at hi; subst hi; exact ⟨x, rfl, h1⟩
    | succ i => simpa using RepL.get h2 (by simpa using hi)
theorem RepL.of_get {M : Mp} {w : World} : ∀ {l : List V} {m : List Value}, m.length = l.length → (∀ (i : Nat) (v : V) (x : Value), l[i]? = some v → m[i]? = some x → Rep M w v x) → RepL M w l m
  | [], m, h, _ => by simp only [RepL]; exact List.eq_nil_of_length_eq_zero (by simpa using h)
  | u :: l, [], h, _ => by simp at h
  | u :: l, x :: m, h, hk => ⟨x, m, rfl, hk 0 u x rfl rfl, RepL.of_get (by simpa using h) (fun i v y hv hy => hk (i + 1) v y (by simpa using hv) (by simpa using hy))⟩
theorem RepL.append {M : Mp} {w : World} : ∀ {l l' : List V} {m m' : List Value}, RepL M w l m → RepL M w l' m' → RepL M w (l ++ l') (m ++ m')
  | [], _, _, _, h, h' => by simp only [RepL] at h; subst h; exact h'
  | u :: l, _, _, _, h, h' => by
    obtain ⟨x, r, rfl, h1, h2⟩ := h
    exact ⟨x, _, rfl, h1, RepL.append h2 h'⟩
theorem RepC.get {M : Mp} {w : World} : ∀ {l : List V} {b o : Nat}, RepC M w l b o → ∀ {i : Nat} {v : V}, l[i]? = some v → ∃ x, M.I b (o + i) ∧ w.cell? ⟨b, o + i, none⟩ = some x ∧ x.oneCell' = true ∧ Rep M w v x
  | [], _, _, _, i, v, h => by simp at h
  | u :: l, b, o, h, i, v, hi => by
    cases i with
    | zero => simp at hi; subst hi; exact h.1
    | succ i =>
      have := RepC.get h.2 (i := i) (v := v) (by simpa using hi)
      rwa [show o + 1 + i = o + (i + 1) by omega] at this
theorem RepC.of_get {M : Mp} {w : World} : ∀ {l : List V} {b o : Nat}, (∀ (i : Nat) (v : V), l[i]? = some v → ∃ x, M.I b (o + i) ∧ w.cell? ⟨b, o + i, none⟩ = some x ∧ x.oneCell' = true ∧ Rep M w v x) → RepC M w l b o
  | [], _, _, _ => trivial
  | u :: l, b, o, h => ⟨h 0 u rfl, RepC.of_get (fun i v hi => by
    have := h (i + 1) v (by simpa using hi)
    rwa [show o + (i + 1) = o + 1 + i by omega] at this)⟩
theorem RepC.drop {M : Mp} {w : World} {l : List V} {b o : Nat} (h : RepC M w l b o) (n : Nat) : RepC M w (l.drop n) b (o + n) :=
  RepC.of_get fun i v hi => by
    rw [List.getElem?_drop] at hi
    have := h.get hi
    rwa [show o + (n + i) = o + n + i by omega] at this
theorem RepC.take {M : Mp} {w : World} {l : List V} {b o : Nat} (h : RepC M w l b o) (n : Nat) : RepC M w (l.take n) b o :=
  RepC.of_get fun i v hi => by
    rw [List.getElem?_take] at hi
    split at hi
    · exact h.get hi
    · cases hi
theorem RepX.flat {M : Mp} {w : World} : ∀ {xs : List (List V)} {b o : Nat}, RepX M w xs b o → RepC M w xs.flatten b o
  | [], _, _, _ => trivial
  | e :: r, b, o, h => by
    have h2 := RepX.flat h.2
    rw [List.flatten_cons]
    exact RepC.of_get fun i v hi => by
      rw [List.getElem?_append] at hi
      split at hi
      · exact h.1.get hi
      · rename_i hlt
        have := h2.get hi
        rwa [show o + e.length + (i - e.length) = o + i by omega] at this
theorem RepX.of_flat {M : Mp} {w : World} : ∀ {xs : List (List V)} {b o : Nat}, RepC M w xs.flatten b o → RepX M w xs b o
  | [], _, _, _ => trivial
  | e :: r, b, o, h => by
    rw [List.flatten_cons] at h
    refine ⟨?_, RepX.of_flat ?_⟩
    · have := h.take e.length
      simpa using this
    · have := h.drop e.length
      simpa using this
theorem flatten_length {α : Type} {sz : Nat} : ∀ {xs : List (List α)}, (∀ e ∈ xs, e.length = sz) → xs.flatten.length = xs.length * sz
  | [], _ => by simp
  | e :: r, h => by
    rw [List.flatten_cons, List.length_append, h e (by simp), flatten_length (fun x hx => h x (by simp [hx])), List.length_cons, Nat.add_mul]
    omega
theorem flatten_drop {α : Type} {sz : Nat} : ∀ {xs : List (List α)}, (∀ e ∈ xs, e.length = sz) → ∀ n, (xs.drop n).flatten = xs.flatten.drop (n * sz)
  | [], _, n => by simp
  | e :: r, h, 0 => by simp
  | e :: r, h, n + 1 => by
    rw [List.drop_succ_cons, flatten_drop (fun x hx => h x (by simp [hx])) n, List.flatten_cons, Nat.add_mul, Nat.one_mul, Nat.add_comm, ← List.drop_drop, ← h e (by simp), List.drop_left]
theorem flatten_take {α : Type} {sz : Nat} : ∀ {xs : List (List α)}, (∀ e ∈ xs, e.length = sz) → ∀ n, (xs.take n).flatten = xs.flatten.take (n * sz)
  | [], _, n => by simp
  | e :: r, h, 0 => by simp
  | e :: r, h, n + 1 => by
    rw [List.take_succ_cons, List.flatten_cons, flatten_take (fun x hx => h x (by simp [hx])) n, List.flatten_cons, Nat.add_mul, Nat.one_mul, Nat.add_comm]
    rw [show sz + n * sz = e.length + n * sz by rw [h e (by simp)], List.take_length_add_append]
/-- An element's cells. -/
theorem RepX.elem {M : Mp} {w : World} {sz : Nat} {xs : List (List V)} {b o : Nat} (h : RepX M w xs b o) (hs : ∀ e ∈ xs, e.length = sz) {i : Nat} {e : List V} (hi : xs[i]? = some e) : RepC M w e b (o + i * sz) := by
  have h1 := h.flat.drop (i * sz)
  rw [← flatten_drop hs] at h1
  have h2 := List.getElem?_eq_some_iff.1 hi
  obtain ⟨hlt, he⟩ := h2
  rw [List.drop_eq_getElem_cons hlt, he, List.flatten_cons] at h1
  have := h1.take e.length
  simpa using this
theorem RepX.drop {M : Mp} {w : World} {sz : Nat} {xs : List (List V)} {b o : Nat} (h : RepX M w xs b o) (hs : ∀ e ∈ xs, e.length = sz) (n : Nat) : RepX M w (xs.drop n) b (o + n * sz) :=
  RepX.of_flat (by rw [flatten_drop hs]; exact h.flat.drop _)
theorem RepX.take {M : Mp} {w : World} {sz : Nat} {xs : List (List V)} {b o : Nat} (h : RepX M w xs b o) (hs : ∀ e ∈ xs, e.length = sz) (n : Nat) : RepX M w (xs.take n) b o :=
  RepX.of_flat (by rw [flatten_take hs]; exact h.flat.take _)
end Go.Av

namespace Go.Av
open Go.RowKit

structure Mem where
  boxes : List (List V)
  tips : List (TypeId × Nat × Nat)

/-- An operand. -/
inductive X where
  | t (n : Nat)
  | c (v : Value)
  | f (n : FuncId)

def X.ev (s : Nat → V) : X → V
  | .t n => s n
  | .c v => .val v
  | .f n => .func n []

/-- Operations on slices that are written: they lie in boxes. -/
inductive Mo where
  | frz
  | ixr (sz : Nat)
  | lnr
  | mkb (e sz bytes : Nat) (z : List V)
  | aeq (ne : Bool) (ks : List IntKind)
  | nck
  | cvf (k : FloatKind)
  | cpx
  | rei (im : Bool)
  | apb (e sz bytes : Nat)
  | eml (sz : Nat)
  /-- An append of which the answer is not looked at. -/
  | apx (e sz bytes : Nat)
  /-- A part of an array. -/
  | ixv (len sz : Nat)
inductive K where
  | mov (x : X)
  | pick (c a b : X)
  | bin (op : BinOp) (x y : X)
  | beq (ne : Bool) (x y : X)
  | snil (ne : Bool) (x : X)
  | un (op : UnOp) (x : X)
  | conv (k : IntKind) (x : X)
  | ext (x : X) (i : Nat)
  | fad (x : X) (off : Nat)
  | ld (x : X) (n : Option Nat)
  | lde (x : X) (n : Option Nat)
  | st (x : X) (n : Nat) (y : X)
  | ixs (x i : X) (sz : Nat)
  | ixa (x i : X) (len sz : Nat)
  | fld (x : X) (off : Nat) (n : Option Nat)
  | slc (x : X) (lo hi mx : Option X) (sz : Nat)
  | len (x : X)
  | slen (x : X)
  | mm (mx : Bool) (x y : X)
  | box (x : X)
  | alc (z : List V)
  | alr (e sz : Nat)
  | nil (e sz : Nat) (own : Bool)
  | bld (z : List V) (ps : List (Nat × Nat × X))
  | mkl (e sz : Nat) (xs : List X) (own : Bool)
  | app (x y : X) (e sz bytes : Nat) (own : Bool)
  | mks (n c : X) (e sz bytes : Nat) (z : List V) (own : Bool)
  | mkf (f : FuncId) (cap : List X)
  | b2s (x : X)
  | sidx (x i : X)
  | srg (x : X)
  | snx (x : X)
  | mkm
  | mup (x k y : X)
  | mlk (x k : X) (z : V) (ok : Bool)
  | mem (mo : Mo) (xs : List X)
  | dead
  | call (f : FuncId) (args : List X)
  | callq (f : FuncId) (args : List X)
  | callv (x : X) (args : List X)
  | callf (x : X) (args : List X) (fr : List Nat)
  /-- A call that reads boxes, and changes nothing. -/
  | callr (x : X) (args : List X)

structure O where
  d : Option Nat
  g : Option (Nat × Bool)
  k : K

def V.cells : V → List V
  | .agg l => l
  | v => [v]
/-- May it lie in one cell? -/
def V.one : V → Bool
  | .agg _ | .tuple _ | .any => false
  | .alts l => l.all fun v => match v with | .val _ => true | _ => false
  | _ => true
/-- What a slice holds; none: it is none. -/
def V.elems : V → Option (Nat × List (List V))
  | .lit sz xs => some (sz, xs)
  | .full sz xs => some (sz, xs)
  | .row _ sz xs => some (sz, xs)
  | .emp sz => some (sz, [])
  | _ => none
/-- A nil slice. -/
def V.isNil : V → Bool
  | .val (.slice none 0 0) => true
  | _ => false

def binV (op : BinOp) : V → V → Option V
  | .val (.int k a), .val (.int k' b) =>
    match op with
    | .shl => if b < 0 then none else some (.val (.int k (k.wrap (a * 2 ^ (min b.toNat k.bits)))))
    | .shr => if b < 0 then none else some (.val (.int k (a.fdiv (2 ^ (min b.toNat k.bits)))))
    | .add => if k = k' then some (.val (.int k (k.wrap (a + b)))) else none
    | .sub => if k = k' then some (.val (.int k (k.wrap (a - b)))) else none
    | .mul => if k = k' then some (.val (.int k (k.wrap (a * b)))) else none
    | .quo => if k = k' ∧ b ≠ 0 then some (.val (.int k (k.wrap (a.tdiv b)))) else none
    | .rem => if k = k' ∧ b ≠ 0 then some (.val (.int k (a.tmod b))) else none
    | .and => if k = k' then some (.val (.int k (k.wrap (BitVec.ofInt k.bits a &&& BitVec.ofInt k.bits b).toNat))) else none
    | .or => if k = k' then some (.val (.int k (k.wrap (BitVec.ofInt k.bits a ||| BitVec.ofInt k.bits b).toNat))) else none
    | .xor => if k = k' then some (.val (.int k (k.wrap (BitVec.ofInt k.bits a ^^^ BitVec.ofInt k.bits b).toNat))) else none
    | .andNot => none
    | .eql => if k = k' then some (.val (.bool (a == b))) else none
    | .neq => if k = k' then some (.val (.bool (a != b))) else none
    | .lss => if k = k' then some (.val (.bool (decide (a < b)))) else none
    | .leq => if k = k' then some (.val (.bool (decide (a ≤ b)))) else none
    | .gtr => if k = k' then some (.val (.bool (decide (a > b)))) else none
    | .geq => if k = k' then some (.val (.bool (decide (a ≥ b)))) else none
  | .val (.string a), .val (.string b) =>
    match op with
    | .eql => some (.val (.bool (a.toList == b.toList)))
    | .neq => some (.val (.bool (!(a.toList == b.toList))))
    | _ => none
  | .val (.float k a), .val (.float k' b) =>
    match op with
    | .eql => if k = k' then some (.val (.bool (Op.floatEq k a b))) else none
    | .neq => if k = k' then some (.val (.bool (!Op.floatEq k a b))) else none
    | _ => none
  | .val (.complex k a b), .val (.complex k' c d) =>
    match op with
    | .eql => if k = k' then some (.val (.bool (Op.floatEq k a c && Op.floatEq k b d))) else none
    | .neq => if k = k' then some (.val (.bool (!(Op.floatEq k a c && Op.floatEq k b d)))) else none
    | _ => none
  | _, _ => none

/-- No cells, but an object: a string that is ranged over, and the place. -/
def isObj : List V → Bool
  | [.tuple _] => true
  | _ => false
/-- The cells from an address on, to be read. -/
def V.at (m : Mem) : V → Option (List V)
  | .ptr b off => (m.boxes[b]?).bind fun cs => if isObj cs = true then none else some (cs.drop off)
  | .eptr cs => some cs
  | _ => none

/-- Some of the cells are others. -/
def fillV (cs : List V) (s : Nat → V) : List (Nat × Nat × X) → Option (List V)
  | [] => some cs
  | (off, n, x) :: r => if (x.ev s).cells.length = n ∧ off + n ≤ cs.length then fillV (cs.take off ++ (x.ev s).cells ++ cs.drop (off + n)) s r else none
/-- A new slice: a row of its own, or one that is only read. -/
def newV (own : Bool) (m : Mem) (e sz : Nat) (xs : List (List V)) : V × Mem :=
  if own = true then (.row m.tips.length sz xs, { m with tips := m.tips ++ [(e, sz, xs.length)] }) else (.lit sz xs, m)
def toBytes : List (List V) → Option (List UInt8)
  | [] => some []
  | [.val (.int .u8 n)] :: r => if 0 ≤ n ∧ n < 256 then (toBytes r).map (UInt8.ofNat n.toNat :: ·) else none
  | _ => none

/-- A third index is the second one. -/
def mxOk (s : Nat → V) (mx : Option X) (h : Int) : Bool := match mx with
  | none => true
  | some y => match y.ev s with
    | .val (.int _ n) => n == h
    | _ => false

/-- A map's entries, as a box holds them, and back. -/
def mpV (kvs : List (Int × V)) : List V := [.tuple [.tuple (kvs.map fun p => .tuple [.val (.int .i64 p.1), p.2])]]
def mpE : List V → Option (List (Int × V))
  | [] => some []
  | .tuple [.val (.int .i64 q), v] :: l => (mpE l).map ((q, v) :: ·)
  | _ => none
def mpO : List V → Option (List (Int × V))
  | [.tuple [.tuple l]] => mpE l
  | _ => none
/-- What stands at a key; it with a key's value. -/
def mpAt (kvs : List (Int × V)) (q : Int) : Option V := (kvs.find? fun p => p.1 == q).map (·.2)
def mpPut : List (Int × V) → Int → V → List (Int × V)
  | [], q, v => [(q, v)]
  | p :: l, q, v => if p.1 = q then (q, v) :: l else p :: mpPut l q v

/-- Cells, in pieces of so many. -/
def chunkV (sz : Nat) : Nat → List V → List (List V)
  | 0, _ => []
  | n + 1, l => l.take sz :: chunkV sz n (l.drop sz)
/-- A box that is not looked at any more. -/
def deadC : List V := [.tuple []]
/-- The numbers of a struct, or an array, of numbers. -/
def intsOf : List IntKind → List V → Option (List Int)
  | [], [] => some []
  | k :: ks, .val (.int q n) :: l => if q = k ∧ (Lit.int k n).wf = true then (intsOf ks l).map (n :: ·) else none
  | _, _ => none
/-- Nothing is appended to it. -/
def slE (u : V) : Bool := match u with
  | .val (.slice none 0 0) => true
  | .full _ [] => true
  | .buf .. => true
  | _ => false
/-- An append to what lies in a box: the box has another name behind it. -/
def apuE (sz bytes : Nat) (u : V) (ys : List (List V)) (m : Mem) : Option (V × Mem) := match u with
  | .val (.slice none 0 0) => if ys.length * bytes ≤ 140737488355328 then some (.buf 0 sz ys.length ys.length m.boxes.length, { m with boxes := m.boxes ++ [ys.flatten] }) else none
  | .full szx [] => if szx = sz ∧ ys.length * bytes ≤ 140737488355328 then some (.buf 0 sz ys.length ys.length m.boxes.length, { m with boxes := m.boxes ++ [ys.flatten] }) else none
  | .buf off szx n _ b => match m.boxes[b]? with
    | some cs => if off = 0 ∧ szx = sz ∧ (n + ys.length) * bytes ≤ 140737488355328 ∧ isObj cs = false ∧ n * sz ≤ cs.length then some (.buf 0 sz (n + ys.length) (n + ys.length) m.boxes.length, { m with boxes := m.boxes.set b deadC ++ [cs.take (n * sz) ++ ys.flatten] }) else none
    | none => none
  | _ => none
def apnE (sz bytes : Nat) (u v : V) (m : Mem) : Option (V × Mem) := match (if v.isNil = true then some (sz, []) else v.elems) with
  | some (sz', ys) => if sz' = sz then (if ys = [] then (if slE u = true then some (u, m) else none) else apuE sz bytes u ys m) else none
  | none => none
def memE (mo : Mo) (l : List V) (m : Mem) : Option (V × Mem) := match mo with
  | .frz => match l with
    | [.ref (.sli off sz n) b] => match m.boxes[b]? with
      | some cs => if isObj cs = false ∧ off + n * sz ≤ cs.length then some (.lit sz (chunkV sz n (cs.drop off)), { m with boxes := m.boxes.set b deadC }) else none
      | none => none
    | [.buf off sz n _ b] => match m.boxes[b]? with
      | some cs => if isObj cs = false ∧ off + n * sz ≤ cs.length then some (.lit sz (chunkV sz n (cs.drop off)), { m with boxes := m.boxes.set b deadC }) else none
      | none => none
    | [v] => if v.elems.isSome = true ∨ v.isNil = true then some (v, m) else none
    | _ => none
  | .ixr sz => match l with
    | [.ref (.sli off sz' n) b, .val (.int _ q)] => if sz' = sz ∧ 0 ≤ q ∧ q < n then some (.ptr b (off + q.toNat * sz), m) else none
    | [.buf off sz' n _ b, .val (.int _ q)] => if sz' = sz ∧ 0 ≤ q ∧ q < n then some (.ptr b (off + q.toNat * sz), m) else none
    | _ => none
  | .lnr => match l with
    | [.ref (.sli _ _ n) _] => some (.val (.int .i64 n), m)
    | [.buf _ _ n _ _] => some (.val (.int .i64 n), m)
    | [v] => (match v.elems with
      | some (_, xs) => some (.val (.int .i64 xs.length), m)
      | none => match v with
        | .val (.slice none 0 0) => some (.val (.int .i64 0), m)
        | _ => none)
    | _ => none
  | .mkb _ sz bytes z => match l with
    | [.val (.int .i64 a), .val (.int .i64 b)] => if a = b ∧ 0 ≤ a ∧ a * bytes ≤ 140737488355328 then some (.ref (.sli 0 sz a.toNat) m.boxes.length, { m with boxes := m.boxes ++ [(List.replicate a.toNat z).flatten] }) else none
    | _ => none
  | .nck => match l with
    | [.ptr b o] => some (.ptr b o, m)
    | [.eptr cs] => some (.eptr cs, m)
    | _ => none
  | .cvf k => match l with
    | [.val (.int _ n)] => some (.val (.float k (k.nearest n)), m)
    | _ => none
  | .cpx => match l with
    | [.val (.float k a), .val (.float k' b)] => if k = k' then some (.val (.complex k a b), m) else none
    | _ => none
  | .rei im => match l with
    | [.val (.complex k a b)] => some (.val (.float k (if im = true then b else a)), m)
    | _ => none
  | .apb _ sz bytes => match l with
    | [.val (.slice none 0 0), y] => (match y.elems with
      | some (sz', ys) => if sz' = sz ∧ ys ≠ [] ∧ ys.length * bytes ≤ 140737488355328 then some (.ref (.sli 0 sz ys.length) m.boxes.length, { m with boxes := m.boxes ++ [ys.flatten] }) else none
      | none => none)
    | [.full szx [], y] => (match y.elems with
      | some (sz', ys) => if szx = sz ∧ sz' = sz ∧ ys ≠ [] ∧ ys.length * bytes ≤ 140737488355328 then some (.ref (.sli 0 sz ys.length) m.boxes.length, { m with boxes := m.boxes ++ [ys.flatten] }) else none
      | none => none)
    | _ => none
  | .eml sz => match l with
    | [] => some (.full sz [], m)
    | _ => none
  | .apx _ sz bytes => match l with
    | [u, y] => apnE sz bytes u y m
    | _ => none
  | .ixv len sz => match l with
    | [.agg l, .val (.int _ q)] => if 0 ≤ q ∧ q < len ∧ q.toNat * sz + sz ≤ l.length then some (.agg ((l.drop (q.toNat * sz)).take sz), m) else none
    | _ => none
  | .aeq ne ks => match l with
    | [.agg l1, .agg l2] => (match intsOf ks l1, intsOf ks l2 with
      | some p, some q => some (.val (.bool (if ne = true then !decide (p = q) else decide (p = q))), m)
      | _, _ => none)
    | _ => none
/-- A number as a whole number: of a float only if it is one, and fits. -/
def convV (k : IntKind) : V → Option V
  | .val (.int _ n) => some (.val (.int k (k.wrap n)))
  | .val (.float sk b) => (match (sk.decode b).toInt .zero with
    | some n => if k.min ≤ n ∧ n ≤ k.max then some (.val (.int k n)) else none
    | none => none)
  | _ => none
def kindE (k : K) (s : Nat → V) (m : Mem) : Option (V × Mem) :=
  match k with
  | .mov x => some (x.ev s, m)
  | .pick c a b => match c.ev s with
    | .val (.bool t) => some (if t = true then a.ev s else b.ev s, m)
    | _ => none
  | .bin op x y => (binV op (x.ev s) (y.ev s)).map (·, m)
  | .beq ne x y => match x.ev s, y.ev s with
    | .val (.bool a), .val (.bool b) => some (.val (.bool (if ne = true then a != b else a == b)), m)
    | _, _ => none
  | .snil ne x => match x.ev s with
    | .val (.slice none 0 0) => some (.val (.bool (!ne)), m)
    | .emp _ => some (.val (.bool ne), m)
    | .lit _ (_ :: _) | .full _ (_ :: _) | .row _ _ (_ :: _) => some (.val (.bool ne), m)
    | _ => none
  | .un op x => match op, x.ev s with
    | .not, .val (.bool b) => some (.val (.bool (!b)), m)
    | .neg, .val (.int k n) => some (.val (.int k (k.wrap (0 - n))), m)
    | _, _ => none
  | .conv k x => (convV k (x.ev s)).map (·, m)
  | .ext x i => match x.ev s with
    | .tuple l => (l[i]?).map (·, m)
    | _ => none
  | .fad x off => match x.ev s with
    | .ptr b o => some (.ptr b (o + off), m)
    | .eptr cs => some (.eptr (cs.drop off), m)
    | _ => none
  | .ld x n => match (x.ev s).at m, n with
    | some cs, none => (cs[0]?).map (·, m)
    | some cs, some n => if n ≤ cs.length then some (.agg (cs.take n), m) else none
    | none, _ => none
  | .lde x n => match x.ev s, n with
    | .eptr cs, none => (cs[0]?).map (·, m)
    | .eptr cs, some n => if n ≤ cs.length then some (.agg (cs.take n), m) else none
    | _, _ => none
  | .st x n y => match x.ev s with
    | .ptr b o => match m.boxes[b]? with
      | some cs => if isObj cs = false ∧ (y.ev s).cells.length = n ∧ o + n ≤ cs.length ∧ (y.ev s).cells.all V.one = true then
          some (.tuple [], { m with boxes := m.boxes.set b (cs.take o ++ (y.ev s).cells ++ cs.drop (o + n)) }) else none
      | none => none
    | _ => none
  | .ixs x i sz => match (x.ev s).elems, i.ev s with
    | some (sz', xs), .val (.int _ n) => if sz' = sz ∧ 0 ≤ n then (xs[n.toNat]?).map (V.eptr ·, m) else none
    | _, _ => none
  | .ixa x i len sz => match x.ev s, i.ev s with
    | .ptr b o, .val (.int _ n) => if 0 ≤ n ∧ n < len then some (.ptr b (o + n.toNat * sz), m) else none
    | _, _ => none
  | .fld x off n => match x.ev s, n with
    | .agg l, none => (l[off]?).map (·, m)
    | .agg l, some n => if off + n ≤ l.length then some (.agg ((l.drop off).take n), m) else none
    | _, _ => none
  | .slc x lo hi mx sz =>
    let lo' : Option Int := match lo with
      | none => some 0
      | some x => match x.ev s with | .val (.int _ n) => some n | _ => none
    match (if (x.ev s).isNil = true then some (sz, []) else (x.ev s).elems), lo' with
    | some (sz', xs), some l =>
      let hi' : Option Int := match hi with
        | none => some xs.length
        | some x => match x.ev s with | .val (.int _ n) => some n | _ => none
      match hi' with
      | some h => if sz' = sz ∧ 0 ≤ l ∧ l ≤ h ∧ h ≤ xs.length ∧ mxOk s mx h = true then
          some (if (x.ev s).isNil = true then .val (.slice none 0 0) else if mx.isSome = true then .full sz ((xs.take h.toNat).drop l.toNat) else .lit sz ((xs.take h.toNat).drop l.toNat), m) else none
      | none => none
    | _, _ => none
  | .len x => match (x.ev s).elems with
    | some (_, xs) => some (.val (.int .i64 xs.length), m)
    | none => match x.ev s with
      | .val (.slice none 0 0) => some (.val (.int .i64 0), m)
      | _ => none
  | .slen x => match x.ev s with
    | .val (.string b) => some (.val (.int .i64 b.size), m)
    | _ => none
  | .mm mx x y => match x.ev s, y.ev s with
    | .val (.int k a), .val (.int _ b) => some (.val (.int k (if mx = true then (if b > a then b else a) else (if b < a then b else a))), m)
    | _, _ => none
  | .box x => if (x.ev s).cells.all V.one = true then some (.ptr m.boxes.length 0, { m with boxes := m.boxes ++ [(x.ev s).cells] }) else none
  | .alc z => some (.ptr m.boxes.length 0, { m with boxes := m.boxes ++ [z] })
  | .alr e sz => some (.ptr m.boxes.length 0, { m with boxes := m.boxes ++ [[.row m.tips.length sz []]], tips := m.tips ++ [(e, sz, 0)] })
  | .nil e sz own => some (newV own m e sz [])
  | .bld z ps => if ps.all (fun p => (p.2.2.ev s).cells.all V.one) = true then (fillV z s ps).map (V.agg ·, m) else none
  | .mkl e sz xs own => if (xs.map fun x => (x.ev s).cells).all (fun c => c.length == sz && c.all V.one) = true then some (newV own m e sz (xs.map fun x => (x.ev s).cells)) else none
  | .app x y e sz bytes own =>
    let ys : Option (Nat × List (List V)) := if (y.ev s).isNil = true then some (sz, []) else (y.ev s).elems
    match x.ev s, ys with
    | .val (.slice none 0 0), some (sz', ys) => if ys = [] then some (.val (.slice none 0 0), m) else
      if sz' = sz ∧ ys.length * bytes ≤ 140737488355328 then some (newV own m e sz ys) else none
    | .full szx xs, some (sz', ys) => if ys = [] then some (.full szx xs, m) else
      if szx = sz ∧ sz' = sz ∧ (xs.length + ys.length) * bytes ≤ 140737488355328 then some (newV own m e sz (xs ++ ys)) else none
    | .row t szx xs, some (sz', ys) =>
      if m.tips[t]? = some (e, sz, xs.length) ∧ szx = sz ∧ (ys = [] ∨ sz' = sz ∧ (xs.length + ys.length) * bytes ≤ 140737488355328) then
        some (.row t sz (xs ++ ys), { m with tips := m.tips.set t (e, sz, (xs ++ ys).length) }) else none
    | _, _ => none
  | .mks n c e sz bytes z own => match n.ev s, c.ev s with
    | .val (.int .i64 a), .val (.int .i64 b) => if a = b ∧ 0 ≤ a ∧ a * bytes ≤ 140737488355328 then some (newV own m e sz (List.replicate a.toNat z)) else none
    | _, _ => none
  | .mkf f cap => some (.func f (cap.map (·.ev s)), m)
  | .b2s x => if (x.ev s).isNil = true then some (.val (.string .empty), m) else match (x.ev s).elems with
    | some (_, xs) => (toBytes xs).map fun l => (.val (.string ⟨l.toArray⟩), m)
    | none => none
  | .sidx x i => match x.ev s, i.ev s with
    | .val (.string b), .val (.int _ n) => if 0 ≤ n then (b[n.toNat]?).map fun c => (.val (.int .u8 c.toNat), m) else none
    | _, _ => none
  | .srg x => match x.ev s with
    | .val (.string b) => some (.ptr m.boxes.length 0, { m with boxes := m.boxes ++ [[.tuple [.val (.string b), .val (.int .i64 0)]]] })
    | _ => none
  | .snx x => match x.ev s with
    | .ptr b 0 => match m.boxes[b]? with
      | some [.tuple [.val (.string str), .val (.int .i64 pos)]] => if pos.toNat < str.size then
          some (.tuple [.val (.bool true), .val (.int .i64 pos.toNat), .val (.int .i32 (Utf8.decode str pos.toNat).1)], { m with boxes := m.boxes.set b [.tuple [.val (.string str), .val (.int .i64 (pos.toNat + (Utf8.decode str pos.toNat).2 : Nat))]] })
        else some (.tuple [.val (.bool false)], m)
      | _ => none
    | _ => none
  | .mem mo xs => memE mo (xs.map (·.ev s)) m
  | .mkm => some (.ref .map m.boxes.length, { m with boxes := m.boxes ++ [mpV []] })
  | .mup x k y => match x.ev s, k.ev s with
    | .ref .map b, .val (.int .i64 q) => ((m.boxes[b]?).bind mpO).map fun kvs => (.tuple [], { m with boxes := m.boxes.set b (mpV (mpPut kvs q (y.ev s))) })
    | _, _ => none
  | .mlk x k z ok => match x.ev s, k.ev s with
    | .ref .map b, .val (.int .i64 q) => ((m.boxes[b]?).bind mpO).map fun kvs => (match mpAt kvs q with
      | some v => if ok = true then .tuple [v, .val (.bool true)] else v
      | none => if ok = true then .tuple [z, .val (.bool false)] else z, m)
    | _, _ => none
  | .call _ _ | .callq _ _ | .callv _ _ | .callf _ _ _ | .callr _ _ | .dead => none
theorem kindE_lde {x : X} {n : Option Nat} {s : Nat → V} {m : Mem} {r : V × Mem} (h : kindE (.lde x n) s m = some r) : kindE (.ld x n) s m = some r := by
  simp only [kindE] at h ⊢
  split at h
  · rename_i cs e; simp only [e, V.at]; exact h
  · rename_i cs k e; simp only [e, V.at]; exact h
  · cases h
end Go.Av

namespace Go.Av
open Go.RowKit

/-- A loop's state, as a box holds it. -/
def St.v : St → V
  | .ready => .tuple [.val (.int .i64 0), .val (.int .i64 0)]
  | .busy => .tuple [.val (.int .i64 1), .val (.int .i64 0)]
  | .exit id => .tuple [.val (.int .i64 2), .val (.int .i64 id)]
  | .goto l => .tuple [.val (.int .i64 3), .val (.int .i64 l)]
  | .ret => .tuple [.val (.int .i64 4), .val (.int .i64 0)]
theorem St.v_inj {a b : St} (h : a.v = b.v) : a = b := by
  cases a <;> cases b <;> simp [St.v] at h <;> first | rfl | (congr 1; omega)

/-- A map's entries, as a value. -/
def mapV (es : Array MapEntry) : Value := .tuple #[.tuple (es.toList.map fun e => Value.tuple #[e.key, e.val]).toArray]
/-- An object of the heap, as a box. -/
def BoxRep (M : Mp) (i : Nat) (w : World) (cs : List V) (ob : Obj) : Prop :=
  (M.κ i = none ∧ ∃ (vs : Array Value) (T : TypeId), ob = .cells vs T (0, 0) ∧ cs.length ≤ vs.size ∧ RepL M w cs (vs.toList.take cs.length) ∧ ∀ x ∈ vs.toList.take cs.length, x.oneCell' = true) ∨
  (M.κ i = none ∧ ∃ (str : ByteArray) (pos : Nat), ob = .stringIter str pos ∧ cs = [.tuple [.val (.string str), .val (.int .i64 pos)]]) ∨
  (∃ (fam : St → Obj) (st : St), M.κ i = some fam ∧ ob = fam st ∧ cs = [st.v]) ∨
  (M.κ i = none ∧ ∃ (es : Array MapEntry) (clock : Nat), ob = .map es clock ∧ isObj cs = true ∧ RepL M w cs [mapV es]) ∨
  (M.κ i = none ∧ cs = deadC)
theorem BoxRep.full {M : Mp} {i : Nat} {w : World} {cs : List V} {vs : Array Value} {T : TypeId} (hκ : M.κ i = none) (hr : RepL M w cs vs.toList) (ho : ∀ x ∈ vs.toList, x.oneCell' = true) : BoxRep M i w cs (.cells vs T (0, 0)) := by
  have hl : vs.size = cs.length := by simpa using hr.length
  have e : vs.toList.take cs.length = vs.toList := List.take_of_length_le (by simp [hl])
  exact .inl ⟨hκ, vs, T, rfl, by omega, by rw [e]; exact hr, by rw [e]; exact ho⟩
theorem BoxRep.mono0 {M M' : Mp} {w w' : World} {cs : List V} {ob : Obj} {i : Nat} (hE : Ext M M' w w') (hi : M'.κ i = M.κ i) (h : BoxRep M i w cs ob) : BoxRep M' i w' cs ob := by
  unfold BoxRep
  rw [hi]
  exact h.imp (fun ⟨h0, vs, T, h1, hl, h2, h3⟩ => ⟨h0, vs, T, h1, hl, RepL.mono hE _ _ h2, h3⟩) (Or.imp id (Or.imp id (Or.imp (fun ⟨h0, es, c, h1, h9, h2⟩ => ⟨h0, es, c, h1, h9, RepL.mono hE _ _ h2⟩) id)))
theorem BoxRep.mono {M M' : Mp} {w w' : World} {cs : List V} {ob : Obj} {i : Nat} (hE : Ext M M' w w') (hi : i < M.β.length) (h : BoxRep M i w cs ob) : BoxRep M' i w' cs ob := h.mono0 hE (hE.κ i hi)
theorem St.obj (st : St) : isObj [st.v] = true := by cases st <;> rfl
theorem lt_of_some {α : Type} {l : List α} {i : Nat} {x : α} (h : l[i]? = some x) : i < l.length := (List.getElem?_eq_some_iff.1 h).1
theorem isObj_tuple {M : Mp} {w : World} {cs : List V} {ws : List Value} (h : RepL M w cs ws) (ho : ∀ x ∈ ws, x.oneCell' = true) : isObj cs = false := by
  unfold isObj
  split
  · rename_i l
    obtain ⟨x, r, e, ⟨us, rfl, _⟩, _⟩ := h
    have := ho (.tuple us) (by rw [e]; exact List.mem_cons_self)
    simp [Value.oneCell'] at this
  · rfl
theorem mapV_iter {M : Mp} {w : World} {a b : V} {es : Array MapEntry} (h : RepL M w [.tuple [a, b]] [mapV es]) : False := by
  obtain ⟨x, r, e, ⟨us, h1, h2⟩, _⟩ := h
  cases e
  cases h1
  obtain ⟨_, _, e, _, h3⟩ := h2
  cases e
  obtain ⟨_, _, e, _⟩ := h3
  cases e
theorem BoxRep.cells {M : Mp} {w : World} {cs : List V} {ob : Obj} {i : Nat} (h : BoxRep M i w cs ob) (hn : isObj cs = false) : ∃ (vs : Array Value) (T : TypeId), ob = .cells vs T (0, 0) ∧ cs.length ≤ vs.size ∧ RepL M w cs (vs.toList.take cs.length) ∧ ∀ x ∈ vs.toList.take cs.length, x.oneCell' = true := by
  rcases h with h | ⟨_, str, pos, rfl, rfl⟩ | ⟨fam, st, _, _, rfl⟩ | ⟨_, es, c, rfl, h, _⟩ | ⟨_, rfl⟩
  · exact h.2
  · simp [isObj] at hn
  · rw [St.obj] at hn; cases hn
  · rw [h] at hn; cases hn
  · cases hn
theorem BoxRep.dead {M : Mp} {w : World} {ob ob' : Obj} {i : Nat} (h : BoxRep M i w deadC ob) {M' : Mp} (hκ : M'.κ i = M.κ i) {w' : World} : BoxRep M' i w' deadC ob' := by
  refine .inr (.inr (.inr (.inr ⟨?_, rfl⟩)))
  rw [hκ]
  rcases h with h | h | ⟨fam, st, _, _, e⟩ | h | h
  · exact h.1
  · exact h.1
  · cases st <;> simp [deadC, St.v] at e
  · exact h.1
  · exact h.1
theorem BoxRep.κ {M : Mp} {w : World} {cs : List V} {ob : Obj} {i : Nat} (h : BoxRep M i w cs ob) (hn : isObj cs = false) : M.κ i = none := by
  rcases h with h | h | ⟨fam, st, _, _, rfl⟩ | h | h
  · exact h.1
  · exact h.1
  · rw [St.obj] at hn; cases hn
  · exact h.1
  · exact h.1

structure Good (B : Nat) (I0 : Nat → Nat → Prop) (w0 : World) (M : Mp) (m : Mem) (w : World) : Prop where
  below : Below B w0 w
  sizeB : B ≤ w.heap.size
  i0 : ∀ (b o : Nat), I0 b o → M.I b o
  i1 : ∀ (b o : Nat), M.I b o → I0 b o ∨ B ≤ b
  ilt : ∀ (b o : Nat), M.I b o → b < w.heap.size
  lβ : M.β.length = m.boxes.length
  nd : ∀ (i j g : Nat), M.β[i]? = some g → M.β[j]? = some g → m.boxes[i]? = some deadC ∨ m.boxes[j]? = some deadC ∨ i = j
  iβ : ∀ (b o : Nat), M.I b o → ∀ i : Nat, M.β[i]? = some b → m.boxes[i]? = some deadC
  box : ∀ (i g : Nat) (cs : List V), M.β[i]? = some g → m.boxes[i]? = some cs → B ≤ g ∧ ∃ ob : Obj, w.heap[g]? = some ob ∧ BoxRep M i w cs ob
  κlt : ∀ (i : Nat) (fam : St → Obj), M.κ i = some fam → i < M.β.length
  ζb : ∀ (i g : Nat) (cs : List V), M.β[i]? = some g → m.boxes[i]? = some cs → isObj cs = false → ∃ (vs : Array Value) (T : TypeId), w.heap[g]? = some (.cells vs T (0, 0)) ∧ M.ζ i ≤ vs.size
  lγ : M.γ.length = m.tips.length
  row : ∀ (t : Nat) (G : List (Nat × Nat × Nat)) (e : TypeId) (sz n : Nat), M.γ[t]? = some G → m.tips[t]? = some (e, sz, n) →
    (n = 0 ∧ G = []) ∨ ∃ (g c : Nat) (xs : List Value), (n, g, c) ∈ G ∧ (∀ x ∈ G, x.1 ≤ n ∧ (x.1 = n → x = (n, g, c))) ∧ w.ownsRow B e sz (.slice (some ⟨g, 0, none⟩) n c) n xs ∧ (∀ o, M.I g o → o < n * sz)
  gen : ∀ (t : Nat) (G : List (Nat × Nat × Nat)) (x : Nat × Nat × Nat), M.γ[t]? = some G → x ∈ G → B ≤ x.2.1 ∧ x.2.1 < w.heap.size ∧ x.2.1 ∉ M.β
  sep : ∀ (t t' : Nat) (G G' : List (Nat × Nat × Nat)) (x x' : Nat × Nat × Nat), M.γ[t]? = some G → M.γ[t']? = some G' → x ∈ G → x' ∈ G' → x.2.1 = x'.2.1 → t = t'

section
variable {B : Nat} {I0 : Nat → Nat → Prop} {w0 w w' : World} {M : Mp} {m : Mem}

theorem cell_of_heap {w w' : World} {b o : Nat} (h : w'.heap[b]? = w.heap[b]?) : w'.cell? ⟨b, o, none⟩ = w.cell? ⟨b, o, none⟩ := World.cell?_of_block (a := ⟨b, o, none⟩) h

theorem Good.βlt (h : Good B I0 w0 M m w) {g : Nat} (hg : g ∈ M.β) : g < w.heap.size ∧ B ≤ g := by
  obtain ⟨i, hi, he⟩ := List.getElem_of_mem hg
  have h1 : M.β[i]? = some g := by rw [List.getElem?_eq_getElem hi, he]
  have h2 : m.boxes[i]? = some (m.boxes[i]'(by rw [← h.lβ]; exact hi)) := List.getElem?_eq_getElem _
  obtain ⟨hb, ob, hh, _⟩ := h.box i g _ h1 h2
  exact ⟨(Array.getElem?_eq_some_iff.1 hh).1, hb⟩

theorem Good.κnone (h : Good B I0 w0 M m w) : M.κ M.β.length = none := by
  cases hk : M.κ M.β.length with
  | none => rfl
  | some fam => have := h.κlt _ fam hk; omega
/-- The world has but new blocks. -/
theorem Good.ext (h : Good B I0 w0 M m w) (hb : Below w.heap.size w w') : Ext M M w w' :=
  ⟨fun _ _ h => h, fun _ G h => ⟨G, h, fun _ h => h⟩, fun b o hi => ⟨hi, cell_of_heap (hb.block b (h.ilt b o hi))⟩, fun _ _ => rfl, fun _ _ => rfl⟩
theorem Good.grow (h : Good B I0 w0 M m w) (hb : Below w.heap.size w w') : Good B I0 w0 M m w' where
  below := h.below.trans (hb.mono h.sizeB)
  sizeB := Nat.le_trans h.sizeB hb.size
  i0 := h.i0
  i1 := h.i1
  ilt b o hi := Nat.lt_of_lt_of_le (h.ilt b o hi) hb.size
  lβ := h.lβ
  nd := h.nd
  iβ := h.iβ
  box i g cs h1 h2 := by
    obtain ⟨hB, ob, hh, hr⟩ := h.box i g cs h1 h2
    exact ⟨hB, ob, by rw [hb.block g (Array.getElem?_eq_some_iff.1 hh).1]; exact hh, hr.mono (h.ext hb) (lt_of_some h1)⟩
  κlt := h.κlt
  ζb i g cs h1 h2 h3 := by
    obtain ⟨vs, T, hh, hz⟩ := h.ζb i g cs h1 h2 h3
    exact ⟨vs, T, by rw [hb.block g (Array.getElem?_eq_some_iff.1 hh).1]; exact hh, hz⟩
  lγ := h.lγ
  row t G e sz n h1 h2 := by
    rcases h.row t G e sz n h1 h2 with h0 | ⟨g, c, xs, h3, h4, h5, h6⟩
    · exact .inl h0
    refine .inr ⟨g, c, xs, h3, h4, h5.kept (row := none) ⟨hb.os, hb.tape, hb.output, hb.size, fun k hk _ => hb.block k hk⟩ (by simp [Value.ownBlock]), h6⟩
  gen t G x h1 h2 := ⟨(h.gen t G x h1 h2).1, Nat.lt_of_lt_of_le (h.gen t G x h1 h2).2.1 hb.size, (h.gen t G x h1 h2).2.2⟩
  sep := h.sep

def Mp.plus (M : Mp) (J : Nat → Nat → Prop) : Mp := { M with I := fun b o => M.I b o ∨ J b o }
theorem Mp.plus_ext (M : Mp) (J : Nat → Nat → Prop) (w : World) : Ext M (M.plus J) w w := ⟨fun _ _ h => h, fun _ G h => ⟨G, h, fun _ h => h⟩, fun _ _ h => ⟨.inl h, rfl⟩, fun _ _ => rfl, fun _ _ => rfl⟩
/-- Cells that are nobody's stay as they are. -/
theorem Good.plus (h : Good B I0 w0 M m w) {J : Nat → Nat → Prop} (hJ : ∀ (b o : Nat), J b o → B ≤ b ∧ b < w.heap.size ∧ b ∉ M.β ∧ ∀ (t : Nat) (G : List (Nat × Nat × Nat)) (x : Nat × Nat × Nat), M.γ[t]? = some G → x ∈ G → x.2.1 ≠ b) :
    Good B I0 w0 (M.plus J) m w where
  below := h.below
  sizeB := h.sizeB
  i0 b o hi := .inl (h.i0 b o hi)
  i1 b o hi := hi.elim (h.i1 b o) (fun hj => .inr (hJ b o hj).1)
  ilt b o hi := hi.elim (h.ilt b o) (fun hj => (hJ b o hj).2.1)
  lβ := h.lβ
  nd := h.nd
  iβ b o hi := hi.elim (h.iβ b o) (fun hj i hb => absurd (List.mem_of_getElem? hb) (hJ b o hj).2.2.1)
  box i g cs h1 h2 := by
    obtain ⟨hB, ob, hh, hr⟩ := h.box i g cs h1 h2
    exact ⟨hB, ob, hh, hr.mono (Mp.plus_ext M J w) (lt_of_some h1)⟩
  κlt := h.κlt
  ζb := h.ζb
  lγ := h.lγ
  row t G e sz n h1 h2 := by
    rcases h.row t G e sz n h1 h2 with h0 | ⟨g, c, xs, h3, h4, h5, h6⟩
    · exact .inl h0
    exact .inr ⟨g, c, xs, h3, h4, h5, fun o hi => hi.elim (h6 o) (fun hj => absurd rfl ((hJ g o hj).2.2.2 t G _ h1 h3))⟩
  gen := h.gen
  sep := h.sep

def Mp.addZ (M : Mp) (g z : Nat) : Mp := { M with β := M.β ++ [g], ζ := fun i => if i = M.β.length then z else M.ζ i }
def Mp.addB (M : Mp) (g : Nat) : Mp := M.addZ g 0
theorem Mp.addZ_ext (M : Mp) (g z : Nat) (w : World) : Ext M (M.addZ g z) w w :=
  ⟨fun b g' h => by
    have hlt := (List.getElem?_eq_some_iff.1 h).1
    show (M.β ++ [g])[b]? = _
    rw [List.getElem?_append_left hlt]; exact h, fun _ G h => ⟨G, h, fun _ h => h⟩, fun _ _ h => ⟨h, rfl⟩, fun _ _ => rfl, fun i hi => if_neg (by omega)⟩
theorem Mp.addB_ext (M : Mp) (g : Nat) (w : World) : Ext M (M.addB g) w w := M.addZ_ext g 0 w
/-- A new box, of so many cells; what lay there is not known any more. -/
theorem Good.addBoxD (h : Good B I0 w0 M m w) {g : Nat} {cs : List V} {ob : Obj} (hh : w.heap[g]? = some ob) (hB : B ≤ g) (hg : ∀ i : Nat, M.β[i]? = some g → m.boxes[i]? = some deadC)
    (hI : ∀ o, ¬ M.I g o) (hγ : ∀ (t : Nat) (G : List (Nat × Nat × Nat)) (x : Nat × Nat × Nat), M.γ[t]? = some G → x ∈ G → x.2.1 ≠ g) {z : Nat} (hz : isObj cs = false → ∃ (vs : Array Value) (T : TypeId), ob = .cells vs T (0, 0) ∧ z ≤ vs.size) (hr : BoxRep M M.β.length w cs ob) :
    Good B I0 w0 (M.addZ g z) { m with boxes := m.boxes ++ [cs] } w where
  below := h.below
  sizeB := h.sizeB
  i0 := h.i0
  i1 := h.i1
  ilt := h.ilt
  lβ := by simp [Mp.addZ, h.lβ]
  nd i j k hi hj := by
    simp only [Mp.addZ] at hi hj
    rw [List.getElem?_append] at hi hj
    split at hi <;> split at hj
    · rename_i h1 h2
      rw [h.lβ] at h1 h2
      rw [List.getElem?_append_left h1, List.getElem?_append_left h2]
      exact h.nd i j k hi hj
    · rename_i h1 h2
      have : k = g := by
        cases hx : j - M.β.length with
        | zero => rw [hx] at hj; simpa using hj.symm
        | succ q => rw [hx] at hj; simp at hj
      subst this
      have hi2 := lt_of_some hi
      rw [h.lβ] at hi2
      exact .inl ((List.getElem?_append_left hi2).trans (hg i hi))
    · rename_i h1 h2
      have : k = g := by
        cases hx : i - M.β.length with
        | zero => rw [hx] at hi; simpa using hi.symm
        | succ q => rw [hx] at hi; simp at hi
      subst this
      have hj2 := lt_of_some hj
      rw [h.lβ] at hj2
      exact .inr (.inl ((List.getElem?_append_left hj2).trans (hg j hj)))
    · rename_i h1 h2
      have e1 : i - M.β.length = 0 := by
        cases hx : i - M.β.length with
        | zero => rfl
        | succ q => rw [hx] at hi; simp at hi
      have e2 : j - M.β.length = 0 := by
        cases hx : j - M.β.length with
        | zero => rfl
        | succ q => rw [hx] at hj; simp at hj
      exact .inr (.inr (by omega))
  iβ b o hi i hb := by
    simp only [Mp.addZ] at hb
    by_cases hlt : i < M.β.length
    · rw [List.getElem?_append_left hlt] at hb
      show (m.boxes ++ [cs])[i]? = _
      rw [List.getElem?_append_left (by rw [← h.lβ]; exact hlt)]
      exact h.iβ b o hi i hb
    · rw [List.getElem?_append_right (by omega)] at hb
      cases hx : i - M.β.length with
      | succ q => rw [hx] at hb; simp at hb
      | zero =>
        rw [hx] at hb
        simp at hb
        subst hb
        exact absurd hi (hI o)
  box i k ds h1 h2 := by
    simp only [Mp.addZ] at h1 h2
    have hE := Mp.addZ_ext M g z w
    by_cases hlt : i < M.β.length
    · rw [List.getElem?_append_left hlt] at h1
      rw [List.getElem?_append_left (by rw [← h.lβ]; exact hlt)] at h2
      obtain ⟨hB', ob', hh', hr'⟩ := h.box i k ds h1 h2
      exact ⟨hB', ob', hh', hr'.mono hE hlt⟩
    · have hle : M.β.length ≤ i := by omega
      rw [List.getElem?_append_right hle] at h1
      rw [List.getElem?_append_right (by rw [← h.lβ]; exact hle), ← h.lβ] at h2
      cases hx : i - M.β.length with
      | succ q => rw [hx] at h1; simp at h1
      | zero =>
        rw [hx] at h1 h2
        simp at h1 h2
        subst h1; subst h2
        obtain rfl : i = M.β.length := by omega
        exact ⟨hB, ob, hh, hr.mono0 hE rfl⟩
  κlt i fam hf := by
    have := h.κlt i fam hf
    simp only [Mp.addZ, List.length_append, List.length_cons, List.length_nil]
    omega
  ζb i k ds h1 h2 h3 := by
    simp only [Mp.addZ] at h1 h2
    by_cases hlt : i < M.β.length
    · rw [List.getElem?_append_left hlt] at h1
      rw [List.getElem?_append_left (by rw [← h.lβ]; exact hlt)] at h2
      obtain ⟨vs, T, hh', hz'⟩ := h.ζb i k ds h1 h2 h3
      exact ⟨vs, T, hh', by show (if i = M.β.length then z else M.ζ i) ≤ _; rw [if_neg (by omega)]; exact hz'⟩
    · have hle : M.β.length ≤ i := by omega
      rw [List.getElem?_append_right hle] at h1
      rw [List.getElem?_append_right (by rw [← h.lβ]; exact hle), ← h.lβ] at h2
      cases hx : i - M.β.length with
      | succ q => rw [hx] at h1; simp at h1
      | zero =>
        rw [hx] at h1 h2
        simp at h1 h2
        subst h1; subst h2
        obtain rfl : i = M.β.length := by omega
        obtain ⟨vs, T, e, hz'⟩ := hz h3
        exact ⟨vs, T, by rw [hh, e], by show (if M.β.length = M.β.length then z else M.ζ M.β.length) ≤ _; rw [if_pos rfl]; exact hz'⟩
  lγ := h.lγ
  row := h.row
  gen t G x h1 h2 := ⟨(h.gen t G x h1 h2).1, (h.gen t G x h1 h2).2.1, by
    simp only [Mp.addZ, List.mem_append, List.mem_singleton, not_or]
    exact ⟨(h.gen t G x h1 h2).2.2, hγ t G x h1 h2⟩⟩
  sep := h.sep

/-- A new box, of so many cells. -/
theorem Good.addBoxZ (h : Good B I0 w0 M m w) {g : Nat} {cs : List V} {ob : Obj} (hh : w.heap[g]? = some ob) (hB : B ≤ g) (hg : g ∉ M.β)
    (hI : ∀ o, ¬ M.I g o) (hγ : ∀ (t : Nat) (G : List (Nat × Nat × Nat)) (x : Nat × Nat × Nat), M.γ[t]? = some G → x ∈ G → x.2.1 ≠ g) {z : Nat} (hz : isObj cs = false → ∃ (vs : Array Value) (T : TypeId), ob = .cells vs T (0, 0) ∧ z ≤ vs.size) (hr : BoxRep M M.β.length w cs ob) :
    Good B I0 w0 (M.addZ g z) { m with boxes := m.boxes ++ [cs] } w :=
  h.addBoxD hh hB (fun i hi => absurd (List.mem_of_getElem? hi) hg) hI hγ hz hr
/-- A new box. -/
theorem Good.addBox (h : Good B I0 w0 M m w) {g : Nat} {cs : List V} {ob : Obj} (hh : w.heap[g]? = some ob) (hB : B ≤ g) (hg : g ∉ M.β)
    (hI : ∀ o, ¬ M.I g o) (hγ : ∀ (t : Nat) (G : List (Nat × Nat × Nat)) (x : Nat × Nat × Nat), M.γ[t]? = some G → x ∈ G → x.2.1 ≠ g) (hr : BoxRep M M.β.length w cs ob) :
    Good B I0 w0 (M.addB g) { m with boxes := m.boxes ++ [cs] } w :=
  h.addBoxZ hh hB hg hI hγ (z := 0) (fun hn => by
    obtain ⟨vs, T, e, _⟩ := hr.cells hn
    exact ⟨vs, T, e, Nat.zero_le _⟩) hr
def Mp.addR (M : Mp) (G : List (Nat × Nat × Nat)) (J : Nat → Nat → Prop) : Mp := { M with γ := M.γ ++ [G], I := fun b o => M.I b o ∨ J b o }
theorem Mp.addR_ext (M : Mp) (G : List (Nat × Nat × Nat)) (J : Nat → Nat → Prop) (w : World) : Ext M (M.addR G J) w w :=
  ⟨fun _ _ h => h, fun t G' h => ⟨G', by
    have hlt := (List.getElem?_eq_some_iff.1 h).1
    show (M.γ ++ [G])[t]? = _
    rw [List.getElem?_append_left hlt]; exact h, fun _ h => h⟩, fun _ _ h => ⟨.inl h, rfl⟩, fun _ _ => rfl, fun _ _ => rfl⟩
/-- A new row. -/
theorem Good.addRow (h : Good B I0 w0 M m w) {g c n sz : Nat} {e : TypeId} {xs : List Value} (hown : w.ownsRow B e sz (.slice (some ⟨g, 0, none⟩) n c) n xs) (hg : g ∉ M.β)
    (hI : ∀ o, ¬ M.I g o) (hγ : ∀ (t : Nat) (G : List (Nat × Nat × Nat)) (x : Nat × Nat × Nat), M.γ[t]? = some G → x ∈ G → x.2.1 ≠ g) :
    Good B I0 w0 (M.addR [(n, g, c)] fun b o => b = g ∧ o < n * sz) { m with tips := m.tips ++ [(e, sz, n)] } w := by
  obtain ⟨hBg, hlt⟩ := hown.lt g rfl
  exact {
    below := h.below
    sizeB := h.sizeB
    i0 := fun b o hi => .inl (h.i0 b o hi)
    i1 := fun b o hi => hi.elim (h.i1 b o) (fun hj => .inr (hj.1 ▸ hBg))
    ilt := fun b o hi => hi.elim (h.ilt b o) (fun hj => hj.1 ▸ hlt)
    lβ := h.lβ
    nd := h.nd
    iβ := fun b o hi => hi.elim (h.iβ b o) (fun hj i hb => absurd (List.mem_of_getElem? hb) (hj.1 ▸ hg))
    box := fun i k cs h1 h2 => by
      obtain ⟨hB, ob, hh, hr⟩ := h.box i k cs h1 h2
      exact ⟨hB, ob, hh, hr.mono (Mp.addR_ext M _ _ w) (lt_of_some h1)⟩
    κlt := h.κlt
    ζb := h.ζb
    lγ := by simp [Mp.addR, h.lγ]
    row := fun t G e' sz' n' h1 h2 => by
      simp only [Mp.addR] at h1 h2
      by_cases htl : t < M.γ.length
      · rw [List.getElem?_append_left htl] at h1
        rw [List.getElem?_append_left (by rw [← h.lγ]; exact htl)] at h2
        rcases h.row t G e' sz' n' h1 h2 with h0 | ⟨g', c', xs', h3, h4, h5, h6⟩
        · exact .inl h0
        exact .inr ⟨g', c', xs', h3, h4, h5, fun o hi => hi.elim (h6 o) (fun hj => absurd hj.1 (hγ t G _ h1 h3))⟩
      · have hle : M.γ.length ≤ t := by omega
        rw [List.getElem?_append_right hle] at h1
        rw [List.getElem?_append_right (by rw [← h.lγ]; exact hle), ← h.lγ] at h2
        cases hx : t - M.γ.length with
        | succ q => rw [hx] at h1; simp at h1
        | zero =>
          rw [hx] at h1 h2
          simp at h1 h2
          subst h1
          obtain ⟨rfl, rfl, rfl⟩ := h2
          exact .inr ⟨g, c, xs, by simp, by simp, hown, fun o hi => hi.elim (fun hi => absurd hi (hI o)) (fun hj => hj.2)⟩
    gen := fun t G x h1 h2 => by
      simp only [Mp.addR] at h1
      by_cases htl : t < M.γ.length
      · rw [List.getElem?_append_left htl] at h1
        exact h.gen t G x h1 h2
      · rw [List.getElem?_append_right (by omega)] at h1
        cases hx : t - M.γ.length with
        | succ q => rw [hx] at h1; simp at h1
        | zero =>
          rw [hx] at h1
          simp at h1
          subst h1
          simp at h2
          subst h2
          exact ⟨hBg, hlt, hg⟩
    sep := fun t t' G G' x x' h1 h2 h3 h4 h5 => by
      simp only [Mp.addR] at h1 h2
      have key : ∀ {t : Nat} {G : List (Nat × Nat × Nat)} {x : Nat × Nat × Nat}, (M.γ ++ [[(n, g, c)]])[t]? = some G → x ∈ G → (M.γ[t]? = some G ∧ x.2.1 ≠ g) ∨ (t = M.γ.length ∧ x.2.1 = g) := by
        intro t G x h1 h2
        by_cases htl : t < M.γ.length
        · rw [List.getElem?_append_left htl] at h1
          exact .inl ⟨h1, hγ t G x h1 h2⟩
        · rw [List.getElem?_append_right (by omega)] at h1
          cases hx : t - M.γ.length with
          | succ q => rw [hx] at h1; simp at h1
          | zero =>
            rw [hx] at h1
            simp at h1
            subst h1
            simp at h2
            subst h2
            exact .inr ⟨by omega, rfl⟩
      rcases key h1 h3 with ⟨a1, a2⟩ | ⟨a1, a2⟩ <;> rcases key h2 h4 with ⟨b1, b2⟩ | ⟨b1, b2⟩
      · exact h.sep t t' G G' x x' a1 b1 h3 h4 h5
      · exact absurd (h5.trans b2) a2
      · exact absurd (h5.symm.trans a2) b2
      · omega }

def Mp.addN (M : Mp) : Mp := { M with γ := M.γ ++ [[]] }
theorem Mp.addN_ext (M : Mp) (w : World) : Ext M M.addN w w :=
  ⟨fun _ _ h => h, fun t G' h => ⟨G', by
    have hlt := (List.getElem?_eq_some_iff.1 h).1
    show (M.γ ++ [[]])[t]? = _
    rw [List.getElem?_append_left hlt]; exact h, fun _ h => h⟩, fun _ _ h => ⟨h, rfl⟩, fun _ _ => rfl, fun _ _ => rfl⟩
/-- A row that is not there yet. -/
theorem Good.addNil (h : Good B I0 w0 M m w) (e : TypeId) (sz : Nat) : Good B I0 w0 M.addN { m with tips := m.tips ++ [(e, sz, 0)] } w := by
  have key : ∀ {t : Nat} {G : List (Nat × Nat × Nat)}, (M.γ ++ [[]])[t]? = some G → (M.γ[t]? = some G ∧ t < M.γ.length) ∨ (t = M.γ.length ∧ G = []) := by
    intro t G h1
    by_cases htl : t < M.γ.length
    · rw [List.getElem?_append_left htl] at h1
      exact .inl ⟨h1, htl⟩
    · rw [List.getElem?_append_right (by omega)] at h1
      cases hx : t - M.γ.length with
      | succ q => rw [hx] at h1; simp at h1
      | zero => rw [hx] at h1; simp at h1; exact .inr ⟨by omega, h1⟩
  exact {
    below := h.below
    sizeB := h.sizeB
    i0 := h.i0
    i1 := h.i1
    ilt := h.ilt
    lβ := h.lβ
    nd := h.nd
    iβ := h.iβ
    box := fun i k cs h1 h2 => by
      obtain ⟨hB, ob, hh, hr⟩ := h.box i k cs h1 h2
      exact ⟨hB, ob, hh, hr.mono (Mp.addN_ext M w) (lt_of_some h1)⟩
    κlt := h.κlt
    ζb := h.ζb
    lγ := by simp [Mp.addN, h.lγ]
    row := fun t G e' sz' n' h1 h2 => by
      rcases key h1 with ⟨h1, htl⟩ | ⟨rfl, rfl⟩
      · have h2' : (m.tips ++ [(e, sz, 0)])[t]? = some (e', sz', n') := h2
        rw [List.getElem?_append_left (by rw [← h.lγ]; exact htl)] at h2'
        exact h.row t G e' sz' n' h1 h2'
      · have h2' : (m.tips ++ [(e, sz, 0)])[M.γ.length]? = some (e', sz', n') := h2
        rw [h.lγ] at h2'
        simp at h2'
        exact .inl ⟨h2'.2.2.symm, rfl⟩
    gen := fun t G x h1 h2 => by
      rcases key h1 with ⟨h1, _⟩ | ⟨_, rfl⟩
      · exact h.gen t G x h1 h2
      · simp at h2
    sep := fun t t' G G' x x' h1 h2 h3 h4 h5 => by
      rcases key h1 with ⟨h1, _⟩ | ⟨_, rfl⟩
      · rcases key h2 with ⟨h2, _⟩ | ⟨_, rfl⟩
        · exact h.sep t t' G G' x x' h1 h2 h3 h4 h5
        · simp at h4
      · simp at h3 }
end
end Go.Av

namespace Go.Av
open Go.RowKit

theorem RepC.list {M : Mp} {w : World} : ∀ {l : List V} {b o : Nat}, RepC M w l b o → ∃ us : List Value, RepL M w l us ∧ (∀ (j : Nat) (u : Value), us[j]? = some u → M.I b (o + j) ∧ w.cell? ⟨b, o + j, none⟩ = some u) ∧ ∀ u ∈ us, u.oneCell' = true
  | [], _, _, _ => ⟨[], rfl, by simp, by simp⟩
  | v :: l, b, o, h => by
    obtain ⟨⟨x, h1, h2, h3, h4⟩, h5⟩ := h
    obtain ⟨us, k1, k2, k3⟩ := RepC.list h5
    refine ⟨x :: us, ⟨x, us, rfl, h4, k1⟩, ?_, ?_⟩
    · intro j u hj
      cases j with
      | zero => simp at hj; subst hj; exact ⟨h1, h2⟩
      | succ j =>
        have := k2 j u (by simpa using hj)
        rwa [show o + 1 + j = o + (j + 1) by omega] at this
    · intro u hu
      simp only [List.mem_cons] at hu
      rcases hu with rfl | hu
      · exact h3
      · exact k3 u hu
theorem RepC.of_list {M : Mp} {w : World} {l : List V} {us : List Value} {b o : Nat} (hr : RepL M w l us) (hc : ∀ (j : Nat) (u : Value), us[j]? = some u → M.I b (o + j) ∧ w.cell? ⟨b, o + j, none⟩ = some u) (h1 : ∀ u ∈ us, u.oneCell' = true) : RepC M w l b o :=
  RepC.of_get fun i v hi => by
    obtain ⟨x, hx, hv⟩ := hr.get hi
    exact ⟨x, (hc i x hx).1, (hc i x hx).2, h1 x (List.mem_of_getElem? hx), hv⟩
theorem add_none {ad : Addr} (h : ad.spot = none) (j : Nat) : ad.add j = ⟨ad.block, ad.off + j, none⟩ := by
  cases ad with
  | mk b o s =>
    simp only at h
    subst h
    exact Addr.add_mid b o j

section
variable {B : Nat} {I0 : Nat → Nat → Prop} {w0 w w' : World} {M : Mp} {m : Mem}

theorem below_setRow {g : Nat} {cs : Array Value} (hg : B ≤ g) : Below B w (w.setRow g cs) :=
  ⟨rfl, rfl, rfl, by simp, fun k hk => setRow_other w g k cs (by omega)⟩

theorem Good.ndSet (h : Good B I0 w0 M m w) {i : Nat} (hnd : m.boxes[i]? ≠ some deadC) (cs : List V) {a b q : Nat} (ha : M.β[a]? = some q) (hb : M.β[b]? = some q) : (m.boxes.set i cs)[a]? = some deadC ∨ (m.boxes.set i cs)[b]? = some deadC ∨ a = b := by
  rcases h.nd a b q ha hb with k | k | k
  · exact .inl ((List.getElem?_set_ne fun (e : i = a) => hnd (by rw [e]; exact k)).trans k)
  · exact .inr (.inl ((List.getElem?_set_ne fun (e : i = b) => hnd (by rw [e]; exact k)).trans k))
  · exact .inr (.inr k)
theorem Good.ndDead (h : Good B I0 w0 M m w) {i j g : Nat} {ds : List V} (hnd : m.boxes[i]? ≠ some deadC) (hi : M.β[i]? = some g) (hj : M.β[j]? = some g) (hij : ¬ i = j) (h2 : m.boxes[j]? = some ds) : ds = deadC := by
  rcases h.nd i j g hi hj with k | k | k
  · exact absurd k hnd
  · rw [h2] at k; exact Option.some.inj k
  · exact absurd k hij
/-- A store into a box. -/
theorem Good.setBox (h : Good B I0 w0 M m w) {i g : Nat} {cs : List V} (hi : M.β[i]? = some g) (hlt : i < m.boxes.length) {vs vs' : Array Value} {T : TypeId} (hh : w.heap[g]? = some (.cells vs T (0, 0)))
    (hnd : m.boxes[i]? ≠ some deadC) (hκ : M.κ i = none) (hζ : M.ζ i ≤ vs'.size) (hlen : cs.length ≤ vs'.size) (hr : RepL M w cs (vs'.toList.take cs.length)) (ho : ∀ x ∈ vs'.toList.take cs.length, x.oneCell' = true) :
    Good B I0 w0 M { m with boxes := m.boxes.set i cs } (w.setRow g vs') ∧ Ext M M w (w.setRow g vs') := by
  have hgm : g ∈ M.β := List.mem_of_getElem? hi
  have hE : Ext M M w (w.setRow g vs') := ⟨fun _ _ h => h, fun _ G h => ⟨G, h, fun _ h => h⟩, fun b o hI => ⟨hI, cell_of_heap (setRow_other w g b _ (fun e => hnd (h.iβ b o hI i (by rw [e]; exact hi))))⟩, fun _ _ => rfl, fun _ _ => rfl⟩
  refine ⟨?_, hE⟩
  exact {
    below := h.below.trans (below_setRow (h.βlt hgm).2)
    sizeB := by simpa using h.sizeB
    i0 := h.i0
    i1 := h.i1
    ilt := fun b o hI => by simpa using h.ilt b o hI
    lβ := by simp [h.lβ]
    nd := fun a b q ha hb => h.ndSet hnd cs ha hb
    iβ := fun b o hI j hb => by
      by_cases hij : i = j
      · subst hij; exact absurd (h.iβ b o hI i hb) hnd
      · exact (List.getElem?_set_ne hij).trans (h.iβ b o hI j hb)
    box := fun j k ds h1 h2 => by
      by_cases hij : i = j
      · subst hij
        rw [hi] at h1
        obtain rfl := Option.some.inj h1
        simp only [List.getElem?_set_self hlt] at h2
        obtain rfl := Option.some.inj h2
        exact ⟨(h.βlt hgm).2, _, setRow_heap w _ vs vs' T _ hh, .inl ⟨hκ, vs', T, rfl, hlen, RepL.mono hE _ _ hr, ho⟩⟩
      · simp only [List.getElem?_set_ne hij] at h2
        obtain ⟨hB, ob, hh', hr'⟩ := h.box j k ds h1 h2
        by_cases hk : k = g
        · subst hk
          have hd := h.ndDead hnd hi h1 hij h2
          subst hd
          exact ⟨hB, _, setRow_heap w _ vs vs' T _ hh, hr'.dead rfl⟩
        have hne : k ≠ g := hk
        exact ⟨hB, ob, by rw [setRow_other w g k vs' hne]; exact hh', hr'.mono hE (lt_of_some h1)⟩
    κlt := h.κlt
    ζb := fun j k ds h1 h2 h3 => by
      by_cases hij : i = j
      · subst hij
        rw [hi] at h1
        obtain rfl := Option.some.inj h1
        exact ⟨vs', T, setRow_heap w _ vs vs' T _ hh, hζ⟩
      · simp only [List.getElem?_set_ne hij] at h2
        obtain ⟨us, U, hh', hz⟩ := h.ζb j k ds h1 h2 h3
        have hne : k ≠ g := fun e => by
          have hd := h.ndDead hnd hi (e ▸ h1) hij h2
          subst hd
          cases h3
        exact ⟨us, U, by rw [setRow_other w g k vs' hne]; exact hh', hz⟩
    lγ := h.lγ
    row := fun t G e sz n h1 h2 => by
      rcases h.row t G e sz n h1 h2 with h0 | ⟨g', c, xs, h3, h4, h5, h6⟩
      · exact .inl h0
      have hne : g' ≠ g := fun e => (h.gen t G _ h1 h3).2.2 (e ▸ hgm)
      refine .inr ⟨g', c, xs, h3, h4, h5.kept (row := some g) ⟨rfl, rfl, rfl, by simp, fun k _ hk => setRow_other w g k vs' (fun e => hk (by rw [e]))⟩ (.inr (by simpa [Value.ownBlock] using hne)), h6⟩
    gen := fun t G x h1 h2 => ⟨(h.gen t G x h1 h2).1, by simpa using (h.gen t G x h1 h2).2.1, (h.gen t G x h1 h2).2.2⟩
    sep := h.sep }

def putO (w : World) (g : Nat) (ob : Obj) : World := { w with heap := w.heap.setIfInBounds g ob }
theorem putO_other (w : World) (g k : Nat) (ob : Obj) (h : k ≠ g) : (putO w g ob).heap[k]? = w.heap[k]? := by
  simp [putO, Array.getElem?_setIfInBounds_ne (Ne.symm h)]
theorem putO_heap (w : World) (g : Nat) (ob : Obj) (h : g < w.heap.size) : (putO w g ob).heap[g]? = some ob := by
  simp [putO, h]
/-- Another object in a box. -/
theorem Good.putBox (h : Good B I0 w0 M m w) {i g : Nat} {cs : List V} (hi : M.β[i]? = some g) (hlt : i < m.boxes.length) {ob : Obj} (hnd : m.boxes[i]? ≠ some deadC) (hio : isObj cs = true) (hr : BoxRep M i w cs ob) :
    Good B I0 w0 M { m with boxes := m.boxes.set i cs } (putO w g ob) ∧ Ext M M w (putO w g ob) := by
  have hgm : g ∈ M.β := List.mem_of_getElem? hi
  have hE : Ext M M w (putO w g ob) := ⟨fun _ _ h => h, fun _ G h => ⟨G, h, fun _ h => h⟩, fun b o hI => ⟨hI, cell_of_heap (putO_other w g b _ (fun e => hnd (h.iβ b o hI i (by rw [e]; exact hi))))⟩, fun _ _ => rfl, fun _ _ => rfl⟩
  have hsz : (putO w g ob).heap.size = w.heap.size := by simp [putO]
  have hbl : Below B w (putO w g ob) := ⟨rfl, rfl, rfl, by rw [hsz]; exact Nat.le_refl _, fun k hk => putO_other w g k ob (by have := (h.βlt hgm).2; omega)⟩
  refine ⟨?_, hE⟩
  exact {
    below := h.below.trans hbl
    sizeB := by rw [hsz]; exact h.sizeB
    i0 := h.i0
    i1 := h.i1
    ilt := fun b o hI => by rw [hsz]; exact h.ilt b o hI
    lβ := by simp [h.lβ]
    nd := fun a b q ha hb => h.ndSet hnd cs ha hb
    iβ := fun b o hI j hb => by
      by_cases hij : i = j
      · subst hij; exact absurd (h.iβ b o hI i hb) hnd
      · exact (List.getElem?_set_ne hij).trans (h.iβ b o hI j hb)
    box := fun j k ds h1 h2 => by
      by_cases hij : i = j
      · subst hij
        rw [hi] at h1
        obtain rfl := Option.some.inj h1
        simp only [List.getElem?_set_self hlt] at h2
        obtain rfl := Option.some.inj h2
        exact ⟨(h.βlt hgm).2, ob, putO_heap w _ ob (h.βlt hgm).1, hr.mono hE (lt_of_some hi)⟩
      · simp only [List.getElem?_set_ne hij] at h2
        obtain ⟨hB, ob', hh', hr'⟩ := h.box j k ds h1 h2
        by_cases hk : k = g
        · subst hk
          have hd := h.ndDead hnd hi h1 hij h2
          subst hd
          exact ⟨hB, ob, putO_heap w _ ob (h.βlt hgm).1, hr'.dead rfl⟩
        have hne : k ≠ g := hk
        exact ⟨hB, ob', by rw [putO_other w g k ob hne]; exact hh', hr'.mono hE (lt_of_some h1)⟩
    κlt := h.κlt
    ζb := fun j k ds h1 h2 h3 => by
      by_cases hij : i = j
      · subst hij
        simp only [List.getElem?_set_self hlt] at h2
        obtain rfl := Option.some.inj h2
        rw [hio] at h3
        cases h3
      · simp only [List.getElem?_set_ne hij] at h2
        obtain ⟨us, U, hh', hz⟩ := h.ζb j k ds h1 h2 h3
        have hne : k ≠ g := fun e => by
          have hd := h.ndDead hnd hi (e ▸ h1) hij h2
          subst hd
          cases h3
        exact ⟨us, U, by rw [putO_other w g k ob hne]; exact hh', hz⟩
    lγ := h.lγ
    row := fun t G e sz n h1 h2 => by
      rcases h.row t G e sz n h1 h2 with h0 | ⟨g', c, xs, h3, h4, h5, h6⟩
      · exact .inl h0
      have hne : g' ≠ g := fun e => (h.gen t G _ h1 h3).2.2 (e ▸ hgm)
      refine .inr ⟨g', c, xs, h3, h4, h5.kept (row := some g) ⟨rfl, rfl, rfl, by rw [hsz]; exact Nat.le_refl _, fun k _ hk => putO_other w g k ob (fun e => hk (by rw [e]))⟩ (.inr (by simpa [Value.ownBlock] using hne)), h6⟩
    gen := fun t G x h1 h2 => ⟨(h.gen t G x h1 h2).1, by rw [hsz]; exact (h.gen t G x h1 h2).2.1, (h.gen t G x h1 h2).2.2⟩
    sep := h.sep }

/-- A row is longer: where its block stays, or is another one. -/
def Mp.setR (M : Mp) (t : Nat) (G : List (Nat × Nat × Nat)) (J : Nat → Nat → Prop) : Mp := { M with γ := M.γ.set t G, I := fun b o => M.I b o ∨ J b o }
theorem Good.setRow (h : Good B I0 w0 M m w) {t : Nat} {G : List (Nat × Nat × Nat)} {e : TypeId} {sz n n' g' c' : Nat} {xs' : List Value} (hG : M.γ[t]? = some G) (ht : m.tips[t]? = some (e, sz, n)) (hn : n < n')
    {row : Option Nat} (hgr : w.grownBy w' row) (hrow : ∀ g, row = some g → ∃ c, (n, g, c) ∈ G) (hkeep : ∀ (b o : Nat), M.I b o → w'.cell? ⟨b, o, none⟩ = w.cell? ⟨b, o, none⟩)
    (hown : w'.ownsRow B e sz (.slice (some ⟨g', 0, none⟩) n' c') n' xs') (hnew : (∃ c, (n, g', c) ∈ G) ∨ w.heap.size ≤ g') :
    Good B I0 w0 (M.setR t (G ++ [(n', g', c')]) fun b o => b = g' ∧ o < n' * sz) { m with tips := m.tips.set t (e, sz, n') } w' ∧ Ext M (M.setR t (G ++ [(n', g', c')]) fun b o => b = g' ∧ o < n' * sz) w w' := by
  have htl : t < M.γ.length := (List.getElem?_eq_some_iff.1 hG).1
  obtain ⟨hle, hcur⟩ : (∀ x ∈ G, x.1 ≤ n) ∧ ∀ c1, (n, g', c1) ∈ G → ∀ o, M.I g' o → o < n * sz := by
    rcases h.row t G e sz n hG ht with ⟨_, rfl⟩ | ⟨g, c, xs, h3, h4, h5, h6⟩
    · exact ⟨by simp, by simp⟩
    · refine ⟨fun x hx => (h4 x hx).1, fun c1 hc1 o hi => ?_⟩
      have e1 := (h4 _ hc1).2 rfl
      have e2 : g' = g := by injection e1 with _ e1; injection e1 with e1
      subst e2
      exact h6 o hi
  obtain ⟨hBg', hlt'⟩ := hown.lt g' rfl
  have hgβ : g' ∉ M.β := by
    rcases hnew with ⟨c1, hc1⟩ | hge
    · exact (h.gen t G _ hG hc1).2.2
    · exact fun hm => by have := (h.βlt hm).1; omega
  have rowB : ∀ k, row = some k → B ≤ k ∧ k ∉ M.β := fun k hk => by
    obtain ⟨c1, hc1⟩ := hrow k hk
    exact ⟨(h.gen t G _ hG hc1).1, (h.gen t G _ hG hc1).2.2⟩
  have other : ∀ (t1 : Nat) (G1 : List (Nat × Nat × Nat)) (x : Nat × Nat × Nat), t1 ≠ t → M.γ[t1]? = some G1 → x ∈ G1 → x.2.1 ≠ g' := by
    intro t1 G1 x hne h1 hx heq
    rcases hnew with ⟨c1, hc1⟩ | hge
    · exact hne (h.sep t1 t G1 G x _ h1 hG hx hc1 heq)
    · have := (h.gen t1 G1 x h1 hx).2.1; omega
  have getset : ∀ {t1 : Nat} {G1 : List (Nat × Nat × Nat)}, (M.γ.set t (G ++ [(n', g', c')]))[t1]? = some G1 → (t1 = t ∧ G1 = G ++ [(n', g', c')]) ∨ (t1 ≠ t ∧ M.γ[t1]? = some G1) := by
    intro t1 G1 h1
    by_cases e1 : t = t1
    · subst e1
      rw [List.getElem?_set_self htl] at h1
      exact .inl ⟨rfl, (Option.some.inj h1).symm⟩
    · rw [List.getElem?_set_ne e1] at h1
      exact .inr ⟨fun e => e1 e.symm, h1⟩
  have hE : Ext M (M.setR t (G ++ [(n', g', c')]) fun b o => b = g' ∧ o < n' * sz) w w' :=
    ⟨fun _ _ h => h, fun t1 G1 h1 => by
      by_cases e1 : t1 = t
      · subst e1
        rw [hG] at h1
        obtain rfl := Option.some.inj h1
        exact ⟨_, List.getElem?_set_self htl, fun x hx => by simp [hx]⟩
      · exact ⟨G1, (List.getElem?_set_ne (fun e => e1 e.symm)).trans h1, fun _ h => h⟩, fun b o hi => ⟨.inl hi, hkeep b o hi⟩, fun _ _ => rfl, fun _ _ => rfl⟩
  refine ⟨?_, hE⟩
  exact {
    below := h.below.grown hgr h.sizeB (fun k hk => (rowB k hk).1)
    sizeB := Nat.le_trans h.sizeB hgr.size
    i0 := fun b o hi => .inl (h.i0 b o hi)
    i1 := fun b o hi => hi.elim (h.i1 b o) (fun hj => .inr (hj.1 ▸ hBg'))
    ilt := fun b o hi => hi.elim (fun hi => Nat.lt_of_lt_of_le (h.ilt b o hi) hgr.size) (fun hj => hj.1 ▸ hlt')
    lβ := h.lβ
    nd := h.nd
    iβ := fun b o hi => hi.elim (h.iβ b o) (fun hj i hb => absurd (List.mem_of_getElem? hb) (hj.1 ▸ hgβ))
    box := fun i k cs h1 h2 => by
      obtain ⟨hB, ob, hh, hr⟩ := h.box i k cs h1 h2
      refine ⟨hB, ob, ?_, hr.mono hE (lt_of_some h1)⟩
      rw [hgr.block k (Array.getElem?_eq_some_iff.1 hh).1 (fun e => (rowB k e.symm).2 (List.mem_of_getElem? h1))]
      exact hh
    κlt := h.κlt
    ζb := fun i g1 ds h1 h2 h3 => by
      obtain ⟨us, U, hh', hz⟩ := h.ζb i g1 ds h1 h2 h3
      have hm : g1 ∈ M.β := List.mem_of_getElem? h1
      exact ⟨us, U, by rw [hgr.block g1 (h.βlt hm).1 (fun e => (rowB g1 e.symm).2 hm)]; exact hh', hz⟩
    lγ := by simp [Mp.setR, h.lγ]
    row := fun t1 G1 e1 sz1 n1 h1 h2 => by
      simp only [Mp.setR] at h1 ⊢
      simp only at h2
      rcases getset h1 with ⟨rfl, rfl⟩ | ⟨hne, h1⟩
      · rw [List.getElem?_set_self (by rw [← h.lγ]; exact htl)] at h2
        obtain ⟨rfl, rfl, rfl⟩ : e = e1 ∧ sz = sz1 ∧ n' = n1 := by simpa using h2
        refine .inr ⟨g', c', xs', by simp, fun x hx => ?_, hown, fun o hi => ?_⟩
        · simp only [List.mem_append, List.mem_singleton] at hx
          rcases hx with hx | rfl
          · have := hle x hx
            exact ⟨by omega, fun e => by omega⟩
          · exact ⟨Nat.le_refl _, fun _ => rfl⟩
        · rcases hi with hi | hj
          · rcases hnew with ⟨c1, hc1⟩ | hge
            · have := hcur c1 hc1 o hi
              have := Nat.mul_le_mul_right sz (Nat.le_of_lt hn)
              omega
            · have := h.ilt g' o hi
              omega
          · exact hj.2
      · rw [List.getElem?_set_ne (fun e => hne e.symm)] at h2
        rcases h.row t1 G1 e1 sz1 n1 h1 h2 with h0 | ⟨g2, c2, xs2, k3, k4, k5, k6⟩
        · exact .inl h0
        refine .inr ⟨g2, c2, xs2, k3, k4, k5.kept hgr (.inr (fun hq => ?_)), fun o hi => ?_⟩
        · obtain ⟨c3, hc3⟩ := hrow g2 (by simpa [Value.ownBlock] using hq.symm)
          exact hne (h.sep t1 t G1 G _ _ h1 hG k3 hc3 rfl)
        · rcases hi with hi | hj
          · exact k6 o hi
          · exact absurd hj.1 (other t1 G1 _ hne h1 k3)
    gen := fun t1 G1 x h1 h2 => by
      simp only [Mp.setR] at h1 ⊢
      rcases getset h1 with ⟨rfl, rfl⟩ | ⟨hne, h1⟩
      · simp only [List.mem_append, List.mem_singleton] at h2
        rcases h2 with h2 | rfl
        · exact ⟨(h.gen _ G x hG h2).1, Nat.lt_of_lt_of_le (h.gen _ G x hG h2).2.1 hgr.size, (h.gen _ G x hG h2).2.2⟩
        · exact ⟨hBg', hlt', hgβ⟩
      · exact ⟨(h.gen t1 G1 x h1 h2).1, Nat.lt_of_lt_of_le (h.gen t1 G1 x h1 h2).2.1 hgr.size, (h.gen t1 G1 x h1 h2).2.2⟩
    sep := fun t1 t2 G1 G2 x1 x2 h1 h2 hx1 hx2 heq => by
      simp only [Mp.setR] at h1 h2
      have inG : ∀ x ∈ G ++ [(n', g', c')], x ∈ G ∨ x.2.1 = g' := fun x hx => by
        simp only [List.mem_append, List.mem_singleton] at hx
        rcases hx with hx | rfl
        · exact .inl hx
        · exact .inr rfl
      rcases getset h1 with ⟨a1, b1⟩ | ⟨hne1, k1⟩ <;> rcases getset h2 with ⟨a2, b2⟩ | ⟨hne2, k2⟩
      · exact a1.trans a2.symm
      · subst b1
        rcases inG x1 hx1 with hx | hx
        · exact a1.trans (h.sep _ t2 G G2 x1 x2 hG k2 hx hx2 heq)
        · exact absurd (heq.symm.trans hx) (other t2 G2 x2 hne2 k2 hx2)
      · subst b2
        rcases inG x2 hx2 with hx | hx
        · exact (h.sep t1 _ G1 G x1 x2 k1 hG hx1 hx heq).trans a2.symm
        · exact absurd (heq.trans hx) (other t1 G1 x1 hne1 k1 hx1)
      · exact h.sep t1 t2 G1 G2 x1 x2 k1 k2 hx1 hx2 heq }
end
end Go.Av

namespace Go.Av
open Go.RowKit

def compX : Operand → Option X
  | .tmp t => some (.t t)
  | .const v => if plain v = true then some (.c v) else none
  | .func f => some (.f f)
  | .global _ => none
def compXs (l : List Operand) : Option (List X) := l.mapM compX

def Slots (M : Mp) (w : World) (n : Nat) (s : Nat → V) (a : Act) : Prop := a.tmps.size = n ∧ ∀ t, Rep M w (s t) (a.tmps.getD t undef)

/-- An operation has run: its value, and the world. -/
def Runs (P : Program) (o : Oper) (a : Act) (w : World) (x : Value) (w' : World) : Prop :=
  (execOp a.eval o).run P w = .ok (.value x) w' ∨ (x = undef ∧ (execOp a.eval o).run P w = .ok .skip w')

theorem plain_one {v : Value} (h : plain v = true) : v.oneCell' = true := by
  cases v <;> simp_all [plain, Value.oneCell']
theorem rep_one {M : Mp} {w : World} {v : V} {x : Value} (h : Rep M w v x) (h1 : v.one = true) : x.oneCell' = true := by
  cases v with
  | val v => obtain ⟨rfl, hp⟩ := h; exact plain_one hp
  | agg l => simp [V.one] at h1
  | tuple l => simp [V.one] at h1
  | any => simp [V.one] at h1
  | anyc => exact h
  | buf a b c d e => obtain ⟨g, c, rfl, _⟩ := h; rfl
  | alts l =>
    obtain ⟨v, hv, hr⟩ := repA_iff.1 h.2
    have := List.all_eq_true.1 h1 v hv
    cases v with
    | val v => obtain ⟨rfl, hp⟩ := hr; exact plain_one hp
    | _ => cases this
  | lit sz xs => rcases h with ⟨_, rfl⟩ | ⟨ad, c, rfl, _⟩ <;> rfl
  | full sz xs => rcases h with ⟨_, rfl⟩ | ⟨ad, rfl, _⟩ <;> rfl
  | row t sz xs => obtain ⟨G, _, h⟩ := h; rcases h with ⟨_, rfl⟩ | ⟨g, c, rfl, _⟩ <;> rfl
  | emp sz => obtain ⟨ad, c, rfl⟩ := h; rfl
  | ptr b o => obtain ⟨g, rfl, _⟩ := h; rfl
  | eptr cs => obtain ⟨ad, rfl, _⟩ := h; rfl
  | func f c => obtain ⟨vs, rfl, _⟩ := h; rfl
  | iface t v => obtain ⟨y, rfl, _⟩ := h; rfl
  | yld b => obtain ⟨g, rfl, _⟩ := h; rfl
  | ref k b => obtain ⟨g, _, rfl, _⟩ := h; cases k <;> rfl
theorem plain_cells {v : Value} (h : plain v = true) : v.cells = #[v] := by
  cases v <;> simp_all [plain, Value.cells]
/-- One that has cells. -/
def noT (v : V) : Prop := (∀ l, v ≠ .tuple l) ∧ v ≠ .any ∧ ∀ l, v = .alts l → v.one = true
/-- A value's cells. -/
theorem rep_cells {M : Mp} {w : World} {v : V} {x : Value} (h : Rep M w v x) (ht : noT v) : RepL M w v.cells x.cells.toList := by
  cases v with
  | agg l => obtain ⟨vs, rfl, h⟩ := h; exact h
  | tuple l => exact absurd rfl (ht.1 l)
  | any => exact absurd rfl ht.2.1
  | anyc =>
    have hx : x.cells = #[x] := by cases x <;> simp_all [Rep, Value.oneCell', Value.cells]
    rw [hx]
    exact ⟨_, [], rfl, h, rfl⟩
  | buf a b c d e => have h' := h; obtain ⟨g, c, rfl, _⟩ := h; exact ⟨_, [], rfl, h', rfl⟩
  | alts l =>
    have h' := h
    obtain ⟨v, hv, hr⟩ := repA_iff.1 h.2
    have := List.all_eq_true.1 (ht.2.2 l rfl) v hv
    cases v with
    | val v => obtain ⟨rfl, hp⟩ := hr; rw [plain_cells hp]; exact ⟨x, [], rfl, h', rfl⟩
    | _ => cases this
  | val v => obtain ⟨rfl, hp⟩ := h; rw [plain_cells hp]; exact ⟨x, [], rfl, ⟨rfl, hp⟩, rfl⟩
  | lit sz xs => have h' := h; rcases h with ⟨_, rfl⟩ | ⟨ad, c, rfl, _⟩ <;> exact ⟨_, [], rfl, h', rfl⟩
  | full sz xs => have h' := h; rcases h with ⟨_, rfl⟩ | ⟨ad, rfl, _⟩ <;> exact ⟨_, [], rfl, h', rfl⟩
  | row t sz xs => have h' := h; obtain ⟨G, _, h⟩ := h; rcases h with ⟨_, rfl⟩ | ⟨g, c, rfl, _⟩ <;> exact ⟨_, [], rfl, h', rfl⟩
  | emp sz => have h' := h; obtain ⟨ad, c, rfl⟩ := h; exact ⟨_, [], rfl, h', rfl⟩
  | ptr b o => have h' := h; obtain ⟨g, rfl, _⟩ := h; exact ⟨_, [], rfl, h', rfl⟩
  | eptr cs => have h' := h; obtain ⟨ad, rfl, _⟩ := h; exact ⟨_, [], rfl, h', rfl⟩
  | func f c => have h' := h; obtain ⟨vs, rfl, _⟩ := h; exact ⟨_, [], rfl, h', rfl⟩
  | iface t v => have h' := h; obtain ⟨y, rfl, _⟩ := h; exact ⟨_, [], rfl, h', rfl⟩
  | yld b => have h' := h; obtain ⟨g, rfl, _⟩ := h; exact ⟨_, [], rfl, h', rfl⟩
  | ref k b => have h' := h; obtain ⟨g, _, rfl, _⟩ := h; cases k <;> exact ⟨_, [], rfl, h', rfl⟩
theorem all_one {M : Mp} {w : World} : ∀ {l : List V} {m : List Value}, RepL M w l m → l.all V.one = true → ∀ x ∈ m, x.oneCell' = true
  | [], _, h, _ => by simp only [RepL] at h; subst h; simp
  | v :: l, _, h, h1 => by
    obtain ⟨x, r, rfl, h2, h3⟩ := h
    simp only [List.all_cons, Bool.and_eq_true] at h1
    intro y hy
    simp only [List.mem_cons] at hy
    rcases hy with rfl | hy
    · exact rep_one h2 h1.1
    · exact all_one h3 h1.2 y hy
theorem one_tuple {v : V} (h : v.cells.all V.one = true) : noT v := by
  refine ⟨?_, ?_, ?_⟩
  · rintro l rfl
    simp [V.cells, V.one] at h
  · rintro rfl
    simp [V.cells, V.one] at h
  · rintro l rfl
    simpa only [V.cells, List.all_cons, List.all_nil, Bool.and_true] using h

section
variable {P : Program} {o : Oper} {a : Act} {w : World} {M : Mp} {m : Mem} {n : Nat} {s : Nat → V} {B : Nat} {I0 : Nat → Nat → Prop} {w0 : World}

theorem comp_ev {x : Operand} {y : X} (h : compX x = some y) (hs : Slots M w n s a) : Rep M w (y.ev s) (a.eval x) := by
  cases x with
  | tmp t => simp only [compX, Option.some.injEq] at h; subst h; exact hs.2 t
  | const v =>
    simp only [compX] at h
    split at h
    · rename_i hp
      simp only [Option.some.injEq] at h; subst h
      exact ⟨rfl, hp⟩
    · cases h
  | func f => simp only [compX, Option.some.injEq] at h; subst h; exact ⟨#[], rfl, rfl⟩
  | global g => simp [compX] at h

/-- What is claimed of each kind. -/
def Sound (P : Program) (o : Oper) (a : Act) (w : World) (M : Mp) (B : Nat) (I0 : Nat → Nat → Prop) (w0 : World) (v : V) (m' : Mem) : Prop :=
  ∃ x w' M', Runs P o a w x w' ∧ Ext M M' w w' ∧ Good B I0 w0 M' m' w' ∧ Rep M' w' v x

theorem sound_same {v : V} {x : Value} (hg : Good B I0 w0 M m w) (h : (execOp a.eval o).run P w = .ok (.value x) w) (hr : Rep M w v x) : Sound P o a w M B I0 w0 v m :=
  ⟨x, w, M, .inl h, Ext.refl M w, hg, hr⟩

theorem sound_mov {x : Operand} {x' : X} (ho : o.op = .move x ∨ o.op = .assign x) (hx : compX x = some x') (hs : Slots M w n s a) (hg : Good B I0 w0 M m w) :
    Sound P o a w M B I0 w0 (x'.ev s) m :=
  sound_same hg (x := a.eval x) (by rcases ho with ho | ho <;> (unfold execOp; rw [ho]; rfl)) (comp_ev hx hs)

theorem sound_pick {c x y : Operand} {c' x' y' : X} (ho : o.op = .pick c x y) (hc : compX c = some c') (hx : compX x = some x') (hy : compX y = some y') (hs : Slots M w n s a) (hg : Good B I0 w0 M m w)
    {t : Bool} (ht : c'.ev s = .val (.bool t)) : Sound P o a w M B I0 w0 (if t = true then x'.ev s else y'.ev s) m := by
  have h1 := comp_ev hc hs
  rw [ht] at h1
  obtain ⟨h1, _⟩ := h1
  refine sound_same hg (x := if t then a.eval x else a.eval y) (by unfold execOp; rw [ho]; simp [h1, asBool]) ?_
  cases t
  · exact comp_ev hy hs
  · exact comp_ev hx hs

theorem binV_run {op : BinOp} {t : TypeId} {u v r : V} {x y : Value} (hu : Rep M w u x) (hv : Rep M w v y) (h : binV op u v = some r) :
    ∃ z, (binOp op t x y).run P w = .ok z w ∧ (∀ X Y : Operand, eqGuard op t X Y x y = pure ()) ∧ Rep M w r z := by
  unfold binV at h
  split at h
  · rename_i k a k' b
    obtain ⟨rfl, _⟩ := hu
    obtain ⟨rfl, _⟩ := hv
    have hgd : ∀ X Y : Operand, eqGuard op t X Y (.int k a) (.int k' b) = pure () := fun X Y => eqGuard_at_int (op := op) (t := t) (x := X) (y := Y) (v := .int k' b) k a
    refine Exists.elim (?_ : ∃ z, (binOp op t (.int k a) (.int k' b)).run P w = .ok z w ∧ Rep M w r z) (fun z hz => ⟨z, hz.1, hgd, hz.2⟩)
    cases op <;> simp only at h
    case add => split at h <;> cases h; rename_i e; subst e; exact ⟨_, by simp [binOp, Op.intArith], rfl, rfl⟩
    case sub => split at h <;> cases h; rename_i e; subst e; exact ⟨_, by simp [binOp, Op.intArith], rfl, rfl⟩
    case mul => split at h <;> cases h; rename_i e; subst e; exact ⟨_, by simp [binOp, Op.intArith], rfl, rfl⟩
    case quo => split at h <;> cases h; rename_i e; obtain ⟨e, e2⟩ := e; subst e; exact ⟨_, by simp [binOp, Op.intDiv, e2], rfl, rfl⟩
    case rem => split at h <;> cases h; rename_i e; obtain ⟨e, e2⟩ := e; subst e; exact ⟨_, by simp [binOp, Op.intDiv, e2], rfl, rfl⟩
    case and => split at h <;> cases h; rename_i e; subst e; exact ⟨_, by simp [binOp, Op.intBits], rfl, rfl⟩
    case or => split at h <;> cases h; rename_i e; subst e; exact ⟨_, by simp [binOp, Op.intBits], rfl, rfl⟩
    case xor => split at h <;> cases h; rename_i e; subst e; exact ⟨_, by simp [binOp, Op.intBits], rfl, rfl⟩
    case andNot => cases h
    case shl => split at h <;> cases h; rename_i e; exact ⟨_, by simp [binOp, Op.shift, e], rfl, rfl⟩
    case shr => split at h <;> cases h; rename_i e; exact ⟨_, by simp [binOp, Op.shift, e], rfl, rfl⟩
    case eql => split at h <;> cases h; rename_i e; subst e; exact ⟨_, by simp [binOp, Op.intCmp], rfl, rfl⟩
    case neq => split at h <;> cases h; rename_i e; subst e; exact ⟨_, by simp [binOp, Op.intCmp], rfl, rfl⟩
    case lss => split at h <;> cases h; rename_i e; subst e; exact ⟨_, by simp [binOp, Op.intCmp], rfl, rfl⟩
    case leq => split at h <;> cases h; rename_i e; subst e; exact ⟨_, by simp [binOp, Op.intCmp], rfl, rfl⟩
    case gtr => split at h <;> cases h; rename_i e; subst e; exact ⟨_, by simp [binOp, Op.intCmp], rfl, rfl⟩
    case geq => split at h <;> cases h; rename_i e; subst e; exact ⟨_, by simp [binOp, Op.intCmp], rfl, rfl⟩
  · rename_i a b
    obtain ⟨rfl, _⟩ := hu
    obtain ⟨rfl, _⟩ := hv
    have hgd : ∀ X Y : Operand, eqGuard op t X Y (.string a) (.string b) = pure () := fun X Y => eqGuard_at_string (op := op) (t := t) (x := X) (y := Y) (v := .string b) a
    cases op <;> simp only at h <;> cases h
    · exact ⟨_, by simp [binOp, Op.stringOp], hgd, rfl, rfl⟩
    · exact ⟨_, by simp [binOp, Op.stringOp], hgd, rfl, rfl⟩
  · rename_i k a k' b
    obtain ⟨rfl, _⟩ := hu
    obtain ⟨rfl, _⟩ := hv
    have hgd : ∀ X Y : Operand, eqGuard op t X Y (.float k a) (.float k' b) = pure () := fun X Y => eqGuard_at_float (op := op) (t := t) (x := X) (y := Y) (v := .float k' b) k a
    cases op <;> simp only at h
    case eql => split at h <;> cases h; rename_i e; subst e; exact ⟨_, by simp [binOp, Op.floatCmp]; rfl, hgd, rfl, rfl⟩
    case neq => split at h <;> cases h; rename_i e; subst e; exact ⟨_, by simp [binOp, Op.floatCmp]; rfl, hgd, rfl, rfl⟩
    all_goals cases h
  · rename_i k a b k' c d
    obtain ⟨rfl, _⟩ := hu
    obtain ⟨rfl, _⟩ := hv
    have hgd : ∀ X Y : Operand, eqGuard op t X Y (.complex k a b) (.complex k' c d) = pure () := fun X Y => eqGuard_at_complex (op := op) (t := t) (x := X) (y := Y) (v := .complex k' c d) k a b
    cases op <;> simp only at h
    case eql => split at h <;> cases h; rename_i e; subst e; exact ⟨_, by simp [binOp, Op.complexOp, Op.Complex.cmp, Op.floatCmp]; rfl, hgd, rfl, rfl⟩
    case neq => split at h <;> cases h; rename_i e; subst e; exact ⟨_, by simp [binOp, Op.complexOp, Op.Complex.cmp, Op.floatCmp]; rfl, hgd, rfl, rfl⟩
    all_goals cases h
  · cases h

theorem sound_bin {op : BinOp} {t ty : TypeId} {x y : Operand} {x' y' : X} (ho : o.op = .binOp op t x y ty) (hx : compX x = some x') (hy : compX y = some y') (hs : Slots M w n s a) (hg : Good B I0 w0 M m w)
    {r : V} (h : binV op (x'.ev s) (y'.ev s) = some r) : Sound P o a w M B I0 w0 r m := by
  obtain ⟨z, h1, h2, h3⟩ := binV_run (P := P) (t := t) (comp_ev hx hs) (comp_ev hy hs) h
  exact sound_same hg (x := z) (by unfold execOp; rw [ho]; simp [h2, h1]) h3

theorem sound_beq {op : BinOp} {t ty : TypeId} {x y : Operand} {x' y' : X} {ne p q : Bool} (ho : o.op = .binOp op t x y ty) (hop : op = if ne = true then .neq else .eql) (ht : P.underlying t = some .bool) (hx : compX x = some x') (hy : compX y = some y') (hs : Slots M w n s a) (hg : Good B I0 w0 M m w)
    (h1 : x'.ev s = .val (.bool p)) (h2 : y'.ev s = .val (.bool q)) : Sound P o a w M B I0 w0 (.val (.bool (if ne = true then p != q else p == q))) m := by
  have k1 := comp_ev hx hs
  have k2 := comp_ev hy hs
  rw [h1] at k1
  rw [h2] at k2
  obtain ⟨k1, _⟩ := k1
  obtain ⟨k2, _⟩ := k2
  have heq : ∀ d, (Op.equalIn (d + 1) t (.bool p) (.bool q)).run P w = .ok (p == q) w := fun d => by simp [Op.equalIn, run_underlying ht]
  refine sound_same hg (x := .bool (if ne = true then p != q else p == q)) ?_ ⟨rfl, rfl⟩
  unfold execOp
  rw [ho]
  subst hop
  cases ne
  · simp [k1, k2, eqGuard_at_bool, binOp, Op.equal, Op.maxDepth, heq 9999]
  · simp [k1, k2, eqGuard_at_bool, binOp, Op.equal, Op.maxDepth, heq 9999, bne]

theorem isNil_rep {v : V} {x : Value} (h : Rep M w v x) (hn : v.isNil = true) : v = .val (.slice none 0 0) ∧ x = .slice none 0 0 := by
  unfold V.isNil at hn
  split at hn
  · exact ⟨rfl, h.1⟩
  · cases hn

theorem sound_snil {op : BinOp} {t ty e : TypeId} {x : Operand} {x' : X} {ne r : Bool} (ho : o.op = .binOp op t x (.const (.slice none 0 0)) ty) (hop : op = if ne = true then .neq else .eql) (ht : P.underlying t = some (.slice e)) (hx : compX x = some x')
    (hs : Slots M w n s a) (hg : Good B I0 w0 M m w) (h : (match x'.ev s with
      | .val (.slice none 0 0) => some (!ne)
      | .emp _ => some ne
      | .lit _ (_ :: _) | .full _ (_ :: _) | .row _ _ (_ :: _) => some ne
      | _ => none) = some r) : Sound P o a w M B I0 w0 (.val (.bool r)) m := by
  have k1 := comp_ev hx hs
  obtain ⟨b, n', c', hv, hb⟩ : ∃ b n' c', a.eval x = .slice b n' c' ∧ r = (if ne = true then !b.isNone else b.isNone) := by
    split at h
    · rename_i e; rw [e] at k1; obtain ⟨k1, _⟩ := k1; cases h; exact ⟨none, 0, 0, k1, by cases ne <;> rfl⟩
    · rename_i e; rw [e] at k1; obtain ⟨ad, c, k1⟩ := k1; cases h; exact ⟨some ad, _, _, k1, by cases ne <;> rfl⟩
    · rename_i e; rw [e] at k1; rcases k1 with ⟨k0, _⟩ | ⟨ad, c, k1, _⟩; · cases k0
      cases h; exact ⟨some ad, _, _, k1, by cases ne <;> rfl⟩
    · rename_i e; rw [e] at k1; rcases k1 with ⟨k0, _⟩ | ⟨ad, k1, _⟩; · cases k0
      cases h; exact ⟨some ad, _, _, k1, by cases ne <;> rfl⟩
    · rename_i e; rw [e] at k1; obtain ⟨G, _, k1⟩ := k1; rcases k1 with ⟨k0, _⟩ | ⟨g, c, k1, _⟩; · cases k0
      cases h; exact ⟨some _, _, _, k1, by cases ne <;> rfl⟩
    · cases h
  have heq : ∀ d, (Op.equalIn (d + 1) t (.slice b n' c') (.slice none 0 0)).run P w = .ok b.isNone w := fun d => by
    cases b <;> simp [Op.equalIn, run_underlying ht]
  refine sound_same hg (x := .bool r) ?_ ⟨rfl, rfl⟩
  unfold execOp
  rw [ho]
  subst hop
  subst hb
  have hc : a.eval (.const (.slice none 0 0)) = .slice none 0 0 := rfl
  cases ne
  · simp [hc, hv, eqGuard_at_slice, binOp, Op.equal, Op.maxDepth, heq 9999]
  · simp [hc, hv, eqGuard_at_slice, binOp, Op.equal, Op.maxDepth, heq 9999]

theorem sound_not {t : TypeId} {x : Operand} {x' : X} {p : Bool} (ho : o.op = .unOp .not t x) (hx : compX x = some x') (hs : Slots M w n s a) (hg : Good B I0 w0 M m w) (h : x'.ev s = .val (.bool p)) :
    Sound P o a w M B I0 w0 (.val (.bool (!p))) m := by
  have k1 := comp_ev hx hs
  rw [h] at k1
  obtain ⟨k1, _⟩ := k1
  exact sound_same hg (x := .bool (!p)) (by unfold execOp; rw [ho]; simp [k1, Op.unary]) ⟨rfl, rfl⟩
theorem sound_neg {t : TypeId} {x : Operand} {x' : X} {k : IntKind} {q : Int} (ho : o.op = .unOp .neg t x) (hx : compX x = some x') (hs : Slots M w n s a) (hg : Good B I0 w0 M m w) (h : x'.ev s = .val (.int k q)) :
    Sound P o a w M B I0 w0 (.val (.int k (k.wrap (0 - q)))) m := by
  have k1 := comp_ev hx hs
  rw [h] at k1
  obtain ⟨k1, _⟩ := k1
  exact sound_same hg (x := .int k (k.wrap (0 - q))) (by unfold execOp; rw [ho]; simp [k1, Op.unary, Op.intArith]) ⟨rfl, rfl⟩
theorem sound_conv {src dst : TypeId} {x : Operand} {x' : X} {k : IntKind} {r : V} (ho : o.op = .convert src dst x) (h1 : (P.underlying src).isSome = true) (h2 : P.underlying dst = some (.int k)) (hx : compX x = some x') (hs : Slots M w n s a) (hg : Good B I0 w0 M m w) (h : convV k (x'.ev s) = some r) :
    Sound P o a w M B I0 w0 r m := by
  have k1 := comp_ev hx hs
  obtain ⟨d, hd⟩ := Option.isSome_iff_exists.1 h1
  unfold convV at h
  split at h
  · rename_i k0 q e
    cases h
    rw [e] at k1
    obtain ⟨k1, _⟩ := k1
    exact sound_same hg (x := .int k (k.wrap q)) (by unfold execOp; rw [ho]; simp [k1, convert, run_underlying hd, run_underlying h2, Conv.intToInt]) ⟨rfl, rfl⟩
  · rename_i sk b e
    split at h
    · rename_i q hq
      split at h <;> cases h
      rename_i hb
      rw [e] at k1
      obtain ⟨k1, _⟩ := k1
      exact sound_same hg (x := .int k q) (by unfold execOp; rw [ho]; simp [k1, convert, run_underlying hd, run_underlying h2, Conv.floatToInt, hq, hb]) ⟨rfl, rfl⟩
    · cases h
  · cases h
theorem sound_ext {x : Operand} {x' : X} {i : Nat} {l : List V} {r : V} (ho : o.op = .extract x i) (hx : compX x = some x') (hs : Slots M w n s a) (hg : Good B I0 w0 M m w) (h : x'.ev s = .tuple l) (hi : l[i]? = some r) :
    Sound P o a w M B I0 w0 r m := by
  have k1 := comp_ev hx hs
  rw [h] at k1
  obtain ⟨vs, k1, k2⟩ := k1
  obtain ⟨y, hy, hr⟩ := k2.get hi
  have hy' : vs[i]? = some y := by simpa using hy
  exact sound_same hg (x := y) (by unfold execOp; rw [ho]; simp [k1, Instr.extract, hy']) hr
end
end Go.Av

namespace Go.Av
open Go.RowKit

section
variable {P : Program} {o : Oper} {a : Act} {w : World} {M : Mp} {m : Mem} {n : Nat} {s : Nat → V} {B : Nat} {I0 : Nat → Nat → Prop} {w0 : World}

/-- Is a type's variable a row of cells? -/
def aggT (P : Program) (t : TypeId) : Bool := match P.underlying t with
  | some (.struct _) | some (.array _ _) => true
  | _ => false
theorem run_isAgg {t : TypeId} {d : TypeDesc} (h : P.underlying t = some d) (w : World) : (isAgg t).run P w = .ok (aggT P t) w := by
  unfold isAgg aggT
  rw [Sem.run_bind, run_underlying h w]
  cases d <;> simp [h]
theorem run_sizeOf {t : TypeId} {i : TypeInfo} (h : P.info? t = some i) (w : World) : (sizeOf t).run P w = .ok i.size w := by simp [sizeOf, typeInfo, h]

theorem sound_fad {T f : TypeId} {x : Operand} {x' : X} {fs : Array Field} {fd : Field} {i : TypeInfo} {r : V} (ho : o.op = .fieldAddr T x f) (hT : P.underlying T = some (.struct fs)) (hf : fs[f]? = some fd) (hi : P.info? fd.type = some i) (h0 : i.size ≠ 0)
    (hx : compX x = some x') (hs : Slots M w n s a) (hg : Good B I0 w0 M m w) (h : (match x'.ev s with
      | .ptr b o => some (.ptr b (o + fd.offset))
      | .eptr cs => some (.eptr (cs.drop fd.offset))
      | _ => none : Option V) = some r) : Sound P o a w M B I0 w0 r m := by
  have k1 := comp_ev hx hs
  have hrun : ∀ ad : Addr, a.eval x = .pointer (some ad) → (execOp a.eval o).run P w = .ok (.value (.pointer (some (ad.add fd.offset)))) w := fun ad hv => by
    unfold execOp
    rw [ho]
    simp [Instr.fieldAt, run_underlying hT, hf, hv, Instr.sureAddr, fieldPlace, run_sizeOf hi, h0]
  split at h
  · rename_i b q e
    rw [e] at k1
    obtain ⟨g, k1, k2⟩ := k1
    cases h
    refine sound_same hg (hrun _ k1) ⟨g, ?_, k2⟩
    rw [Addr.add_mid]
  · rename_i cs e
    rw [e] at k1
    obtain ⟨ad, k1, k2, k3⟩ := k1
    cases h
    refine sound_same hg (hrun _ k1) ⟨_, rfl, ?_, ?_⟩
    · rw [add_none k2]
    · rw [add_none k2]; exact k3.drop _
  · cases h

theorem take_mid {α : Type} (l Y : List α) (q k n : Nat) (hk : Y.length = k) (h1 : q + k ≤ n) (h2 : n ≤ l.length) : (l.take q ++ Y ++ l.drop (q + k)).take n = (l.take n).take q ++ Y ++ (l.take n).drop (q + k) := by
  have e1 : l.take q = (l.take n).take q := by rw [List.take_take, Nat.min_eq_left (by omega)]
  have e2 : l.drop (q + k) = (l.take n).drop (q + k) ++ l.drop n := by
    conv => lhs; rw [← List.take_append_drop n l]
    rw [List.drop_append_of_le_length (by simp; omega)]
  rw [e1, e2, ← List.append_assoc, List.take_left']
  simp
  omega
/-- The cells behind an address that is read. -/
theorem at_cells {v : V} {x : Value} {cs : List V} (hg : Good B I0 w0 M m w) (hr : Rep M w v x) (h : v.at m = some cs) :
    ∃ ad us, x = .pointer (some ad) ∧ ad.spot = none ∧ RepL M w cs us ∧ ∀ (j : Nat) (u : Value), us[j]? = some u → w.cell? (ad.add j) = some u := by
  unfold V.at at h
  split at h
  · rename_i b off
    obtain ⟨g, rfl, hβ⟩ := hr
    simp only [Option.bind_eq_some_iff] at h
    obtain ⟨c0, hb, h⟩ := h
    split at h
    · cases h
    rename_i hno
    cases h
    obtain ⟨_, ob, hh, hbr⟩ := hg.box b g c0 hβ hb
    obtain ⟨vs, T, rfl, hle, hl, _⟩ := hbr.cells (by simpa using hno)
    refine ⟨⟨g, off, none⟩, (vs.toList.take c0.length).drop off, rfl, rfl, ?_, ?_⟩
    · refine RepL.of_get (by simp [RepL.length hl]) (fun i v y hv hy => ?_)
      rw [List.getElem?_drop] at hv hy
      obtain ⟨z, hz, hrz⟩ := hl.get hv
      rw [hz] at hy
      obtain rfl := Option.some.inj hy
      exact hrz
    · intro j u hj
      rw [List.getElem?_drop, List.getElem?_take] at hj
      split at hj
      · rw [Addr.add_mid, cell_of_row w g _ vs T (0, 0) hh]
        simpa using hj
      · cases hj
  · rename_i c0
    obtain ⟨ad, rfl, h1, h2⟩ := hr
    cases h
    obtain ⟨us, h3, h4, _⟩ := h2.list
    exact ⟨ad, us, rfl, h1, h3, fun j u hj => by rw [add_none h1]; exact (h4 j u hj).2⟩
  · cases h

theorem sound_ld1 {T : TypeId} {x : Operand} {x' : X} {d : TypeDesc} {cs : List V} {r : V} (ho : o.op = .load T x) (hT : P.underlying T = some d) (hagg : aggT P T = false)
    (hx : compX x = some x') (hs : Slots M w n s a) (hg : Good B I0 w0 M m w) (h : (x'.ev s).at m = some cs) (h0 : cs[0]? = some r) : Sound P o a w M B I0 w0 r m := by
  obtain ⟨ad, us, h1, h2, h3, h4⟩ := at_cells hg (comp_ev hx hs) h
  obtain ⟨u, hu, hr⟩ := h3.get h0
  have hc : w.cell? ad = some u := by have := h4 0 u hu; rwa [Addr.add_zero'] at this
  refine sound_same hg (x := u) ?_ hr
  unfold execOp
  rw [ho]
  simp [Instr.loadAt, h1, Instr.sureAddr, loadVar, run_isAgg hT, hagg, hc]
theorem sound_ldn {T : TypeId} {x : Operand} {x' : X} {d : TypeDesc} {i : TypeInfo} {cs : List V} (ho : o.op = .load T x) (hT : P.underlying T = some d) (hagg : aggT P T = true) (hi : P.info? T = some i)
    (hx : compX x = some x') (hs : Slots M w n s a) (hg : Good B I0 w0 M m w) (h : (x'.ev s).at m = some cs) (hn : i.size ≤ cs.length) : Sound P o a w M B I0 w0 (.agg (cs.take i.size)) m := by
  obtain ⟨ad, us, h1, h2, h3, h4⟩ := at_cells hg (comp_ev hx hs) h
  have hl : (us.take i.size).length = i.size := by rw [List.length_take, h3.length]; omega
  have hlc : (loadCells ad i.size).run P w = .ok (us.take i.size).toArray w := by
    have := run_loadCells_list (P := P) w ad (us.take i.size) (fun j u hj => h4 j u (by rw [List.getElem?_take] at hj; split at hj; exact hj; cases hj))
    rwa [hl] at this
  refine sound_same hg (x := .agg (us.take i.size).toArray) ?_ ⟨_, rfl, ?_⟩
  · unfold execOp
    rw [ho]
    simp [Instr.loadAt, h1, Instr.sureAddr, loadVar, run_isAgg hT, hagg, run_sizeOf hi, hlc]
  · refine RepL.of_get (by simp [h3.length]) (fun k v y hv hy => ?_)
    rw [List.getElem?_take] at hv hy
    split at hv
    · obtain ⟨z, hz, hrz⟩ := h3.get hv
      rw [if_pos ‹_›, hz] at hy
      obtain rfl := Option.some.inj hy
      exact hrz
    · cases hv

theorem sound_st {T : TypeId} {x y : Operand} {x' y' : X} {i : TypeInfo} {b q : Nat} {cs : List V} (ho : o.op = .store T x y) (hi : P.info? T = some i)
    (hx : compX x = some x') (hy : compX y = some y') (hs : Slots M w n s a) (hg : Good B I0 w0 M m w) (h : x'.ev s = .ptr b q) (hb : m.boxes[b]? = some cs) (hno : isObj cs = false)
    (hn : (y'.ev s).cells.length = i.size) (hq : q + i.size ≤ cs.length) (h1 : (y'.ev s).cells.all V.one = true) :
    Sound P o a w M B I0 w0 (.tuple []) { m with boxes := m.boxes.set b (cs.take q ++ (y'.ev s).cells ++ cs.drop (q + i.size)) } := by
  have k1 := comp_ev hx hs
  rw [h] at k1
  obtain ⟨g, k1, k2⟩ := k1
  have k3 := comp_ev hy hs
  have k4 := rep_cells k3 (one_tuple h1)
  have k5 := all_one k4 h1
  obtain ⟨_, ob, hh, hbr⟩ := hg.box b g cs k2 hb
  have hκ := hbr.κ hno
  obtain ⟨vs, Tb, rfl, hle, hl, ho1⟩ := hbr.cells hno
  have hsz : (a.eval y).cells.size = i.size := by have := k4.length; simpa [hn] using this
  have hnd : m.boxes[b]? ≠ some deadC := fun e => by rw [hb] at e; cases e; cases hno
  have hrun := run_storeCells_at P g q Tb (a.eval y).cells.toList 0 vs w hh (by simp [hsz]; omega) k5
  simp only [Nat.add_zero, Array.length_toList] at hrun
  rw [hsz] at hrun
  have hblt : b < m.boxes.length := (List.getElem?_eq_some_iff.1 hb).1
  have tk : ∀ {l : List V} {us : List Value} (k : Nat), RepL M w l us → RepL M w (l.take k) (us.take k) := fun {l us} k hr => RepL.of_get (by simp [hr.length]) (fun j v z hv hz => by
    rw [List.getElem?_take] at hv hz
    split at hv
    · obtain ⟨z', hz', hrz⟩ := hr.get hv
      rw [if_pos ‹_›, hz'] at hz
      obtain rfl := Option.some.inj hz
      exact hrz
    · cases hv)
  have dr : ∀ {l : List V} {us : List Value} (k : Nat), RepL M w l us → RepL M w (l.drop k) (us.drop k) := fun {l us} k hr => RepL.of_get (by simp [hr.length]) (fun j v z hv hz => by
    rw [List.getElem?_drop] at hv hz
    obtain ⟨z', hz', hrz⟩ := hr.get hv
    rw [hz'] at hz
    obtain rfl := Option.some.inj hz
    exact hrz)
  have hcl : (cs.take q ++ (y'.ev s).cells ++ cs.drop (q + i.size)).length = cs.length := by simp [hn]; omega
  have hpre : (vs.toList.take q ++ (a.eval y).cells.toList ++ vs.toList.drop (q + i.size)).take cs.length = (vs.toList.take cs.length).take q ++ (a.eval y).cells.toList ++ (vs.toList.take cs.length).drop (q + i.size) := by
    exact take_mid vs.toList _ q i.size cs.length (by simpa using hsz) hq (by simpa using hle)
  have hR : RepL M w (cs.take q ++ (y'.ev s).cells ++ cs.drop (q + i.size)) ((vs.toList.take q ++ (a.eval y).cells.toList ++ vs.toList.drop (q + i.size)).toArray.toList.take (cs.take q ++ (y'.ev s).cells ++ cs.drop (q + i.size)).length) := by
    rw [hcl]
    show RepL M w _ ((vs.toList.take q ++ (a.eval y).cells.toList ++ vs.toList.drop (q + i.size)).take cs.length)
    rw [hpre]
    exact ((tk q hl).append k4).append (dr (q + i.size) hl)
  have hO : ∀ x ∈ (vs.toList.take q ++ (a.eval y).cells.toList ++ vs.toList.drop (q + i.size)).toArray.toList.take (cs.take q ++ (y'.ev s).cells ++ cs.drop (q + i.size)).length, x.oneCell' = true := by
    intro x hx
    rw [hcl] at hx
    replace hx : x ∈ (vs.toList.take q ++ (a.eval y).cells.toList ++ vs.toList.drop (q + i.size)).take cs.length := hx
    rw [hpre] at hx
    simp only [List.mem_append, List.append_assoc] at hx
    rcases hx with hx | hx | hx
    · exact ho1 x (List.mem_of_mem_take hx)
    · exact k5 x hx
    · exact ho1 x (List.mem_of_mem_drop hx)
  obtain ⟨hg', hE⟩ := hg.setBox k2 hblt hh hnd hκ (by
    obtain ⟨vs1, T1, hh1, hz1⟩ := hg.ζb b g cs k2 hb hno
    rw [hh] at hh1
    cases hh1
    have hs2 : (a.eval y).cells.toList.length = i.size := by simpa using hsz
    simp only [List.size_toArray, List.length_append, List.length_take, List.length_drop, hs2, Array.length_toList]
    omega) (by rw [hcl]; simp; omega) hR hO
  refine ⟨undef, _, M, .inr ⟨rfl, ?_⟩, hE, hg', ⟨#[], rfl, rfl⟩⟩
  unfold execOp
  rw [ho]
  simp [Instr.storeAt, k1, Instr.sureAddr, storeVar, run_sizeOf hi, hsz, hrun]

/-- What a slice's value is. -/
theorem elems_rep {v : V} {x : Value} {sz : Nat} {xs : List (List V)} (h : Rep M w v x) (he : v.elems = some (sz, xs)) :
    (xs = [] ∧ x = .slice none 0 0) ∨ ∃ ad c, x = .slice (some ad) xs.length c ∧ xs.length ≤ c ∧ (xs = [] ∨ ad.spot = none) ∧ (∀ e ∈ xs, e.length = sz) ∧ RepX M w xs ad.block ad.off := by
  cases v with
  | lit sz' xs' => simp only [V.elems, Option.some.injEq, Prod.mk.injEq] at he; obtain ⟨rfl, rfl⟩ := he; exact h
  | full sz' xs' => simp only [V.elems, Option.some.injEq, Prod.mk.injEq] at he; obtain ⟨rfl, rfl⟩ := he; exact h.imp id fun ⟨ad, h1, h2, h3, h4⟩ => ⟨ad, _, h1, Nat.le_refl _, h2, h3, h4⟩
  | row t sz' xs' => simp only [V.elems, Option.some.injEq, Prod.mk.injEq] at he; obtain ⟨rfl, rfl⟩ := he; obtain ⟨G, _, h⟩ := h; exact h.imp id fun ⟨g, c, h0, h1, h2, h3, _⟩ => ⟨⟨g, 0, none⟩, c, h0, h1, .inr rfl, h2, h3⟩
  | emp sz' => simp only [V.elems, Option.some.injEq, Prod.mk.injEq] at he; obtain ⟨rfl, rfl⟩ := he; obtain ⟨ad, c, rfl⟩ := h; exact .inr ⟨ad, c, rfl, Nat.zero_le _, .inl rfl, by simp, trivial⟩
  | _ => simp [V.elems] at he

theorem sound_ixs {T e : TypeId} {x y : Operand} {x' y' : X} {i : TypeInfo} {k : IntKind} {q : Int} {xs : List (List V)} {cs : List V} (ho : o.op = .indexAddr T x y) (hT : P.underlying T = some (.slice e)) (hi : P.info? e = some i)
    (hx : compX x = some x') (hy : compX y = some y') (hs : Slots M w n s a) (hg : Good B I0 w0 M m w) (h : (x'.ev s).elems = some (i.size, xs)) (hq : y'.ev s = .val (.int k q)) (h0 : 0 ≤ q) (hc : xs[q.toNat]? = some cs) :
    Sound P o a w M B I0 w0 (.eptr cs) m := by
  obtain ⟨ad, c, k1, k2, k3, k4, k5⟩ := (elems_rep (comp_ev hx hs) h).resolve_left (fun e => by rw [e.1] at hc; simp at hc)
  have k6 := comp_ev hy hs
  rw [hq] at k6
  obtain ⟨k6, _⟩ := k6
  have hlt : q.toNat < xs.length := (List.getElem?_eq_some_iff.1 hc).1
  have hsp : ad.spot = none := k3.resolve_left (fun e => by subst e; simp at hlt)
  have hq2 : q < xs.length := by omega
  refine sound_same hg (x := .pointer (some (ad.add (q.toNat * i.size)))) ?_ ⟨_, rfl, ?_, ?_⟩
  · unfold execOp
    rw [ho]
    simp [Instr.indexAt, k1, k6, run_underlying hT, asIntOf, h0, hq2, run_sizeOf hi]
  · rw [add_none hsp]
  · rw [add_none hsp]; exact k5.elem k4 hc

theorem sound_ixa {T e : TypeId} {len : Nat} {x y : Operand} {x' y' : X} {i : TypeInfo} {k : IntKind} {q : Int} {b off : Nat} (ho : o.op = .indexAddr T x y) (hT : P.underlying T = some (.array len e)) (hi : P.info? e = some i)
    (hx : compX x = some x') (hy : compX y = some y') (hs : Slots M w n s a) (hg : Good B I0 w0 M m w) (h : x'.ev s = .ptr b off) (hq : y'.ev s = .val (.int k q)) (h0 : 0 ≤ q) (h1 : q < len) :
    Sound P o a w M B I0 w0 (.ptr b (off + q.toNat * i.size)) m := by
  have k1 := comp_ev hx hs
  rw [h] at k1
  obtain ⟨g, k1, k2⟩ := k1
  have k6 := comp_ev hy hs
  rw [hq] at k6
  obtain ⟨k6, _⟩ := k6
  refine sound_same hg (x := .pointer (some ⟨g, off + q.toNat * i.size, none⟩)) ?_ ⟨g, rfl, k2⟩
  unfold execOp
  rw [ho]
  simp [Instr.indexAt, k1, k6, run_underlying hT, asIntOf, Instr.sureAddr, h0, h1, run_sizeOf hi, Addr.add_mid]

theorem sound_fld1 {T f : TypeId} {x : Operand} {x' : X} {fs : Array Field} {fd : Field} {d : TypeDesc} {l : List V} {r : V} (ho : o.op = .field T x f) (hT : P.underlying T = some (.struct fs)) (hf : fs[f]? = some fd) (hd : P.underlying fd.type = some d) (hagg : aggT P fd.type = false)
    (hx : compX x = some x') (hs : Slots M w n s a) (hg : Good B I0 w0 M m w) (h : x'.ev s = .agg l) (h0 : l[fd.offset]? = some r) : Sound P o a w M B I0 w0 r m := by
  have k1 := comp_ev hx hs
  rw [h] at k1
  obtain ⟨vs, k1, k2⟩ := k1
  obtain ⟨y, hy, hr⟩ := k2.get h0
  have hy' : vs[fd.offset]? = some y := by simpa using hy
  refine sound_same hg (x := y) ?_ hr
  unfold execOp
  rw [ho]
  simp [Instr.field, run_underlying hT, hf, k1, asAgg, part, run_isAgg hd, hagg, hy']
theorem sound_fldn {T f : TypeId} {x : Operand} {x' : X} {fs : Array Field} {fd : Field} {d : TypeDesc} {i : TypeInfo} {l : List V} (ho : o.op = .field T x f) (hT : P.underlying T = some (.struct fs)) (hf : fs[f]? = some fd) (hd : P.underlying fd.type = some d) (hagg : aggT P fd.type = true) (hi : P.info? fd.type = some i)
    (hx : compX x = some x') (hs : Slots M w n s a) (hg : Good B I0 w0 M m w) (h : x'.ev s = .agg l) (h0 : fd.offset + i.size ≤ l.length) : Sound P o a w M B I0 w0 (.agg ((l.drop fd.offset).take i.size)) m := by
  have k1 := comp_ev hx hs
  rw [h] at k1
  obtain ⟨vs, k1, k2⟩ := k1
  refine sound_same hg (x := .agg (vs.extract fd.offset (fd.offset + i.size))) ?_ ⟨_, rfl, ?_⟩
  · unfold execOp
    rw [ho]
    simp [Instr.field, run_underlying hT, hf, k1, asAgg, part, run_isAgg hd, hagg, run_sizeOf hi]
  · have hl := k2.length
    refine RepL.of_get ?_ (fun k v y hv hy => ?_)
    · simp at hl ⊢; omega
    · rw [List.getElem?_take] at hv
      split at hv
      · rw [List.getElem?_drop] at hv
        obtain ⟨z, hz, hrz⟩ := k2.get hv
        have : y = z := by
          have h1 : (vs.extract fd.offset (fd.offset + i.size))[k]? = some y := by rw [← Array.getElem?_toList]; exact hy
          have h2 : vs[fd.offset + k]? = some z := by simpa using hz
          rw [Array.getElem?_extract] at h1
          split at h1
          · rw [h2] at h1; exact (Option.some.inj h1).symm
          · cases h1
        subst this
        exact hrz
      · cases hv

theorem sound_mm {mx : Bool} {tys : Array TypeId} {x y : Operand} {x' y' : X} {k k' : IntKind} {p q : Int} (ho : o.op = .call { callee := .builtin (if mx = true then .max else .min), args := #[x, y], argTypes := tys })
    (hx : compX x = some x') (hy : compX y = some y') (hs : Slots M w n s a) (hg : Good B I0 w0 M m w) (h1 : x'.ev s = .val (.int k p)) (h2 : y'.ev s = .val (.int k' q)) :
    Sound P o a w M B I0 w0 (.val (.int k (if mx = true then (if q > p then q else p) else (if q < p then q else p)))) m := by
  have k1 := comp_ev hx hs
  rw [h1] at k1
  obtain ⟨k1, _⟩ := k1
  have k2 := comp_ev hy hs
  rw [h2] at k2
  obtain ⟨k2, _⟩ := k2
  refine sound_same hg (x := .int k (if mx = true then (if q > p then q else p) else (if q < p then q else p))) ?_ ⟨rfl, rfl⟩
  unfold execOp
  rw [ho]
  cases mx
  · simp [resolve, invoke, builtin, k1, k2, Builtin.min_, Builtin.min2]
  · simp [resolve, invoke, builtin, k1, k2, Builtin.max_, Builtin.max2]
end
end Go.Av

namespace Go.Av
open Go.RowKit

theorem RepL.take {M : Mp} {w : World} {l : List V} {us : List Value} (hr : RepL M w l us) (k : Nat) : RepL M w (l.take k) (us.take k) := RepL.of_get (by simp [hr.length]) (fun j v z hv hz => by
  rw [List.getElem?_take] at hv hz
  split at hv
  · obtain ⟨z', hz', hrz⟩ := hr.get hv
    rw [if_pos ‹_›, hz'] at hz
    obtain rfl := Option.some.inj hz
    exact hrz
  · cases hv)
theorem RepL.drop {M : Mp} {w : World} {l : List V} {us : List Value} (hr : RepL M w l us) (k : Nat) : RepL M w (l.drop k) (us.drop k) := RepL.of_get (by simp [hr.length]) (fun j v z hv hz => by
  rw [List.getElem?_drop] at hv hz
  obtain ⟨z', hz', hrz⟩ := hr.get hv
  rw [hz'] at hz
  obtain rfl := Option.some.inj hz
  exact hrz)
theorem RepL.plain {M : Mp} {w : World} : ∀ {l : List Value}, l.all plain = true → RepL M w (l.map V.val) l
  | [], _ => rfl
  | v :: l, h => by
    simp only [List.all_cons, Bool.and_eq_true] at h
    exact ⟨v, l, rfl, ⟨rfl, h.1⟩, RepL.plain h.2⟩
/-- For each cell of a type: the size of a slice's elements. -/
def cellTs (P : Program) : Nat → TypeId → List (Option Nat)
  | 0, _ => []
  | n + 1, T => match P.underlying T with
    | some (.slice e) => match P.info? e with
      | some i => [some i.size]
      | none => [none]
    | some (.struct fs) => fs.toList.flatMap fun f => cellTs P n f.type
    | some (.array k e) => (List.replicate k (cellTs P n e)).flatten
    | _ => [none]
/-- Cells of a type's zero: a slice that is none is one of nothing. -/
def mkZ : List Value → List (Option Nat) → List V
  | [], _ => []
  | v :: l, [] => .val v :: mkZ l []
  | v :: l, t :: ts => (match v, t with
    | .slice none 0 0, some sz => .lit sz []
    | v, _ => .val v) :: mkZ l ts
theorem mkZ_length : ∀ (l : List Value) (ts : List (Option Nat)), (mkZ l ts).length = l.length
  | [], _ => rfl
  | v :: l, [] => by simp [mkZ, mkZ_length l []]
  | v :: l, t :: ts => by simp [mkZ, mkZ_length l ts]
theorem RepL.mkZ {M : Mp} {w : World} : ∀ {l : List Value} (ts : List (Option Nat)), l.all Av.plain = true → RepL M w (Av.mkZ l ts) l
  | [], _, _ => rfl
  | v :: l, [], h => by
    simp only [List.all_cons, Bool.and_eq_true] at h
    exact ⟨v, l, rfl, ⟨rfl, h.1⟩, RepL.mkZ [] h.2⟩
  | v :: l, t :: ts, h => by
    simp only [List.all_cons, Bool.and_eq_true] at h
    refine ⟨v, l, rfl, ?_, RepL.mkZ ts h.2⟩
    split
    · exact .inl ⟨rfl, rfl⟩
    · exact ⟨rfl, h.1⟩
theorem RepX.sizes_flat {M : Mp} {w : World} {sz : Nat} : ∀ {xs : List (List V)} {us : List (List Value)}, us.length = xs.length → (∀ (i : Nat) (x : List V) (u : List Value), xs[i]? = some x → us[i]? = some u → RepL M w x u) → RepL M w xs.flatten us.flatten
  | [], [], _, _ => rfl
  | [], _ :: _, h, _ => by simp at h
  | _ :: _, [], h, _ => by simp at h
  | x :: xs, u :: us, h, hk => by
    rw [List.flatten_cons, List.flatten_cons]
    exact (hk 0 x u rfl rfl).append (RepX.sizes_flat (sz := sz) (by simpa using h) (fun i a b ha hb => hk (i + 1) a b (by simpa using ha) (by simpa using hb)))

section
variable {P : Program} {o : Oper} {a : Act} {w w' : World} {M : Mp} {m : Mem} {n : Nat} {s : Nat → V} {B : Nat} {I0 : Nat → Nat → Prop} {w0 : World}

/-- A block that is nobody's. -/
def Fresh (M : Mp) (g : Nat) : Prop := g ∉ M.β ∧ (∀ o, ¬ M.I g o) ∧ ∀ (t : Nat) (G : List (Nat × Nat × Nat)) (x : Nat × Nat × Nat), M.γ[t]? = some G → x ∈ G → x.2.1 ≠ g
theorem Good.fresh (h : Good B I0 w0 M m w) {g : Nat} (hg : w.heap.size ≤ g) : Fresh M g :=
  ⟨fun hm => by have := (h.βlt hm).1; omega, fun o hi => by have := h.ilt g o hi; omega, fun t G x h1 h2 e => by have := (h.gen t G x h1 h2).2.1; omega⟩

/-- A new slice, in a block that is nobody's. -/
theorem sound_new (own : Bool) (hg : Good B I0 w0 M m w) {g c e sz : Nat} {cur : Array Value} {xs : List (List V)} {us : List Value} (hf : Fresh M g) (hB : B ≤ g) (hh : w.heap[g]? = some (.cells cur e (0, 0)))
    (hn : xs.length ≤ c) (hc : c ≤ maxLen) (hs : cur.size = c * sz) (htk : cur.toList.take (xs.length * sz) = us) (hr : RepL M w xs.flatten us) (hsz : ∀ x ∈ xs, x.length = sz) (h1 : ∀ u ∈ us, u.oneCell' = true) :
    ∃ M', Ext M M' w w ∧ Good B I0 w0 M' (newV own m e sz xs).2 w ∧ Rep M' w (newV own m e sz xs).1 (.slice (some ⟨g, 0, none⟩) xs.length c) := by
  have hul : us.length = xs.length * sz := by rw [hr.length, flatten_length hsz]
  have cells : ∀ (j : Nat) (u : Value), us[j]? = some u → w.cell? ⟨g, 0 + j, none⟩ = some u := fun j u hj => by
    rw [Nat.zero_add, cell_of_row w g j cur e (0, 0) hh]
    rw [← htk, List.getElem?_take] at hj
    split at hj
    · simpa using hj
    · cases hj
  have hlt : g < w.heap.size := (Array.getElem?_eq_some_iff.1 hh).1
  cases own with
  | false =>
    have hgd := hg.plus (J := fun b o => b = g ∧ o < xs.length * sz) (fun b o hj => by
      obtain ⟨rfl, _⟩ := hj
      exact ⟨hB, hlt, hf.1, fun t G x h1 h2 => hf.2.2 t G x h1 h2⟩)
    have hE := Mp.plus_ext M (fun b o => b = g ∧ o < xs.length * sz) w
    refine ⟨_, hE, hgd, .inr ⟨⟨g, 0, none⟩, c, rfl, hn, .inr rfl, hsz, RepX.of_flat (RepC.of_list (RepL.mono hE _ _ hr) (fun j u hj => ⟨.inr ⟨rfl, ?_⟩, cells j u hj⟩) h1)⟩⟩
    have := (List.getElem?_eq_some_iff.1 hj).1
    show 0 + j < xs.length * sz
    omega
  | true =>
    have hgd := hg.addRow (g := g) (c := c) (n := xs.length) (sz := sz) (e := e) (xs := us) ⟨hul, .inr ⟨g, c, cur, rfl, hB, hh, hn, hc, hs, htk⟩⟩ hf.1 hf.2.1 hf.2.2
    have hE := Mp.addR_ext M [(xs.length, g, c)] (fun b o => b = g ∧ o < xs.length * sz) w
    refine ⟨_, hE, hgd, ⟨[(xs.length, g, c)], ?_, .inr ⟨g, c, rfl, hn, hsz, RepX.of_flat (RepC.of_list (RepL.mono hE _ _ hr) (fun j u hj => ⟨.inr ⟨rfl, ?_⟩, cells j u hj⟩) h1), by simp⟩⟩⟩
    · simp [Mp.addR, hg.lγ]
    · have := (List.getElem?_eq_some_iff.1 hj).1
      omega

theorem below_alloc_self (w : World) (ob : Obj) : Below w.heap.size w (w.alloc ob) := (Below.refl _ w).alloc (Nat.le_refl _) ob
theorem below_drew_alloc (w : World) (ob : Obj) : Below w.heap.size w (w.drew.alloc ob) := (Below.refl w.heap.size w).drew.alloc (Nat.le_refl _) ob

theorem sound_box {T : TypeId} {x : Operand} {x' : X} (ho : o.op = .box T x) (hx : compX x = some x') (hs : Slots M w n s a) (hg : Good B I0 w0 M m w) (h1 : (x'.ev s).cells.all V.one = true) :
    Sound P o a w M B I0 w0 (.ptr m.boxes.length 0) { m with boxes := m.boxes ++ [(x'.ev s).cells] } := by
  have k3 := comp_ev hx hs
  have k4 := rep_cells k3 (one_tuple h1)
  have k5 := all_one k4 h1
  have hb := below_alloc_self w (.cells (a.eval x).cells T)
  have hg1 := hg.grow hb
  have hf := hg.fresh (Nat.le_refl _)
  have hE1 := hg.ext hb
  have hg2 := hg1.addBox (g := w.heap.size) (cs := (x'.ev s).cells) (heap_alloc_new w (.cells (a.eval x).cells T)) hg.sizeB hf.1 hf.2.1 hf.2.2 (.full hg.κnone (RepL.mono hE1 _ _ k4) k5)
  refine ⟨.pointer (some ⟨w.heap.size, 0, none⟩), _, _, .inl ?_, hE1.trans (Mp.addB_ext M _ _), hg2, ⟨w.heap.size, rfl, ?_⟩⟩
  · unfold execOp
    rw [ho]
    simp [Instr.box, newVar, newRow]
  · simp [Mp.addB, Mp.addZ, hg.lβ]

theorem sound_alc {T : TypeId} {i : TypeInfo} {z : Value} (ts : List (Option Nat)) (ho : o.op = .alloc T) (hi : P.info? T = some i) (hz : i.zero = some z) (hp : z.cells.toList.all plain = true) (hg : Good B I0 w0 M m w) :
    Sound P o a w M B I0 w0 (.ptr m.boxes.length 0) { m with boxes := m.boxes ++ [mkZ z.cells.toList ts] } := by
  have hb := below_alloc_self w (.cells z.cells T)
  have hg1 := hg.grow hb
  have hf := hg.fresh (Nat.le_refl _)
  have hE1 := hg.ext hb
  have hg2 := hg1.addBox (g := w.heap.size) (cs := mkZ z.cells.toList ts) (heap_alloc_new w (.cells z.cells T)) hg.sizeB hf.1 hf.2.1 hf.2.2 (.full hg.κnone (RepL.mkZ ts hp) fun x hx => plain_one (List.all_eq_true.1 hp x hx))
  refine ⟨.pointer (some ⟨w.heap.size, 0, none⟩), _, _, .inl ?_, hE1.trans (Mp.addB_ext M _ _), hg2, ⟨w.heap.size, rfl, ?_⟩⟩
  · unfold execOp
    rw [ho]
    simp [Instr.alloc, zeroValue, typeInfo, hi, hz, newVar, newRow]
  · simp [Mp.addB, Mp.addZ, hg.lβ]

theorem foldl_seg (off : Nat) (l : List Value) (cells : Array Value) (h : off + l.length ≤ cells.size) :
    ((l.zipIdx 0).foldl (fun cs (x : Value × Nat) => cs.setIfInBounds (off + x.2) x.1) cells).toList = cells.toList.take off ++ l ++ cells.toList.drop (off + l.length) := by
  obtain ⟨h1, h2⟩ := Great.foldl_set off l 0 cells
  apply List.ext_getElem?
  intro k
  rw [Array.getElem?_toList, h2 k]
  simp only [Nat.add_zero]
  by_cases hk : k < off
  · rw [if_neg (by omega), List.append_assoc, List.getElem?_append_left (by simp; omega), List.getElem?_take, if_pos hk]
    simp
  · by_cases hk2 : k < off + l.length
    · rw [if_pos (by omega), List.append_assoc, List.getElem?_append_right (by simp; omega), List.getElem?_append_left (by simp; omega)]
      simp [Nat.min_eq_left (show off ≤ cells.size by omega)]
    · rw [if_neg (by omega), List.append_assoc, List.getElem?_append_right (by simp; omega), List.getElem?_append_right (by simp; omega), List.getElem?_drop]
      simp only [List.length_take, Array.length_toList, Nat.min_eq_left (show off ≤ cells.size by omega)]
      rw [show off + l.length + (k - off - l.length) = k by omega]
      simp

def compParts (place : Nat → Option (Nat × Nat)) : List (Nat × Operand) → Option (List (Nat × Nat × X))
  | [] => some []
  | (i, x) :: r => match place i, compX x, compParts place r with
    | some (off, sz), some x', some r' => some ((off, sz, x') :: r')
    | _, _, _ => none
theorem fill_sound {place : Nat → Option (Nat × Nat)} (hs : Slots M w n s a) : ∀ {ps : List (Nat × Operand)} {ps' : List (Nat × Nat × X)} {cs r : List V} {cells : Array Value},
    compParts place ps = some ps' → RepL M w cs cells.toList → fillV cs s ps' = some r → (∀ p ∈ ps', noT (p.2.2.ev s)) → ∃ out, Instr.fill place cells (ps.map fun p => (p.1, a.eval p.2)) = some out ∧ RepL M w r out.toList
  | [], ps', cs, r, cells, hc, hr, hf, _ => by
    simp only [compParts, Option.some.injEq] at hc
    subst hc
    simp only [fillV, Option.some.injEq] at hf
    subst hf
    exact ⟨cells, rfl, hr⟩
  | (i, x) :: ps, ps', cs, r, cells, hc, hr, hf, ht => by
    simp only [compParts] at hc
    split at hc
    · rename_i off sz x' r' hp hx hr'
      simp only [Option.some.injEq] at hc
      subst hc
      simp only [fillV] at hf
      split at hf
      · rename_i hcond
        obtain ⟨hl, hle⟩ := hcond
        have k3 := comp_ev hx hs
        have k4 := rep_cells k3 (ht (off, sz, x') (by simp))
        have hsz : (a.eval x).cells.size = sz := by have := k4.length; simpa [hl] using this
        have hcl := hr.length
        have hle' : off + (a.eval x).cells.toList.length ≤ cells.size := by simp [hsz] at hcl ⊢; omega
        have hseg := foldl_seg off (a.eval x).cells.toList cells hle'
        have hlen : (a.eval x).cells.toList.length = sz := by simpa using hsz
        rw [hlen] at hseg
        obtain ⟨out, h1, h2⟩ := fill_sound (cells := ((a.eval x).cells.toList.zipIdx 0).foldl (fun cs (x : Value × Nat) => cs.setIfInBounds (off + x.2) x.1) cells) hs hr' (by rw [hseg]; exact ((hr.take off).append k4).append (hr.drop (off + sz))) hf (fun p hp => ht p (by simp [hp]))
        refine ⟨out, ?_, h2⟩
        simp only [List.map_cons]
        unfold Instr.fill
        simp only [hp]
        have hcl' : cells.size = cs.length := by simpa using hcl
        rw [if_neg (by simp [hsz]; omega)]
        rw [← h1]
        congr 1
        rw [← Array.foldl_toList, Array.toList_zipIdx]
      · cases hf
    · cases hc

theorem mapM_parts (l : List (Nat × Operand)) (a : Act) : (l.toArray.map fun (i, x) => (i, a.eval x)).toList = l.map fun p => (p.1, a.eval p.2) := by simp

def placeOf (P : Program) (t : TypeId) : Option (List Value × (Nat → Option (Nat × Nat))) :=
  match P.info? t, P.underlying t with
  | some it, some (.array _ e) =>
    match it.zero, P.info? e with
    | some z, some ie => some (z.cells.toList, fun i => some (i * ie.size, ie.size))
    | _, _ => none
  | some it, some (.struct fields) =>
    match it.zero, fields.toList.mapM (fun f => (P.info? f.type).map fun i => (f.offset, i.size)) with
    | some z, some places => some (z.cells.toList, (places.toArray[·]?))
    | _, _ => none
  | _, _ => none
theorem placeOf_built {t : TypeId} {z : List Value} {pl : Nat → Option (Nat × Nat)} (h : placeOf P t = some (z, pl)) (parts : List (Nat × Value)) : P.built t parts = Instr.fill pl z.toArray parts := by
  unfold placeOf at h
  unfold Program.built
  split at h
  · split at h
    · simp only [Option.some.injEq, Prod.mk.injEq] at h
      obtain ⟨rfl, rfl⟩ := h
      simp [*]
    · cases h
  · split at h
    · simp only [Option.some.injEq, Prod.mk.injEq] at h
      obtain ⟨rfl, rfl⟩ := h
      simp [*]
    · cases h
  · cases h

theorem sound_bld {T : TypeId} {parts : Array (Nat × Operand)} {z : List Value} {pl : Nat → Option (Nat × Nat)} {ps : List (Nat × Nat × X)} {r : List V} (ts : List (Option Nat)) (ho : o.op = .build T parts) (hT : placeOf P T = some (z, pl)) (hz : z.all plain = true) (hc : compParts pl parts.toList = some ps)
    (hs : Slots M w n s a) (hg : Good B I0 w0 M m w) (h : fillV (mkZ z ts) s ps = some r) (ht : ∀ p ∈ ps, noT (p.2.2.ev s)) : Sound P o a w M B I0 w0 (.agg r) m := by
  obtain ⟨out, h1, h2⟩ := fill_sound (cells := z.toArray) hs hc (RepL.mkZ ts hz) h ht
  refine sound_same hg (x := .agg out) ?_ ⟨out, rfl, h2⟩
  unfold execOp
  rw [ho]
  have : (Instr.build T (parts.map fun (i, x) => (i, a.eval x))).run P w = .ok (.agg out) w := by
    refine run_build w T _ out ?_
    rw [placeOf_built hT]
    rw [← h1]
    congr 1
    simp
  simp [this]

theorem sound_mkf {f : FuncId} {caps : Array Operand} {caps' : List X} (ho : o.op = .makeFunc (.func f) #[] caps) (hc : compXs caps.toList = some caps') (hs : Slots M w n s a) (hg : Good B I0 w0 M m w) :
    Sound P o a w M B I0 w0 (.func f (caps'.map (·.ev s))) m := by
  have key : ∀ {l : List Operand} {l' : List X}, compXs l = some l' → RepL M w (l'.map (·.ev s)) (l.map a.eval) := by
    intro l
    induction l with
    | nil => intro l' h; simp [compXs] at h; subst h; rfl
    | cons x l ih =>
      intro l' h
      simp only [compXs, List.mapM_cons, Option.bind_eq_bind, Option.pure_def, Option.bind_eq_some_iff] at h
      obtain ⟨y, hy, r, hr, h⟩ := h
      simp only [Option.some.injEq] at h
      subst h
      exact ⟨_, _, rfl, comp_ev hy hs, ih hr⟩
  refine sound_same hg (x := .func (.func f) #[] (caps.map a.eval)) ?_ ⟨_, rfl, ?_⟩
  · unfold execOp
    rw [ho]
    simp [Instr.makeFunc]
  · have := key hc
    simpa using this

/-- A slice that is none, as one of nothing, or as a row. -/
theorem sound_nil (own : Bool) {e sz : Nat} (ho : o.op = .move (.const (.slice none 0 0)) ∨ o.op = .assign (.const (.slice none 0 0))) (hg : Good B I0 w0 M m w) :
    Sound P o a w M B I0 w0 (newV own m e sz []).1 (newV own m e sz []).2 := by
  have hrun : (execOp a.eval o).run P w = .ok (.value (.slice none 0 0)) w := by
    rcases ho with ho | ho <;> (unfold execOp; rw [ho]; rfl)
  cases own with
  | false => exact ⟨_, w, M, .inl hrun, Ext.refl M w, hg, .inl ⟨rfl, rfl⟩⟩
  | true => exact ⟨_, w, M.addN, .inl hrun, Mp.addN_ext M w, hg.addNil e sz, [], by simp [Mp.addN, hg.lγ], .inl ⟨rfl, rfl⟩⟩
theorem sound_alr {T : TypeId} {i : TypeInfo} {z : Value} {e sz : Nat} (ho : o.op = .alloc T) (hi : P.info? T = some i) (hz : i.zero = some z) (hp : z.cells.toList = [.slice none 0 0]) (hg : Good B I0 w0 M m w) :
    Sound P o a w M B I0 w0 (.ptr m.boxes.length 0) { m with boxes := m.boxes ++ [[.row m.tips.length sz []]], tips := m.tips ++ [(e, sz, 0)] } := by
  have hb := below_alloc_self w (.cells z.cells T)
  have hE0 := Mp.addN_ext M w
  have hg0 := hg.addNil e sz
  have hg1 := hg0.grow hb
  have hf := hg.fresh (Nat.le_refl _)
  have hE1 := hg0.ext hb
  have hγ : ∀ (t : Nat) (G : List (Nat × Nat × Nat)) (x : Nat × Nat × Nat), M.addN.γ[t]? = some G → x ∈ G → x.2.1 ≠ w.heap.size := fun t G x h1 h2 e => by
    have := (hg0.gen t G x h1 h2).2.1; omega
  have hg2 := hg1.addBox (g := w.heap.size) (cs := [.row m.tips.length sz []]) (heap_alloc_new w (.cells z.cells T)) hg.sizeB hf.1 hf.2.1 hγ (.full hg.κnone (by rw [hp]; exact ⟨_, [], rfl, ⟨[], by simp [Mp.addN, hg.lγ], .inl ⟨rfl, rfl⟩⟩, rfl⟩) fun x hx => by rw [hp] at hx; simp at hx; subst hx; rfl)
  refine ⟨.pointer (some ⟨w.heap.size, 0, none⟩), _, _, .inl ?_, (hE0.trans hE1).trans (Mp.addB_ext _ _ _), hg2, ⟨w.heap.size, rfl, ?_⟩⟩
  · unfold execOp
    rw [ho]
    simp [Instr.alloc, zeroValue, typeInfo, hi, hz, newVar, newRow]
  · have h1 : M.addN.β.length = m.boxes.length := hg0.lβ
    simp only [Mp.addB, Mp.addZ]
    rw [List.getElem?_append_right (by omega)]
    simp [h1]
end
end Go.Av

namespace Go.Av
open Go.RowKit

section
variable {P : Program} {o : Oper} {a : Act} {w w' : World} {M : Mp} {m : Mem} {n : Nat} {s : Nat → V} {B : Nat} {I0 : Nat → Nat → Prop} {w0 : World}

theorem list_parts {α : Type} : ∀ {l : List (Nat × α)} {k : Nat}, l.map (·.1) = (List.range' k l.length) → l = ((l.map (·.2)).zipIdx k).map fun x => (x.2, x.1)
  | [], _, _ => rfl
  | (i, x) :: l, k, h => by
    simp only [List.map_cons, List.length_cons, List.range'_succ, List.cons.injEq] at h
    obtain ⟨rfl, h⟩ := h
    simp only [List.map_cons, List.zipIdx_cons]
    rw [← list_parts h]
theorem compXs_map {l : List Operand} {l' : List X} (h : compXs l = some l') (hs : Slots M w n s a) : l'.length = l.length ∧ ∀ (i : Nat) (y : X), l'[i]? = some y → ∃ x, l[i]? = some x ∧ Rep M w (y.ev s) (a.eval x) := by
  induction l generalizing l' with
  | nil => simp [compXs] at h; subst h; simp
  | cons x l ih =>
    simp only [compXs, List.mapM_cons, Option.bind_eq_bind, Option.pure_def, Option.bind_eq_some_iff] at h
    obtain ⟨y, hy, r, hr, h⟩ := h
    simp only [Option.some.injEq] at h
    subst h
    obtain ⟨i1, i2⟩ := ih hr
    refine ⟨by simp [i1], fun i z hz => ?_⟩
    cases i with
    | zero => simp at hz; subst hz; exact ⟨x, rfl, comp_ev hy hs⟩
    | succ i => simpa using i2 i z (by simpa using hz)
theorem flatMap_toList (vs : List Value) : (vs.flatMap fun v => v.cells.toList) = (vs.map fun v => v.cells.toList).flatten := by
  induction vs with
  | nil => rfl
  | cons v vs ih => simp [List.flatMap_cons, ih]

/-- A literal's cells. -/
theorem lit_cells {sz : Nat} {ops : List Operand} {xs : List X} (hc : compXs ops = some xs) (hs : Slots M w n s a) (hall : (xs.map fun x => (x.ev s).cells).all (fun c => c.length == sz && c.all V.one) = true) :
    (∀ v ∈ ops.map a.eval, v.cells.size = sz) ∧ RepL M w (xs.map fun x => (x.ev s).cells).flatten ((ops.map a.eval).map fun v => v.cells.toList).flatten ∧ (∀ u ∈ ((ops.map a.eval).map fun v => v.cells.toList).flatten, u.oneCell' = true) ∧
    (∀ c ∈ (xs.map fun x => (x.ev s).cells), c.length = sz) ∧ xs.length = ops.length := by
  obtain ⟨hl, hk⟩ := compXs_map hc hs
  have hcell : ∀ (i : Nat) (y : X) (x : Operand), xs[i]? = some y → ops[i]? = some x → RepL M w (y.ev s).cells (a.eval x).cells.toList ∧ (y.ev s).cells.length = sz ∧ ∀ u ∈ (a.eval x).cells.toList, u.oneCell' = true := by
    intro i y x hy hx
    obtain ⟨x', hx', hr⟩ := hk i y hy
    rw [hx] at hx'
    obtain rfl := Option.some.inj hx'
    have hm : (y.ev s).cells ∈ xs.map fun x => (x.ev s).cells := List.mem_map.2 ⟨y, List.mem_of_getElem? hy, rfl⟩
    have h1 := List.all_eq_true.1 hall _ hm
    simp only [Bool.and_eq_true, beq_iff_eq] at h1
    have k4 := rep_cells hr (one_tuple h1.2)
    exact ⟨k4, h1.1, all_one k4 h1.2⟩
  have hops : ∀ x ∈ ops, ∃ y, (a.eval x).cells.size = sz ∧ (∀ u ∈ (a.eval x).cells.toList, u.oneCell' = true) ∧ RepL M w y (a.eval x).cells.toList := by
    intro x hx
    obtain ⟨i, hi, he⟩ := List.getElem_of_mem hx
    have hx2 : ops[i]? = some x := by rw [List.getElem?_eq_getElem hi, he]
    have hy2 : xs[i]? = some (xs[i]'(by rw [hl]; exact hi)) := List.getElem?_eq_getElem _
    obtain ⟨c1, c2, c3⟩ := hcell i _ x hy2 hx2
    exact ⟨_, by have := c1.length; rw [c2] at this; simpa using this, c3, c1⟩
  refine ⟨?_, ?_, ?_, ?_, hl⟩
  · intro v hv
    obtain ⟨x, hx, rfl⟩ := List.mem_map.1 hv
    exact (hops x hx).choose_spec.1
  · refine RepX.sizes_flat (sz := sz) (by simp [hl]) (fun i x u hx hu => ?_)
    simp only [List.getElem?_map, Option.map_eq_some_iff] at hx hu
    obtain ⟨y, hy, rfl⟩ := hx
    obtain ⟨v, ⟨x', hx', rfl⟩, rfl⟩ := hu
    exact (hcell i y x' hy hx').1
  · intro u hu
    simp only [List.mem_flatten, List.mem_map] at hu
    obtain ⟨l, ⟨v, ⟨x, hx, rfl⟩, rfl⟩, hul⟩ := hu
    exact (hops x hx).choose_spec.2.1 u hul
  · intro c hcm
    have h1 := List.all_eq_true.1 hall _ hcm
    simp only [Bool.and_eq_true, beq_iff_eq] at h1
    exact h1.1

theorem sound_mkl (own : Bool) {T e : TypeId} {len : Nat} {parts : Array (Nat × Operand)} {xs : List X} {i : TypeInfo} {z : Value} (ho : o.op = .buildSlice T len parts) (hT : P.underlying T = some (.slice e)) (hi : P.info? e = some i) (hz : i.zero = some z)
    (h0 : 0 < i.size) (hlen : parts.toList.map (·.1) = List.range' 0 len) (hsm : len * i.size ≤ 2 ^ 24) (hc : compXs (parts.toList.map (·.2)) = some xs)
    (hs : Slots M w n s a) (hg : Good B I0 w0 M m w) (hall : (xs.map fun x => (x.ev s).cells).all (fun c => c.length == i.size && c.all V.one) = true) :
    Sound P o a w M B I0 w0 (newV own m e i.size (xs.map fun x => (x.ev s).cells)).1 (newV own m e i.size (xs.map fun x => (x.ev s).cells)).2 := by
  obtain ⟨l1, l2, l3, l4, l5⟩ := lit_cells hc hs hall
  have hpl : parts.toList.length = len := by have := congrArg List.length hlen; simpa using this
  have hxl : xs.length = len := by rw [l5]; simp at hpl ⊢; exact hpl
  have hvl : ((parts.toList.map (·.2)).map a.eval).length = len := by simp at hpl ⊢; exact hpl
  have hparts : (parts.map fun (i, x) => (i, a.eval x)).toList = (((parts.toList.map (·.2)).map a.eval).zipIdx 0).map fun x => (x.2, x.1) := by
    have h1 := list_parts (l := (parts.map fun (i, x) => (i, a.eval x)).toList) (k := 0) (by simp at hlen hpl ⊢; rw [hpl]; exact hlen)
    rw [h1]
    simp
    rfl
  have hrun : ∃ cells : Array Value, cells.toList = ((((parts.toList.map (·.2)).map a.eval).map fun v => v.cells.toList).flatten) ∧ (execOp a.eval o).run P w = .ok (.value (.slice (some ⟨w.heap.size, 0, none⟩) len len)) (w.alloc (.cells cells e)) := by
    by_cases hl0 : len = 0
    · subst hl0
      have hp0 : parts = #[] := by
        have : parts.toList = [] := List.eq_nil_of_length_eq_zero hpl
        exact Array.toList_eq_nil_iff.1 this
      subst hp0
      refine ⟨#[], rfl, ?_⟩
      unfold execOp
      rw [ho]
      simp [Instr.buildSlice, run_underlying hT, run_sizeOf hi, Instr.fill, newRow, Array.range_zero']
    · have hf := Great.fill_whole h0 ((parts.toList.map (·.2)).map a.eval) ((Array.range (len * i.size)).map (z.cells[· % z.cells.size]!)) l1 (by rw [hvl]; simp)
      rw [← hparts] at hf
      refine ⟨(((parts.toList.map (·.2)).map a.eval).flatMap fun v => v.cells.toList).toArray, by simp [flatMap_toList], ?_⟩
      have hr := run_buildSlice (P := P) w T e len (parts.map fun (i, x) => (i, a.eval x)) _ i z hT hi hz (by omega) (by
        have := Nat.mul_pos (show 0 < len by omega) h0; omega) hf
      unfold execOp
      rw [ho]
      simp only [Sem.run_bind, hr, Result.andThen_ok]
      rfl
  obtain ⟨cells, hcells, hrun⟩ := hrun
  have hb := below_alloc_self w (.cells cells e)
  have hg1 := hg.grow hb
  have hE1 := hg.ext hb
  have hcl : cells.size = len * i.size := by
    have h1 := l2.length
    rw [flatten_length l4] at h1
    rw [← Array.length_toList, hcells, h1]
    simp [hxl]
  obtain ⟨M', hE, hG, hR⟩ := sound_new own hg1 (g := w.heap.size) (c := len) (e := e) (sz := i.size) (cur := cells) (xs := xs.map fun x => (x.ev s).cells) (us := ((((parts.toList.map (·.2)).map a.eval).map fun v => v.cells.toList).flatten))
    (hg.fresh (Nat.le_refl _)) hg.sizeB (heap_alloc_new w _) (by simp [hxl]) (by simp only [maxLen]; have := Nat.mul_le_mul_left len h0; omega) hcl
    (by rw [← hcells]; apply List.take_of_length_le; simp [hcl, hxl]) (RepL.mono hE1 _ _ l2) l4 l3
  refine ⟨_, _, M', .inl hrun, hE1.trans hE, hG, ?_⟩
  have : (xs.map fun x => (x.ev s).cells).length = len := by simp [hxl]
  rwa [this] at hR

theorem made_flat (z : Array Value) (sz : Nat) (hz : z.size = sz) (h0 : 0 < sz) : ∀ n : Nat, (madeCells z (n * sz)).toList = (List.replicate n z.toList).flatten
  | 0 => by simp [madeCells, Array.range_zero']
  | n + 1 => by
    have ih := made_flat z sz hz h0 n
    rw [List.replicate_succ, List.flatten_cons, ← ih]
    simp only [madeCells, Array.toList_map, Array.toList_range] at ih ⊢
    rw [show (n + 1) * sz = sz + n * sz by rw [Nat.add_mul]; omega, List.range_add, List.map_append, List.map_map]
    congr 1
    · apply List.ext_getElem
      · simp [hz]
      · intro k h1 h2
        simp at h1 h2
        simp [Nat.mod_eq_of_lt h1, hz]
        exact getElem!_pos z k (by omega)
    · apply List.map_congr_left
      intro k _
      simp [hz]

theorem sound_mks (own : Bool) (ts : List (Option Nat)) {T e : TypeId} {x y : Operand} {x' y' : X} {i : TypeInfo} {z : Value} {q : Int} (ho : o.op = .makeSlice T x y) (hT : P.underlying T = some (.slice e)) (hi : P.info? e = some i) (hz : i.zero = some z)
    (hzs : z.cells.size = i.size) (h0 : 0 < i.size) (hp : z.cells.toList.all plain = true) (hx : compX x = some x') (hy : compX y = some y') (hs : Slots M w n s a) (hg : Good B I0 w0 M m w)
    (h1 : x'.ev s = .val (.int .i64 q)) (h2 : y'.ev s = .val (.int .i64 q)) (hq : 0 ≤ q) (hb : q * i.bytes ≤ 140737488355328) (h63 : q ≤ 9223372036854775807) :
    Sound P o a w M B I0 w0 (newV own m e i.size (List.replicate q.toNat (mkZ z.cells.toList ts))).1 (newV own m e i.size (List.replicate q.toNat (mkZ z.cells.toList ts))).2 := by
  have k1 := comp_ev hx hs
  rw [h1] at k1
  obtain ⟨k1, _⟩ := k1
  have k2 := comp_ev hy hs
  rw [h2] at k2
  obtain ⟨k2, _⟩ := k2
  have hrun : (execOp a.eval o).run P w = .ok (.value (.slice (some ⟨w.heap.size, 0, none⟩) q.toNat q.toNat)) (w.alloc (.cells (madeCells z.cells (q.toNat * i.size)) e)) := by
    have := run_make (P := P) w T e i z hT hi hz .i64 .i64 q q hq (Int.le_refl _) (by rw [Int.mul_comm]; omega) h63
    unfold execOp
    rw [ho]
    simp [k1, k2, this]
  have hbw := below_alloc_self w (.cells (madeCells z.cells (q.toNat * i.size)) e)
  have hg1 := hg.grow hbw
  have hE1 := hg.ext hbw
  have hsz : ∀ x ∈ List.replicate q.toNat (mkZ z.cells.toList ts), x.length = i.size := fun x hx => by
    rw [(List.mem_replicate.1 hx).2]; simp [hzs, mkZ_length]
  obtain ⟨M', hE, hG, hR⟩ := sound_new own hg1 (g := w.heap.size) (c := q.toNat) (e := e) (sz := i.size) (cur := madeCells z.cells (q.toNat * i.size)) (xs := List.replicate q.toNat (mkZ z.cells.toList ts)) (us := (List.replicate q.toNat z.cells.toList).flatten)
    (hg.fresh (Nat.le_refl _)) hg.sizeB (heap_alloc_new w _) (by simp) (by simp only [maxLen]; omega) (size_madeCells _ _)
    (by rw [made_flat z.cells i.size hzs h0]; apply List.take_of_length_le; rw [flatten_length (sz := i.size) (fun x hx => by rw [(List.mem_replicate.1 hx).2]; simp [hzs])]; simp)
    (RepX.sizes_flat (sz := i.size) (by simp) (fun j u v hu hv => by
      rw [List.getElem?_replicate] at hu hv
      split at hu
      · rw [if_pos ‹_›] at hv
        cases hu; cases hv
        exact RepL.mkZ ts hp
      · cases hu)) hsz
    (fun u hu => by
      simp only [List.mem_flatten] at hu
      obtain ⟨l, hl, hul⟩ := hu
      rw [(List.mem_replicate.1 hl).2] at hul
      exact plain_one (List.all_eq_true.1 hp u hul))
  refine ⟨_, _, M', .inl hrun, hE1.trans hE, hG, ?_⟩
  simpa using hR

/-- A slice's elements, as they lie. -/
theorem src_list {y : V} {x : Value} {sz : Nat} {ys : List (List V)} (hr : Rep M w y x) (he : y.elems = some (sz, ys)) :
    ∃ base c us, x = .slice base ys.length c ∧ us.length = ys.length * sz ∧ RepL M w ys.flatten us ∧ (∀ ad, base = some ad → ∀ (j : Nat) (u : Value), us[j]? = some u → w.cell? (ad.add j) = some u) ∧ (∀ u ∈ us, u.oneCell' = true) ∧ (∀ e ∈ ys, e.length = sz) ∧ (base = none → ys = [] ∧ c = 0) := by
  rcases elems_rep hr he with ⟨rfl, rfl⟩ | ⟨ad, c, rfl, h1, h2, h3, h4⟩
  · exact ⟨none, 0, [], rfl, by simp, rfl, by simp, by simp, by simp, by simp⟩
  obtain ⟨us, k1, k2, k3⟩ := h4.flat.list
  have hl : us.length = ys.length * sz := by rw [k1.length, flatten_length h3]
  refine ⟨some ad, c, us, rfl, hl, k1, fun ad' had j u hj => ?_, k3, h3, by simp⟩
  cases had
  rcases h2 with rfl | h2
  · simp at hl; subst hl; simp at hj
  · rw [add_none h2]; exact (k2 j u hj).2
theorem src_ne {y : V} {x : Value} {sz : Nat} {ys : List (List V)} (hr : Rep M w y x) (he : y.elems = some (sz, ys)) (hne : ys ≠ []) :
    ∃ ad c us, x = .slice (some ad) ys.length c ∧ us.length = ys.length * sz ∧ RepL M w ys.flatten us ∧ (∀ (j : Nat) (u : Value), us[j]? = some u → w.cell? (ad.add j) = some u) ∧ (∀ u ∈ us, u.oneCell' = true) ∧ ∀ e ∈ ys, e.length = sz := by
  obtain ⟨base, c, us, h1, h2, h3, h4, h5, h6, h7⟩ := src_list hr he
  cases base with
  | none => exact absurd (h7 rfl).1 hne
  | some ad => exact ⟨ad, c, us, h1, h2, h3, h4 ad rfl, h5, h6⟩
end
end Go.Av

namespace Go.Av
open Go.RowKit

section
variable {P : Program} {o : Oper} {a : Act} {w w' : World} {M : Mp} {m : Mem} {n : Nat} {s : Nat → V} {B : Nat} {I0 : Nat → Nat → Prop} {w0 : World}

/-- Nothing is appended. -/
theorem run_append_none {t ty e : TypeId} {i : TypeInfo} (ht : P.underlying t = some (.slice e)) (hi : P.info? e = some i) (base : Option Addr) (n c : Nat) (hn : n ≤ c) (x : Value) (hx : x = .slice none 0 0 ∨ ∃ ad c', x = .slice (some ad) 0 c') :
    (Builtin.append_ #[t, t] ty #[.slice base n c, x]).run P w = .ok (.slice base n c) w := by
  rcases hx with rfl | ⟨ad, c', rfl⟩
  · cases base <;> simp [Builtin.append_, run_underlying ht, sizeOf, typeInfo, hi, Builtin.lenOf, Builtin.firstCells, hn, storeCells]
  · cases base <;> simp [Builtin.append_, run_underlying ht, sizeOf, typeInfo, hi, Builtin.lenOf, Builtin.firstCells, hn, storeCells, loadCells, loadCellsFrom]

theorem size_zeros (z : Array Value) (n : Nat) : (Builtin.zeroCells z n).size = n * z.size := by simp [Builtin.zeroCells]

/-- An append to a slice that has no room: a new block. -/
theorem grow_run {t ty e : TypeId} {i : TypeInfo} {z : Value} (ht : P.underlying t = some (.slice e)) (hi : P.info? e = some i) (hz : i.zero = some z) (hzs : z.cells.size = i.size) (hb0 : 0 < i.bytes)
    (hg : Good B I0 w0 M m w) {base : Option Addr} {xs ys : List (List V)} {us vs : List Value} {sc c : Nat} {ad : Addr} (hsx : ∀ x ∈ xs, x.length = i.size) (hsy : ∀ x ∈ ys, x.length = i.size)
    (hrx : RepL M w xs.flatten us) (hry : RepL M w ys.flatten vs) (hcx : ∀ b, base = some b → ∀ (j : Nat) (u : Value), us[j]? = some u → w.cell? (b.add j) = some u) (hcy : ∀ (j : Nat) (u : Value), vs[j]? = some u → w.cell? (ad.add j) = some u)
    (h1x : ∀ u ∈ us, u.oneCell' = true) (h1y : ∀ u ∈ vs, u.oneCell' = true) (hbase : base = none → xs = [] ∧ sc = 0) (hsc : sc < xs.length + ys.length) (hbytes : (xs.length + ys.length) * i.bytes ≤ 140737488355328) :
    ∃ cap, xs.length + ys.length ≤ cap ∧ cap ≤ maxLen ∧ (Builtin.append_ #[t, t] ty #[.slice base xs.length sc, .slice (some ad) ys.length c]).run P w =
      .ok (.slice (some ⟨w.heap.size, 0, none⟩) (xs.length + ys.length) cap) (w.drew.alloc (.cells (us.toArray ++ vs.toArray ++ Builtin.zeroCells z.cells (cap - (xs.length + ys.length))) e)) := by
  have hlx : us.length = xs.length * i.size := by rw [hrx.length, flatten_length hsx]
  have hly : vs.length = ys.length * i.size := by rw [hry.length, flatten_length hsy]
  have h63 : xs.length + ys.length ≤ 140737488355328 := Nat.le_trans (Nat.le_mul_of_pos_right _ hb0) hbytes
  cases base with
  | none =>
    obtain ⟨rfl, rfl⟩ := hbase rfl
    have hu : us = [] := List.eq_nil_of_length_eq_zero (by simpa using hlx)
    subst hu
    refine ⟨grownCap w ys.length 0 e, by simpa using grownCap_ge w ys.length 0 e, grownCap_le_maxLen w _ _ _ (by simp only [maxLen]; simp at h63; omega), ?_⟩
    have hr := run_append_nil (P := P) w t ty e i z ht hi hz ad ys.length c vs hly hcy (by simpa using hsc) (by simp at h63; omega) (by simp at hbytes; omega)
    simp only [List.length_nil, Nat.zero_add] at hr ⊢
    rw [hr]
    simp
  | some b =>
    refine ⟨grownCap w (xs.length + ys.length) sc e, grownCap_ge w _ _ _, grownCap_le_maxLen w _ _ _ (by simp only [maxLen]; omega), ?_⟩
    exact run_append_grow (P := P) w t ty e i z ht hi hz b xs.length sc us hlx (hcx b rfl) ad ys.length c vs hly hcy hsc (by omega) (growslice_fits (by omega) hbytes)
/-- An append to a slice that has no room: a new block. -/
theorem grow_new (own : Bool) {t ty e : TypeId} {i : TypeInfo} {z : Value} (ht : P.underlying t = some (.slice e)) (hi : P.info? e = some i) (hz : i.zero = some z) (hzs : z.cells.size = i.size) (hb0 : 0 < i.bytes)
    (hg : Good B I0 w0 M m w) {base : Option Addr} {xs ys : List (List V)} {us vs : List Value} {sc c : Nat} {ad : Addr} (hsx : ∀ x ∈ xs, x.length = i.size) (hsy : ∀ x ∈ ys, x.length = i.size)
    (hrx : RepL M w xs.flatten us) (hry : RepL M w ys.flatten vs) (hcx : ∀ b, base = some b → ∀ (j : Nat) (u : Value), us[j]? = some u → w.cell? (b.add j) = some u) (hcy : ∀ (j : Nat) (u : Value), vs[j]? = some u → w.cell? (ad.add j) = some u)
    (h1x : ∀ u ∈ us, u.oneCell' = true) (h1y : ∀ u ∈ vs, u.oneCell' = true) (hbase : base = none → xs = [] ∧ sc = 0) (hsc : sc < xs.length + ys.length) (hbytes : (xs.length + ys.length) * i.bytes ≤ 140737488355328) :
    ∃ x w' M', (Builtin.append_ #[t, t] ty #[.slice base xs.length sc, .slice (some ad) ys.length c]).run P w = .ok x w' ∧ Ext M M' w w' ∧ Good B I0 w0 M' (newV own m e i.size (xs ++ ys)).2 w' ∧ Rep M' w' (newV own m e i.size (xs ++ ys)).1 x := by
  have hlx : us.length = xs.length * i.size := by rw [hrx.length, flatten_length hsx]
  have hly : vs.length = ys.length * i.size := by rw [hry.length, flatten_length hsy]
  have h63 : xs.length + ys.length ≤ 140737488355328 := Nat.le_trans (Nat.le_mul_of_pos_right _ hb0) hbytes
  obtain ⟨cap, hc1, hc2, hrun⟩ := grow_run (ty := ty) ht hi hz hzs hb0 hg (base := base) (xs := xs) (ys := ys) (us := us) (vs := vs) (sc := sc) (c := c) (ad := ad) hsx hsy hrx hry hcx hcy h1x h1y hbase hsc hbytes
  have hbw := below_drew_alloc w (.cells (us.toArray ++ vs.toArray ++ Builtin.zeroCells z.cells (cap - (xs.length + ys.length))) e)
  have hg1 := hg.grow hbw
  have hE1 := hg.ext hbw
  have hfl : RepL M w (xs ++ ys).flatten (us ++ vs) := by rw [List.flatten_append]; exact hrx.append hry
  obtain ⟨M', hE, hG, hR⟩ := sound_new own hg1 (g := w.heap.size) (c := cap) (e := e) (sz := i.size) (cur := us.toArray ++ vs.toArray ++ Builtin.zeroCells z.cells (cap - (xs.length + ys.length))) (xs := xs ++ ys) (us := us ++ vs)
    (hg.fresh (Nat.le_refl _)) hg.sizeB (heap_alloc_new w.drew _) (by simpa using hc1) hc2
    (by
      simp only [Array.size_append, List.size_toArray, size_zeros, hzs, hlx, hly, ← Nat.add_mul]
      congr 1
      omega)
    (by
      rw [List.length_append, Nat.add_mul, ← hlx, ← hly, ← List.length_append]
      simp only [Array.toList_append]
      exact List.take_left)
    (RepL.mono hE1 _ _ hfl) (fun x hx => by
      rcases List.mem_append.1 hx with h | h
      · exact hsx x h
      · exact hsy x h) (fun u hu => by
      rcases List.mem_append.1 hu with h | h
      · exact h1x u h
      · exact h1y u h)
  refine ⟨_, _, M', hrun, hE1.trans hE, hG, ?_⟩
  simpa using hR

/-- What is appended, as the evaluator has it. -/
def srcV (y : V) (sz : Nat) : Option (Nat × List (List V)) := if y.isNil = true then some (sz, []) else y.elems
theorem src_any {y : V} {x : Value} {sz sz' : Nat} {ys : List (List V)} (hr : Rep M w y x) (he : srcV y sz = some (sz', ys)) :
    (ys = [] ∧ (x = .slice none 0 0 ∨ ∃ ad c', x = .slice (some ad) 0 c')) ∨ (ys ≠ [] ∧ y.elems = some (sz', ys)) := by
  unfold srcV at he
  split at he
  · rename_i h
    cases he
    exact .inl ⟨rfl, .inl (isNil_rep hr h).2⟩
  · by_cases h : ys = []
    · subst h
      obtain ⟨base, c, us, rfl, _, _, _, _, _, h7⟩ := src_list hr he
      cases base with
      | none => exact .inl ⟨rfl, .inl (by rw [(h7 rfl).2]; rfl)⟩
      | some ad => exact .inl ⟨rfl, .inr ⟨ad, c, rfl⟩⟩
    · exact .inr ⟨h, he⟩

theorem exec_append {t : TypeId} {x y : Operand} (ho : o.op = .call { callee := .builtin .append, args := #[x, y], argTypes := #[t, t] }) {r : Value} (h : (Builtin.append_ #[t, t] o.type #[a.eval x, a.eval y]).run P w = .ok r w') :
    (execOp a.eval o).run P w = .ok (.value r) w' := by
  unfold execOp
  rw [ho]
  simp only [resolve, invoke, builtin, Sem.run_bind, Sem.run_pure, Result.andThen_ok, List.map_toArray, List.map_cons, List.map_nil, h]

/-- A new slice, in a box. -/
theorem sound_apb {t e : TypeId} {x y : Operand} {x' y' : X} {i : TypeInfo} {z : Value} {ys : List (List V)} (ho : o.op = .call { callee := .builtin .append, args := #[x, y], argTypes := #[t, t] }) (ht : P.underlying t = some (.slice e)) (hi : P.info? e = some i) (hz : i.zero = some z)
    (hzs : z.cells.size = i.size) (hb0 : 0 < i.bytes) (hx : compX x = some x') (hy : compX y = some y') (hs : Slots M w n s a) (hg : Good B I0 w0 M m w)
    (h1 : x'.ev s = .val (.slice none 0 0) ∨ x'.ev s = .full i.size []) (h2 : (y'.ev s).elems = some (i.size, ys)) (hne : ys ≠ []) (hby : ys.length * i.bytes ≤ 140737488355328) :
    Sound P o a w M B I0 w0 (.ref (.sli 0 i.size ys.length) m.boxes.length) { m with boxes := m.boxes ++ [ys.flatten] } := by
  have k1 := comp_ev hx hs
  have k2 := comp_ev hy hs
  obtain ⟨ad, c, us, k3, k4, k5, k6, k7, k8⟩ := src_ne k2 h2 hne
  have hys := List.length_pos_iff.2 hne
  obtain ⟨base, kk⟩ : ∃ base, a.eval x = .slice base 0 0 := by
    rcases h1 with h1 | h1 <;> rw [h1] at k1
    · exact ⟨none, k1.1⟩
    · rcases k1 with ⟨_, k1⟩ | ⟨ad0, k1, _⟩
      · exact ⟨none, k1⟩
      · exact ⟨some ad0, k1⟩
  obtain ⟨cap, hc1, hc2, hrun⟩ := grow_run (P := P) (ty := o.type) ht hi hz hzs hb0 hg (base := base) (xs := []) (ys := ys) (us := []) (vs := us) (sc := 0) (c := c) (ad := ad) (by simp) k8 rfl k5 (by simp) k6 (by simp) k7 (fun _ => ⟨rfl, rfl⟩) (by simpa using hys) (by simpa using hby)
  have hbw := below_drew_alloc w (.cells (([] : List Value).toArray ++ us.toArray ++ Builtin.zeroCells z.cells (cap - (([] : List (List V)).length + ys.length))) e)
  have hg1 := hg.grow hbw
  have hE1 := hg.ext hbw
  have hf := hg.fresh (Nat.le_refl _)
  have hfl : ys.flatten.length = us.length := by rw [flatten_length k8, k4]
  have hg2 := hg1.addBox (g := w.heap.size) (cs := ys.flatten) (heap_alloc_new w.drew _) hg.sizeB hf.1 hf.2.1 hf.2.2 (.inl ⟨hg.κnone, _, _, rfl, by rw [hfl]; simp only [Array.size_append, List.size_toArray]; omega, by
    have e : ((([] : List Value).toArray ++ us.toArray ++ Builtin.zeroCells z.cells (cap - (([] : List (List V)).length + ys.length))).toList).take ys.flatten.length = us := by
      rw [hfl]
      simp
    rw [e]
    exact RepL.mono hE1 _ _ k5, by
    have e : ((([] : List Value).toArray ++ us.toArray ++ Builtin.zeroCells z.cells (cap - (([] : List (List V)).length + ys.length))).toList).take ys.flatten.length = us := by
      rw [hfl]
      simp
    rw [e]
    exact k7⟩)
  refine ⟨_, _, _, .inl (exec_append ho (by rw [kk, k3]; exact hrun)), hE1.trans (Mp.addB_ext M _ _), hg2, ⟨w.heap.size, cap, by simp [Rk.val], by simpa [Rk.cnt] using hc1, ?_⟩⟩
  simp [Mp.addB, Mp.addZ, hg.lβ]

theorem sound_app (own : Bool) {t e : TypeId} {x y : Operand} {x' y' : X} {i : TypeInfo} {z : Value} {r : V} {m' : Mem} (ho : o.op = .call { callee := .builtin .append, args := #[x, y], argTypes := #[t, t] }) (ht : P.underlying t = some (.slice e)) (hi : P.info? e = some i) (hz : i.zero = some z)
    (hzs : z.cells.size = i.size) (hb0 : 0 < i.bytes) (hx : compX x = some x') (hy : compX y = some y') (hs : Slots M w n s a) (hg : Good B I0 w0 M m w)
    (h : kindE (.app x' y' e i.size i.bytes own) s m = some (r, m')) : Sound P o a w M B I0 w0 r m' := by
  have k1 := comp_ev hx hs
  have k2 := comp_ev hy hs
  simp only [kindE] at h
  change (match x'.ev s, srcV (y'.ev s) i.size with
    | .val (.slice none 0 0), some (sz', ys) => if ys = [] then some (.val (.slice none 0 0), m) else
      if sz' = i.size ∧ ys.length * i.bytes ≤ 140737488355328 then some (newV own m e i.size ys) else none
    | .full szx xs, some (sz', ys) => if ys = [] then some (.full szx xs, m) else
      if szx = i.size ∧ sz' = i.size ∧ (xs.length + ys.length) * i.bytes ≤ 140737488355328 then some (newV own m e i.size (xs ++ ys)) else none
    | .row t szx xs, some (sz', ys) =>
      if m.tips[t]? = some (e, i.size, xs.length) ∧ szx = i.size ∧ (ys = [] ∨ sz' = i.size ∧ (xs.length + ys.length) * i.bytes ≤ 140737488355328) then
        some (.row t i.size (xs ++ ys), { m with tips := m.tips.set t (e, i.size, (xs ++ ys).length) }) else none
    | _, _ => none) = some (r, m') at h
  split at h
  · rename_i sz' ys e1 e2
    rw [e1] at k1
    obtain ⟨k1, _⟩ := k1
    rcases src_any k2 e2 with ⟨rfl, hsrc⟩ | ⟨hne, hel⟩
    · rw [if_pos rfl] at h
      cases h
      exact sound_same hg (x := .slice none 0 0) (exec_append ho (by rw [k1]; exact run_append_none ht hi none 0 0 (Nat.le_refl _) _ hsrc)) ⟨rfl, rfl⟩
    · rw [if_neg hne] at h
      split at h
      · rename_i hc
        obtain ⟨rfl, hby⟩ := hc
        obtain ⟨rfl, rfl⟩ : (newV own m e i.size ys).1 = r ∧ (newV own m e i.size ys).2 = m' := by rw [Option.some.inj h]; exact ⟨rfl, rfl⟩
        obtain ⟨ad, c, us, k3, k4, k5, k6, k7, k8⟩ := src_ne k2 hel hne
        obtain ⟨v, w1, M1, j1, j2, j3, j4⟩ := grow_new (ty := o.type) own ht hi hz hzs hb0 hg (base := none) (xs := []) (ys := ys) (us := []) (vs := us) (sc := 0) (c := c) (ad := ad) (by simp) k8 rfl k5 (by simp) k6 (by simp) k7 (fun _ => ⟨rfl, rfl⟩)
          (by simpa using List.length_pos_iff.2 hne) (by simpa using hby)
        exact ⟨v, w1, M1, .inl (exec_append ho (by rw [k1, k3]; exact j1)), j2, j3, j4⟩
      · cases h
  · rename_i szx xs sz' ys e1 e2
    rw [e1] at k1
    have k1' := k1
    obtain ⟨base0, kk, kb⟩ : ∃ base, a.eval x = .slice base xs.length xs.length ∧ (base = none → xs = []) := by
      rcases k1 with ⟨rfl, k1⟩ | ⟨ad0, k1, _⟩
      · exact ⟨none, k1, fun _ => rfl⟩
      · exact ⟨some ad0, k1, fun h => (by cases h)⟩
    rcases src_any k2 e2 with ⟨rfl, hsrc⟩ | ⟨hne, hel⟩
    · rw [if_pos rfl] at h
      cases h
      exact sound_same hg (x := .slice base0 xs.length xs.length) (exec_append ho (by rw [kk]; exact run_append_none ht hi _ _ _ (Nat.le_refl _) _ hsrc)) (by rw [← kk]; exact k1')
    · rw [if_neg hne] at h
      split at h
      · rename_i hc
        obtain ⟨rfl, rfl, hby⟩ := hc
        obtain ⟨rfl, rfl⟩ : (newV own m e i.size (xs ++ ys)).1 = r ∧ (newV own m e i.size (xs ++ ys)).2 = m' := by rw [Option.some.inj h]; exact ⟨rfl, rfl⟩
        obtain ⟨ad, c, us, k3, k4, k5, k6, k7, k8⟩ := src_ne k2 hel hne
        obtain ⟨base1, c1, us1, q3, q4, q5, q6, q7, q8, q9⟩ := src_list (y := .full i.size xs) (sz := i.size) (ys := xs) k1' rfl
        rw [kk] at q3
        injection q3 with q31 q32 q33
        subst q31
        obtain ⟨v, w1, M1, j1, j2, j3, j4⟩ := grow_new (ty := o.type) own ht hi hz hzs hb0 hg (base := base0) (xs := xs) (ys := ys) (us := us1) (vs := us) (sc := xs.length) (c := c) (ad := ad) q8 k8 q5 k5 q6 k6 q7 k7 (fun hb => by subst hb; obtain rfl := kb rfl; exact ⟨rfl, rfl⟩)
          (by have := List.length_pos_iff.2 hne; omega) hby
        exact ⟨v, w1, M1, .inl (exec_append ho (by rw [kk, k3]; exact j1)), j2, j3, j4⟩
      · cases h
  · rename_i tr szx xs sz' ys e1 e2
    split at h
    · rename_i hc
      obtain ⟨hti, rfl, hby⟩ := hc
      simp only [Option.some.injEq, Prod.mk.injEq] at h
      obtain ⟨rfl, rfl⟩ := h
      rw [e1] at k1
      have k1' := k1
      obtain ⟨G, hG, k1⟩ := k1
      have hm0 : ({ m with tips := m.tips.set tr (e, i.size, (xs ++ ([] : List (List V))).length) } : Mem) = m := by
        have htl := (List.getElem?_eq_some_iff.1 hti)
        obtain ⟨hlt, hv⟩ := htl
        rw [List.append_nil, ← hv, List.set_getElem_self]
      rcases k1 with ⟨hx0, k1⟩ | ⟨g, c0, k1, hxc, hsx, hX, hmem⟩
      · subst hx0
        rcases src_any k2 e2 with ⟨rfl, hsrc⟩ | ⟨hne, hel⟩
        · rw [hm0, List.append_nil]
          exact sound_same hg (x := .slice none 0 0) (exec_append ho (by rw [k1]; exact run_append_none ht hi none 0 0 (Nat.le_refl _) _ hsrc)) (by rw [← k1]; exact k1')
        · obtain ⟨hsz', hby2⟩ := hby.resolve_left hne
          subst hsz'
          obtain ⟨ad, c, us, k3, k4, k5, k6, k7, k8⟩ := src_ne k2 hel hne
          have hys : 0 < ys.length := List.length_pos_iff.2 hne
          have hby3 : ys.length * i.bytes ≤ 140737488355328 := by simpa using hby2
          have h63 : ys.length ≤ 140737488355328 := Nat.le_trans (Nat.le_mul_of_pos_right _ hb0) hby3
          have hrun := run_append_nil (P := P) w t o.type e i z ht hi hz ad ys.length c us k4 k6 hys (by omega) (by omega)
          have hcap := grownCap_ge w ys.length 0 e
          have hlen2 : us.length = ys.length * i.size := k4
          have hown : (w.drew.alloc (.cells (us.toArray ++ Builtin.zeroCells z.cells (grownCap w ys.length 0 e - ys.length)) e)).ownsRow B e i.size (.slice (some ⟨w.heap.size, 0, none⟩) ys.length (grownCap w ys.length 0 e)) ys.length us := by
            refine ⟨hlen2, .inr ⟨w.heap.size, _, _, rfl, hg.sizeB, heap_alloc_new w.drew _, hcap, grownCap_le_maxLen w _ _ _ (by simp only [maxLen]; omega), ?_, ?_⟩⟩
            · simp only [Array.size_append, List.size_toArray, size_zeros, hzs, k4, ← Nat.add_mul]
              congr 1
              omega
            · simp only [Array.toList_append]
              rw [← hlen2]
              exact List.take_left
          obtain ⟨hGd, hE⟩ := hg.setRow (w' := w.drew.alloc (.cells (us.toArray ++ Builtin.zeroCells z.cells (grownCap w ys.length 0 e - ys.length)) e)) (n' := ys.length) hG hti (by simpa using hys) (row := none) ⟨rfl, rfl, rfl, by simp, fun k hk _ => heap_alloc_old w.drew _ k hk⟩ (fun k hk => by cases hk)
            (fun b q hI => cell_of_heap (heap_alloc_old w.drew _ b (hg.ilt b q hI))) hown (.inr (Nat.le_refl _))
          refine ⟨_, _, _, .inl (exec_append ho (by rw [k1, k3]; exact hrun)), hE, by simpa using hGd, ⟨_, List.getElem?_set_self (List.getElem?_eq_some_iff.1 hG).1, .inr ⟨w.heap.size, grownCap w ys.length 0 e, by simp, by simpa using hcap, by simpa using k8, ?_, by simp⟩⟩⟩
          refine RepX.of_flat (RepC.of_list (RepL.mono hE _ _ (by simpa using k5)) (fun j u hj => ?_) k7)
          have hjl := (List.getElem?_eq_some_iff.1 hj).1
          refine ⟨.inr ⟨rfl, by omega⟩, ?_⟩
          have := hown.cells (g := w.heap.size) rfl j u hj
          rwa [Addr.add_mid] at this
      obtain ⟨g2, c2, us0, r1, r2, r3, r4⟩ := (hg.row tr G e i.size xs.length hG hti).resolve_left (fun e => by rw [e.2] at hmem; simp at hmem)
      have e3 := (r2 _ hmem).2 rfl
      obtain ⟨rfl, rfl⟩ : g = g2 ∧ c0 = c2 := by injection e3 with _ e3; injection e3 with e3 e4; exact ⟨e3, e4⟩
      rcases src_any k2 e2 with ⟨rfl, hsrc⟩ | ⟨hne, hel⟩
      · rw [hm0, List.append_nil]
        exact sound_same hg (x := .slice (some ⟨g, 0, none⟩) xs.length c0) (exec_append ho (by rw [k1]; exact run_append_none ht hi _ _ _ hxc _ hsrc)) (by rw [← k1]; exact k1')
      · obtain ⟨hsz', hby2⟩ := hby.resolve_left hne
        subst hsz'
        obtain ⟨ad, c, us, k3, k4, k5, k6, k7, k8⟩ := src_ne k2 hel hne
        obtain ⟨base1, cc1, us1, q3, q4, q5, q6, q7, q8, _⟩ := src_list (y := .row tr i.size xs) (sz := i.size) (ys := xs) k1' rfl
        rw [k1] at q3
        injection q3 with q31 q32 q33
        subst q31
        have q6 := q6 _ rfl
        have hys : 0 < ys.length := List.length_pos_iff.2 hne
        have h63 : xs.length + ys.length ≤ 140737488355328 := Nat.le_trans (Nat.le_mul_of_pos_right _ hb0) hby2
        -- the row's own cells are what the values say
        have hus : us0 = us1 := by
          have hc0 := r3.cells (g := g) rfl
          apply List.ext_getElem?
          intro k
          by_cases hk : k < us0.length
          · have a1 := hc0 k _ (List.getElem?_eq_getElem hk)
            have hk1 : k < us1.length := by rw [q4, ← r3.1]; exact hk
            have a2 := q6 k _ (List.getElem?_eq_getElem hk1)
            rw [List.getElem?_eq_getElem hk, List.getElem?_eq_getElem hk1, ← a1, ← a2]
          · rw [List.getElem?_eq_none (by omega), List.getElem?_eq_none (by rw [q4, ← r3.1]; omega)]
        subst hus
        have hfl : RepL M w (xs ++ ys).flatten (us0 ++ us) := by rw [List.flatten_append]; exact q5.append k5
        have hall1 : ∀ u ∈ us0 ++ us, u.oneCell' = true := fun u hu => by
          rcases List.mem_append.1 hu with h | h
          · exact q7 u h
          · exact k7 u h
        have hlen2 : (us0 ++ us).length = (xs.length + ys.length) * i.size := by rw [List.length_append, q4, k4, Nat.add_mul]
        have finish : ∀ (g' c' : Nat) (w1 : World), (Builtin.append_ #[t, t] o.type #[.slice (some ⟨g, 0, none⟩) xs.length c0, .slice (some ad) ys.length c]).run P w = .ok (.slice (some ⟨g', 0, none⟩) (xs.length + ys.length) c') w1 →
            w.grownBy w1 (some g) → (∀ (b q : Nat), M.I b q → w1.cell? ⟨b, q, none⟩ = w.cell? ⟨b, q, none⟩) → w1.ownsRow B e i.size (.slice (some ⟨g', 0, none⟩) (xs.length + ys.length) c') (xs.length + ys.length) (us0 ++ us) →
            (g' = g ∨ w.heap.size ≤ g') → Sound P o a w M B I0 w0 (.row tr i.size (xs ++ ys)) { m with tips := m.tips.set tr (e, i.size, (xs ++ ys).length) } := by
          intro g' c' w1 hrun hgr hkeep hown hnew
          obtain ⟨hGd, hE⟩ := hg.setRow (n' := xs.length + ys.length) hG hti (by omega) (row := some g) hgr (fun k hk => ⟨c0, by cases hk; exact hmem⟩) hkeep hown (hnew.imp (fun h => ⟨c0, by rw [h]; exact hmem⟩) id)
          refine ⟨_, w1, _, .inl (exec_append ho (by rw [k1, k3]; exact hrun)), hE, by rw [List.length_append]; exact hGd, ⟨_, List.getElem?_set_self (List.getElem?_eq_some_iff.1 hG).1, .inr ⟨g', c', by rw [List.length_append], ?_, ?_, ?_, ?_⟩⟩⟩
          · rw [List.length_append]
            rcases hown.2 with ⟨h1, _⟩ | ⟨g3, c3, cur3, h1, _, _, h2, _⟩
            · cases h1
            · injection h1 with h1 h3 h4
              omega
          · intro u hu
            rcases List.mem_append.1 hu with h | h
            · exact q8 u h
            · exact k8 u h
          · refine RepX.of_flat (RepC.of_list (RepL.mono hE _ _ hfl) (fun j u hj => ?_) hall1)
            have hjl := (List.getElem?_eq_some_iff.1 hj).1
            refine ⟨.inr ⟨rfl, by omega⟩, ?_⟩
            have := hown.cells (g := g') rfl j u hj
            rwa [Addr.add_mid] at this
          · simp
        rcases r3.2 with ⟨hbad, _⟩ | ⟨g3, c3, cur, hv, hB3, hh, hnc, hcm, hcs, htk⟩
        · cases hbad
        · injection hv with hv1 hv2 hv3
          injection hv1 with hv1
          injection hv1 with hv1
          subst hv1; subst hv3
          by_cases hroom : xs.length + ys.length ≤ c0
          · have hfit : xs.length * i.size + us.length ≤ cur.size := by rw [k4, hcs, ← Nat.add_mul]; exact Nat.mul_le_mul_right _ hroom
            have hrun := run_append_room (P := P) w t o.type e i ht hi g xs.length c0 cur hh ad ys.length c us k4 k6 k7 hroom hfit
            refine finish g c0 _ hrun ⟨rfl, rfl, rfl, by simp, fun k _ hk => setRow_other w g k _ (fun e => hk (by rw [e]))⟩ ?_ ?_ (.inl rfl)
            · intro b q hI
              by_cases hbg : b = g
              · subst hbg
                have hq := r4 q hI
                rw [cell_of_row (w.setRow b _) b q _ e (0, 0) (setRow_heap w b cur _ e (0, 0) hh), cell_of_row w b q cur e (0, 0) hh]
                have hq2 : q < (cur.toList.take (xs.length * i.size)).length := by rw [htk, q4]; exact hq
                simp only [List.getElem?_toArray]
                rw [List.append_assoc, List.getElem?_append_left hq2, List.getElem?_take, if_pos hq]
                simp
              · exact cell_of_heap (setRow_other w g b _ hbg)
            · refine ⟨hlen2, .inr ⟨g, c0, _, rfl, hB3, setRow_heap w g cur _ e _ hh, hroom, hcm, ?_, ?_⟩⟩
              · simp only [List.size_toArray, List.length_append, List.length_take, List.length_drop, Array.length_toList]
                omega
              · rw [htk, ← hlen2]
                exact List.take_left
          · have hrun := run_append_grow (P := P) w t o.type e i z ht hi hz ⟨g, 0, none⟩ xs.length c0 us0 q4 (r3.cells (g := g) rfl) ad ys.length c us k4 k6 (by omega) (by omega) (growslice_fits (by omega) hby2)
            refine finish w.heap.size _ _ hrun ⟨rfl, rfl, rfl, by simp, fun k hk _ => heap_alloc_old w.drew _ k hk⟩ ?_ ?_ (.inr (Nat.le_refl _))
            · intro b q hI
              exact cell_of_heap (heap_alloc_old w.drew _ b (hg.ilt b q hI))
            · refine ⟨hlen2, .inr ⟨w.heap.size, _, _, rfl, hg.sizeB, heap_alloc_new w.drew _, grownCap_ge w _ _ _, grownCap_le_maxLen w _ _ _ (by simp only [maxLen]; omega), ?_, ?_⟩⟩
              · simp only [Array.size_append, List.size_toArray, size_zeros, hzs, q4, k4, ← Nat.add_mul]
                congr 1
                have := grownCap_ge w (xs.length + ys.length) c0 e
                omega
              · simp only [Array.toList_append]
                rw [← hlen2]
                exact List.take_left
    · cases h
  · cases h
end
end Go.Av

namespace Go.Av
open Go.RowKit

section
variable {P : Program} {o : Oper} {a : Act} {w w' : World} {M : Mp} {m : Mem} {n : Nat} {s : Nat → V} {B : Nat} {I0 : Nat → Nat → Prop} {w0 : World}

def compO : Option Operand → Option (Option X)
  | none => some none
  | some x => (compX x).map some

theorem sound_slc {T e : TypeId} {x : Operand} {x' : X} {lo hi mx : Option Operand} {lo' hi' mx' : Option X} {i : TypeInfo} {r : V} {m' : Mem} (ho : o.op = .slice T x lo hi mx) (hT : P.underlying T = some (.slice e)) (hi0 : P.info? e = some i)
    (hx : compX x = some x') (hlo : compO lo = some lo') (hhi : compO hi = some hi') (hmx : compO mx = some mx') (hmh : mx.isSome = true → hi.isSome = true) (hs : Slots M w n s a) (hg : Good B I0 w0 M m w)
    (h : kindE (.slc x' lo' hi' mx' i.size) s m = some (r, m')) : Sound P o a w M B I0 w0 r m' := by
  have k1 := comp_ev hx hs
  simp only [kindE] at h
  -- the operands' values
  have opn : ∀ {y : Option Operand} {y' : Option X} {q : Int} {d : Int}, compO y = some y' → (match y' with | none => some d | some x => match x.ev s with | .val (.int _ n) => some n | _ => none) = some q →
      (y = none ∧ y' = none ∧ q = d) ∨ ∃ z k, y = some z ∧ y'.isSome = true ∧ a.eval z = .int k q := by
    intro y y' q d hc hq
    cases y with
    | none =>
      simp only [compO, Option.some.injEq] at hc
      subst hc
      exact .inl ⟨rfl, rfl, by simpa using hq.symm⟩
    | some z =>
      simp only [compO, Option.map_eq_some_iff] at hc
      obtain ⟨u, hu, rfl⟩ := hc
      have k2 := comp_ev hu hs
      simp only at hq
      split at hq
      · rename_i k q' e
        rw [e] at k2
        cases hq
        exact .inr ⟨z, k, rfl, rfl, k2.1⟩
      · cases hq
  split at h
  · rename_i sz' xs l e1 e2
    split at h
    · rename_i hh e3
      split at h
      · rename_i hc
        obtain ⟨rfl, h0, hlh, hle, hm⟩ := hc
        simp only [Option.some.injEq, Prod.mk.injEq] at h
        obtain ⟨rfl, rfl⟩ := h
        -- the value
        obtain ⟨base, c, hv, hxc, hrep⟩ : ∃ base c, a.eval x = .slice base xs.length c ∧ xs.length ≤ c ∧
            (base = none ∧ xs = [] ∧ c = 0 ∨ (x'.ev s).isNil = false ∧ ∃ ad, base = some ad ∧ (xs = [] ∨ ad.spot = none) ∧ (∀ e ∈ xs, e.length = i.size) ∧ RepX M w xs ad.block ad.off) := by
          split at e1
          · rename_i hnil
            cases e1
            exact ⟨none, 0, (isNil_rep k1 hnil).2, Nat.le_refl _, .inl ⟨rfl, rfl, rfl⟩⟩
          · rename_i hnil
            rcases elems_rep k1 e1 with ⟨rfl, q1⟩ | ⟨ad, c, q1, q2, q3, q4, q5⟩
            · exact ⟨none, 0, q1, Nat.le_refl _, .inl ⟨rfl, rfl, rfl⟩⟩
            exact ⟨some ad, c, q1, q2, .inr ⟨by simpa using hnil, ad, rfl, q3, q4, q5⟩⟩
        have hlo2 := opn hlo e2
        have hhi2 := opn hhi e3
        -- the third index
        have hmx2 : (mx = none ∧ mx' = none) ∨ ∃ z k, mx = some z ∧ mx'.isSome = true ∧ a.eval z = .int k hh := by
          cases mx with
          | none =>
            simp only [compO, Option.some.injEq] at hmx
            exact .inl ⟨rfl, hmx.symm⟩
          | some z =>
            simp only [compO, Option.map_eq_some_iff] at hmx
            obtain ⟨u, hu, rfl⟩ := hmx
            have k2 := comp_ev hu hs
            simp only [mxOk] at hm
            split at hm
            · rename_i k q e
              rw [e] at k2
              simp only [beq_iff_eq] at hm
              subst hm
              exact .inr ⟨z, k, rfl, rfl, k2.1⟩
            · cases hm
        have hcap : ∃ cm : Nat, cm = (if mx'.isSome = true then hh.toNat else c) ∧ hh.toNat ≤ cm ∧ cm ≤ c := by
          refine ⟨_, rfl, ?_, ?_⟩ <;> split <;> omega
        obtain ⟨cm, hcm, hcm1, hcm2⟩ := hcap
        have sb : ∀ (k : IntKind) (q : Int) (y : Nat) (code : BoundsCode), 0 ≤ q → q ≤ y → (Instr.sliceBound (.int k q) y code).run P w = .ok q.toNat w := fun k q y code q0 q1 => by
          simp [Instr.sliceBound, asIntOf, q0, q1]
        have hb : (Instr.sliceBounds true xs.length c (lo.map a.eval) (hi.map a.eval) (mx.map a.eval)).run P w = .ok (l.toNat, hh.toNat, cm) w := by
          rcases hmx2 with ⟨rfl, hm0⟩ | ⟨z3, kz3, rfl, hm0, ez3⟩
          · rw [hm0] at hcm
            simp at hcm
            subst hcm
            rcases hhi2 with ⟨rfl, _, rfl⟩ | ⟨z2, kz2, rfl, _, ez2⟩
            · rcases hlo2 with ⟨rfl, _, rfl⟩ | ⟨z1, kz1, rfl, _, ez1⟩
              · simp [Instr.sliceBounds]
              · have := sb kz1 l xs.length .sliceB h0 (by omega)
                simp [Instr.sliceBounds, ez1, this]
            · have a2 := sb kz2 hh cm .sliceAcap (by omega) (by omega)
              rcases hlo2 with ⟨rfl, _, rfl⟩ | ⟨z1, kz1, rfl, _, ez1⟩
              · simp [Instr.sliceBounds, ez2, a2]
              · have := sb kz1 l hh.toNat .sliceB h0 (by omega)
                simp [Instr.sliceBounds, ez1, ez2, a2, this]
          · rw [hm0] at hcm
            simp at hcm
            subst hcm
            have a3 := sb kz3 hh c .slice3Acap (by omega) (by omega)
            rcases hhi2 with ⟨rfl, _, _⟩ | ⟨z2, kz2, rfl, _, ez2⟩
            · simp at hmh
            · have a2 := sb kz2 hh hh.toNat .slice3B (by omega) (by omega)
              rcases hlo2 with ⟨rfl, _, rfl⟩ | ⟨z1, kz1, rfl, _, ez1⟩
              · simp [Instr.sliceBounds, ez2, ez3, a2, a3]
              · have := sb kz1 l hh.toNat .slice3C h0 (by omega)
                simp [Instr.sliceBounds, ez1, ez2, ez3, a2, a3, this]
        have hrun : (execOp a.eval o).run P w = .ok (.value (.slice (if cm = l.toNat then base else base.map (·.add (l.toNat * i.size))) (hh.toNat - l.toNat) (cm - l.toNat))) w := by
          unfold execOp
          rw [ho]
          simp [Instr.sliceAt, Instr.slice, run_underlying hT, hv, hb, run_sizeOf hi0]
        rcases hrep with ⟨rfl, rfl, rfl⟩ | ⟨hnil, ad, rfl, hsp, hsz, hX⟩
        · have z1 : hh = 0 := by simp at hle; omega
          have z2 : l = 0 := by omega
          subst z1; subst z2
          have : cm = 0 := by omega
          subst this
          refine sound_same hg (x := .slice none 0 0) (by simpa using hrun) ?_
          split
          · exact ⟨rfl, rfl⟩
          · split
            · exact .inl ⟨by simp, rfl⟩
            · exact .inl ⟨by simp, rfl⟩
        · rw [if_neg (by simp [hnil])]
          have hlen : ((xs.take hh.toNat).drop l.toNat).length = hh.toNat - l.toNat := by simp; omega
          have hsz2 : ∀ e ∈ (xs.take hh.toNat).drop l.toNat, e.length = i.size := fun e he => hsz e (List.mem_of_mem_take (List.mem_of_mem_drop he))
          obtain ⟨ad2, had, hsp2, hX2⟩ : ∃ ad2 : Addr, (if cm = l.toNat then some ad else (some ad).map (·.add (l.toNat * i.size))) = some ad2 ∧ ((xs.take hh.toNat).drop l.toNat = [] ∨ ad2.spot = none) ∧ RepX M w ((xs.take hh.toNat).drop l.toNat) ad2.block ad2.off := by
            by_cases hcl : cm = l.toNat
            · rw [if_pos hcl]
              have hnil2 : (xs.take hh.toNat).drop l.toNat = [] := List.eq_nil_of_length_eq_zero (by rw [hlen]; omega)
              exact ⟨ad, rfl, .inl hnil2, by rw [hnil2]; trivial⟩
            · rw [if_neg hcl]
              rcases hsp with rfl | hsp
              · exact ⟨_, rfl, .inl (by simp), by simp; trivial⟩
              · refine ⟨ad.add (l.toNat * i.size), rfl, .inr (by rw [add_none hsp]), ?_⟩
                rw [add_none hsp]
                exact (hX.take hsz hh.toNat).drop (fun e he => hsz e (List.mem_of_mem_take he)) l.toNat
          rw [had] at hrun
          refine sound_same hg hrun ?_
          split
          · rename_i hmx'
            rw [if_pos hmx'] at hcm
            exact .inr ⟨ad2, by rw [hlen, hcm], hsp2, hsz2, hX2⟩
          · exact .inr ⟨ad2, cm - l.toNat, by rw [hlen], by omega, hsp2, hsz2, hX2⟩
      · cases h
    · cases h
  · cases h

theorem toBytes_list {M : Mp} {w : World} : ∀ {xs : List (List V)} {l : List UInt8} {us : List Value}, toBytes xs = some l → RepL M w xs.flatten us → us = (l.map fun b => (b.toNat : Int)).map (Value.int .u8)
  | [], l, us, h, hr => by
    simp only [toBytes, Option.some.injEq] at h
    subst h
    simp only [List.flatten_nil, RepL] at hr
    simpa using hr
  | x :: xs, l, us, h, hr => by
    unfold toBytes at h
    split at h
    · rename_i e0
      cases e0
    · rename_i q r e1
      injection e1 with e1 e2
      subst e1; subst e2
      split at h
      · rename_i hq
        simp only [Option.map_eq_some_iff] at h
        obtain ⟨l', hl', rfl⟩ := h
        simp only [List.flatten_cons, List.singleton_append, RepL] at hr
        obtain ⟨y, us', rfl, hy, hr'⟩ := hr
        obtain ⟨rfl, _⟩ := hy
        rw [toBytes_list hl' hr']
        simp only [List.map_cons]
        congr 2
        have : q.toNat < 256 := by omega
        simp [Nat.mod_eq_of_lt this]
        omega
      · cases h
    · cases h
theorem foldl_bytes : ∀ (l : List UInt8) (b : ByteArray), (l.map fun b => (b.toNat : Int)).foldl (fun r n => r.push (UInt8.ofNat n.toNat)) b = ⟨(b.data.toList ++ l).toArray⟩
  | [], b => by simp
  | x :: l, b => by
    rw [List.map_cons, List.foldl_cons, foldl_bytes l]
    congr 1
    simp [ByteArray.push]

theorem sound_b2s {src dst e : TypeId} {x : Operand} {x' : X} {r : V} {m' : Mem} (ho : o.op = .convert src dst x) (h1 : P.underlying src = some (.slice e)) (h2 : P.underlying dst = some .string) (h3 : P.underlying e = some (.int .u8)) (hx : compX x = some x') (hs : Slots M w n s a) (hg : Good B I0 w0 M m w)
    (h : kindE (.b2s x') s m = some (r, m')) : Sound P o a w M B I0 w0 r m' := by
  have k1 := comp_ev hx hs
  simp only [kindE] at h
  have hex : ∀ {v : Value} {y : Value}, a.eval x = v → (∃ b n c, v = .slice b n c) → (Conv.bytesToString v).run P w = .ok y w → (execOp a.eval o).run P w = .ok (.value y) w := by
    rintro v y hv ⟨b, q, c, rfl⟩ hr
    unfold execOp
    rw [ho]
    simp [hv, convert, run_underlying h1, run_underlying h2, run_underlying h3, hr]
  split at h
  · rename_i hnil
    cases h
    refine sound_same hg (x := .string .empty) (hex (isNil_rep k1 hnil).2 ⟨_, _, _, rfl⟩ (by simp [Conv.bytesToString])) ⟨rfl, rfl⟩
  · split at h
    · rename_i sz xs e1
      simp only [Option.map_eq_some_iff, Prod.mk.injEq] at h
      obtain ⟨l, hl, rfl, rfl⟩ := h
      obtain ⟨base, c, us, q1, q2, q3, q4, q5, q6, q7⟩ := src_list k1 e1
      have hus := toBytes_list hl q3
      have hsz : us.length = xs.length := by
        cases xs with
        | nil => simpa using q2
        | cons x0 xs0 =>
          have hx0 := q6 x0 (by simp)
          unfold toBytes at hl
          split at hl
          · rename_i e0
            cases e0
          · rename_i q r e2
            injection e2 with e2 _
            subst e2
            simp at hx0
            rw [q2, ← hx0]; omega
          · cases hl
      cases base with
      | none =>
        obtain ⟨rfl, rfl⟩ := q7 rfl
        simp only [toBytes, Option.some.injEq] at hl
        subst hl
        exact sound_same hg (x := .string ⟨#[]⟩) (hex q1 ⟨_, _, _, rfl⟩ (by simp [Conv.bytesToString]; rfl)) ⟨rfl, rfl⟩
      | some ad =>
      have q4 := q4 ad rfl
      have hlc := run_loadCells_list (P := P) w ad us q4
      rw [hsz, hus] at hlc
      refine sound_same hg (x := .string ⟨l.toArray⟩) (hex q1 ⟨_, _, _, rfl⟩ ?_) ⟨rfl, rfl⟩
      rw [run_bytesToString w ad xs.length c _ hlc, foldl_bytes]
      simp
    · cases h

theorem run_getIter {g p : Nat} {str : ByteArray} (h : w.heap[g]? = some (.stringIter str p)) : (getObj g).run P w = .ok (.stringIter str p) w := by
  simp [getObj, Sem.run, h]
theorem run_setIter {g p : Nat} {str : ByteArray} {ob : Obj} (h : w.heap[g]? = some (.stringIter str p)) : (setObj g ob).run P w = .ok () (putO w g ob) := by
  simp [setObj, Sem.run, h, putO]

theorem sound_sidx {T : TypeId} {x y : Operand} {x' y' : X} {str : ByteArray} {k : IntKind} {q : Int} {c : UInt8} (ho : o.op = .index T x y) (hT : P.underlying T = some .string) (hx : compX x = some x') (hy : compX y = some y')
    (hs : Slots M w n s a) (hg : Good B I0 w0 M m w) (h1 : x'.ev s = .val (.string str)) (h2 : y'.ev s = .val (.int k q)) (h0 : 0 ≤ q) (hc : str[q.toNat]? = some c) : Sound P o a w M B I0 w0 (.val (.int .u8 c.toNat)) m := by
  have k1 := comp_ev hx hs
  have k2 := comp_ev hy hs
  rw [h1] at k1
  rw [h2] at k2
  obtain ⟨k1, _⟩ := k1
  obtain ⟨k2, _⟩ := k2
  refine sound_same hg (x := .int .u8 c.toNat) ?_ ⟨rfl, rfl⟩
  unfold execOp
  rw [ho]
  simp [Instr.index, k1, k2, run_underlying hT, asIntOf, h0, hc]

theorem sound_srg {T : TypeId} {x : Operand} {x' : X} {str : ByteArray} (ho : o.op = .range T x) (hT : P.underlying T = some .string) (hx : compX x = some x') (hs : Slots M w n s a) (hg : Good B I0 w0 M m w) (h1 : x'.ev s = .val (.string str)) :
    Sound P o a w M B I0 w0 (.ptr m.boxes.length 0) { m with boxes := m.boxes ++ [[.tuple [.val (.string str), .val (.int .i64 0)]]] } := by
  have k1 := comp_ev hx hs
  rw [h1] at k1
  obtain ⟨k1, _⟩ := k1
  have hb := below_alloc_self w (.stringIter str 0)
  have hg1 := hg.grow hb
  have hf := hg.fresh (Nat.le_refl _)
  have hE1 := hg.ext hb
  have hg2 := hg1.addBox (g := w.heap.size) (cs := [.tuple [.val (.string str), .val (.int .i64 0)]]) (heap_alloc_new w (.stringIter str 0)) hg.sizeB hf.1 hf.2.1 hf.2.2 (.inr (.inl ⟨hg.κnone, str, 0, rfl, rfl⟩))
  refine ⟨.pointer (some ⟨w.heap.size, 0, none⟩), _, _, .inl ?_, hE1.trans (Mp.addB_ext M _ _), hg2, ⟨w.heap.size, rfl, ?_⟩⟩
  · unfold execOp
    rw [ho]
    simp [Instr.range, k1, run_underlying hT]
  · simp [Mp.addB, Mp.addZ, hg.lβ]

theorem sound_snx_over {x : Operand} {x' : X} {b : Nat} {str : ByteArray} {pos : Int} (ho : o.op = .next x true) (hx : compX x = some x') (hs : Slots M w n s a) (hg : Good B I0 w0 M m w) (h1 : x'.ev s = .ptr b 0)
    (hb : m.boxes[b]? = some [.tuple [.val (.string str), .val (.int .i64 pos)]]) (hp : ¬ pos.toNat < str.size) : Sound P o a w M B I0 w0 (.tuple [.val (.bool false)]) m := by
  have k1 := comp_ev hx hs
  rw [h1] at k1
  obtain ⟨g, k1, k2⟩ := k1
  obtain ⟨_, ob, hh, hbr⟩ := hg.box b g _ k2 hb
  rcases hbr with ⟨_, vs, T, rfl, _, hr, hone⟩ | ⟨hκ, str', p', rfl, e⟩ | ⟨fam, st, _, _, e⟩ | ⟨_, es, c, _, _, hr⟩ | ⟨_, e⟩
  · have := isObj_tuple hr hone
    simp [isObj] at this
  · simp only [List.cons.injEq, V.tuple.injEq, V.val.injEq, Value.string.injEq, Value.int.injEq, true_and, and_true] at e
    obtain ⟨rfl, rfl⟩ := e
    refine sound_same hg (x := .tuple #[.bool false]) ?_ ⟨_, rfl, _, _, rfl, ⟨rfl, rfl⟩, rfl⟩
    unfold execOp
    rw [ho]
    have hp' : ¬ p' < str.size := by simpa using hp
    simp only [k1, Instr.next, Sem.run_bind, run_getIter hh]
    simp [hp']
  · exfalso
    cases st <;> simp [St.v] at e
  · exact (mapV_iter hr).elim
  · simp [deadC] at e

theorem sound_snx {x : Operand} {x' : X} {b : Nat} {str : ByteArray} {pos : Int} (ho : o.op = .next x true) (hx : compX x = some x') (hs : Slots M w n s a) (hg : Good B I0 w0 M m w) (h1 : x'.ev s = .ptr b 0)
    (hb : m.boxes[b]? = some [.tuple [.val (.string str), .val (.int .i64 pos)]]) (hp : pos.toNat < str.size) :
    Sound P o a w M B I0 w0 (.tuple [.val (.bool true), .val (.int .i64 pos.toNat), .val (.int .i32 (Utf8.decode str pos.toNat).1)])
      { m with boxes := m.boxes.set b [.tuple [.val (.string str), .val (.int .i64 (pos.toNat + (Utf8.decode str pos.toNat).2 : Nat))]] } := by
  have k1 := comp_ev hx hs
  rw [h1] at k1
  obtain ⟨g, k1, k2⟩ := k1
  obtain ⟨_, ob, hh, hbr⟩ := hg.box b g _ k2 hb
  rcases hbr with ⟨_, vs, T, rfl, _, hr, hone⟩ | ⟨hκ, str', p', rfl, e⟩ | ⟨fam, st, _, _, e⟩ | ⟨_, es, c, _, _, hr⟩ | ⟨_, e⟩
  · have := isObj_tuple hr hone
    simp [isObj] at this
  · simp only [List.cons.injEq, V.tuple.injEq, V.val.injEq, Value.string.injEq, Value.int.injEq, true_and, and_true] at e
    obtain ⟨rfl, rfl⟩ := e
    have hp' : p' < str.size := by simpa using hp
    have hblt : b < m.boxes.length := (List.getElem?_eq_some_iff.1 hb).1
    obtain ⟨hg2, hE⟩ := hg.putBox k2 hblt (cs := [.tuple [.val (.string str), .val (.int .i64 (p' + (Utf8.decode str p').2 : Nat))]]) (ob := .stringIter str (p' + (Utf8.decode str p').2)) (by rw [hb]; simp [deadC]) rfl (.inr (.inl ⟨hκ, str, _, rfl, rfl⟩))
    refine ⟨.tuple #[.bool true, .int .i64 p', .int .i32 (Utf8.decode str p').1], _, M, .inl ?_, hE, by simpa using hg2, ⟨_, rfl, _, _, rfl, ⟨rfl, rfl⟩, _, _, rfl, ⟨by simp, rfl⟩, _, _, rfl, ⟨by simp, rfl⟩, rfl⟩⟩
    unfold execOp
    rw [ho]
    simp only [k1, Instr.next, Sem.run_bind, run_getIter hh]
    simp [hp', run_setIter hh, goInt]
  · exfalso
    cases st <;> simp [St.v] at e
  · exact (mapV_iter hr).elim
  · simp [deadC] at e

-- Maps.
def RepE (M : Mp) (w : World) : List (Int × V) → List MapEntry → Prop
  | [], es => es = []
  | p :: l, es => ∃ e r, es = e :: r ∧ e.key = .int .i64 p.1 ∧ Rep M w p.2 e.val ∧ RepE M w l r
theorem RepE.of {M : Mp} {w : World} : ∀ {l : List V} {kvs : List (Int × V)} {es : List MapEntry}, mpE l = some kvs → RepL M w l (es.map fun e => Value.tuple #[e.key, e.val]) → RepE M w kvs es
  | [], kvs, es, h, hr => by
    cases h
    cases es with
    | nil => rfl
    | cons e r => cases hr
  | v :: l, kvs, es, h, hr => by
    unfold mpE at h
    split at h
    · rename_i e; cases e
    · rename_i q u l' e
      cases e
      simp only [Option.map_eq_some_iff] at h
      obtain ⟨kvs', h1, rfl⟩ := h
      obtain ⟨x, r, e, ⟨us, h2, h3⟩, h4⟩ := hr
      cases es with
      | nil => cases e
      | cons en es =>
        simp only [List.map_cons, List.cons.injEq] at e
        obtain ⟨e1, e2⟩ := e
        subst h2
        simp only [Value.tuple.injEq] at e1
        subst e1
        obtain ⟨y1, r1, k1, ⟨k2, _⟩, y2, r2, k3, k4, _⟩ := h3
        simp only [List.cons.injEq] at k1
        obtain ⟨rfl, rfl⟩ := k1
        simp only [List.cons.injEq] at k3
        obtain ⟨rfl, _⟩ := k3
        exact ⟨en, es, rfl, k2, k4, RepE.of h1 (by rw [e2]; exact h4)⟩
    · cases h
theorem RepE.to {M : Mp} {w : World} : ∀ {kvs : List (Int × V)} {es : List MapEntry}, RepE M w kvs es → RepL M w (kvs.map fun p => .tuple [.val (.int .i64 p.1), p.2]) (es.map fun e => Value.tuple #[e.key, e.val])
  | [], es, h => by subst h; rfl
  | p :: l, es, h => by
    obtain ⟨e, r, rfl, h1, h2, h3⟩ := h
    exact ⟨_, _, rfl, ⟨_, rfl, _, _, rfl, ⟨h1, rfl⟩, _, _, rfl, h2, rfl⟩, RepE.to h3⟩
theorem mpO_rep {M : Mp} {w : World} {cs : List V} {kvs : List (Int × V)} {es : Array MapEntry} (h : mpO cs = some kvs) (hr : RepL M w cs [mapV es]) : RepE M w kvs es.toList := by
  unfold mpO at h
  split at h
  · obtain ⟨x, r, e, ⟨us, h1, h2⟩, _⟩ := hr
    cases e
    cases h1
    obtain ⟨y, r, e, ⟨us, h3, h4⟩, _⟩ := h2
    cases e
    cases h3
    exact RepE.of h (by simpa using h4)
  · cases h
theorem rep_mpV {M : Mp} {w : World} {kvs : List (Int × V)} {es : Array MapEntry} (h : RepE M w kvs es.toList) : RepL M w (mpV kvs) [mapV es] :=
  ⟨_, _, rfl, ⟨_, rfl, _, _, rfl, ⟨_, rfl, by simpa using h.to⟩, rfl⟩, rfl⟩
/-- The box of a map. -/
theorem map_box {b g : Nat} {cs : List V} {kvs : List (Int × V)} (hg : Good B I0 w0 M m w) (h1 : M.β[b]? = some g) (h2 : m.boxes[b]? = some cs) (h3 : mpO cs = some kvs) :
    ∃ es clock, w.heap[g]? = some (.map es clock) ∧ RepE M w kvs es.toList ∧ M.κ b = none := by
  obtain ⟨_, ob, hh, hb⟩ := hg.box b g cs h1 h2
  rcases hb with ⟨_, vs, T, rfl, _, hr, hone⟩ | ⟨_, str, p, rfl, e⟩ | ⟨fam, st, _, _, e⟩ | ⟨hκ, es, c, rfl, _, hr⟩ | ⟨_, e⟩
  · unfold mpO at h3
    split at h3
    · have := isObj_tuple hr hone
      simp [isObj] at this
    · cases h3
  · subst e; simp [mpO] at h3
  · subst e; cases st <;> simp [St.v, mpO] at h3
  · exact ⟨es, c, hh, mpO_rep h3 hr, hκ⟩
  · subst e; simp [deadC, mpO] at h3
theorem find_entry {q : Int} : ∀ {kvs : List (Int × V)} {es : List MapEntry} (j : Nat), RepE M w kvs es →
    (mpAt kvs q = none ∧ Instr.findNow (.int .i64) (.int .i64 q) es j = some none ∧ (∀ v x, Rep M w v x → ∀ k, RepE M w (mpPut kvs q v) (es ++ [⟨.int .i64 q, x, k⟩]))) ∨
    ∃ v i e, mpAt kvs q = some v ∧ Instr.findNow (.int .i64) (.int .i64 q) es j = some (some (j + i, e.val)) ∧ Rep M w v e.val ∧ es[i]? = some e ∧ e.key = .int .i64 q ∧
      (∀ u x, Rep M w u x → RepE M w (mpPut kvs q u) (es.modify i fun e => { e with key := .int .i64 q, val := x }))
  | [], es, j, h => by
    subst h
    exact .inl ⟨rfl, rfl, fun v x hr k => ⟨_, _, rfl, rfl, hr, rfl⟩⟩
  | p :: l, es, j, h => by
    obtain ⟨e, r, rfl, h1, h2, h3⟩ := h
    by_cases hq : p.1 = q
    · refine .inr ⟨p.2, 0, e, by simp [mpAt, hq], by simp [Instr.findNow, Instr.sameNow, h1, hq], h2, rfl, by rw [h1, hq], fun u x hu => ?_⟩
      rw [mpPut, if_pos hq]
      exact ⟨_, _, rfl, rfl, hu, h3⟩
    · have hs : Instr.sameNow (.int .i64) (.int .i64 q) e.key = some false := by simp [Instr.sameNow, h1, Ne.symm hq]
      have ha : mpAt (p :: l) q = mpAt l q := by simp [mpAt, hq]
      have hf : Instr.findNow (.int .i64) (.int .i64 q) (e :: r) j = Instr.findNow (.int .i64) (.int .i64 q) r (j + 1) := by rw [Instr.findNow, hs]
      rw [ha, hf]
      rcases find_entry (q := q) (j + 1) h3 with ⟨k1, k2, k3⟩ | ⟨v, i, e', k1, k2, k3, k4, k5, k6⟩
      · refine .inl ⟨k1, k2, fun v x hr k => ?_⟩
        rw [mpPut, if_neg hq]
        exact ⟨_, _, rfl, h1, h2, k3 v x hr k⟩
      · refine .inr ⟨v, i + 1, e', k1, by rw [k2]; congr 3; omega, k3, by simpa using k4, k5, fun u x hu => ?_⟩
        rw [mpPut, if_neg hq]
        exact ⟨_, _, by simp, h1, h2, k6 u x hu⟩
theorem run_getMap {g c : Nat} {es : Array MapEntry} (h : w.heap[g]? = some (.map es c)) : (getObj g).run P w = .ok (.map es c) w := by
  simp [getObj, Sem.run, h]
theorem run_setMap {g c : Nat} {es : Array MapEntry} {ob : Obj} (h : w.heap[g]? = some (.map es c)) : (setObj g ob).run P w = .ok () (putO w g ob) := by
  simp [setObj, Sem.run, h, putO]
theorem run_checkKey {kt : TypeId} {q : Int} {e : Bool} (h : P.underlying kt = some (.int .i64)) : (Instr.checkKey e 10000 kt (.int .i64 q)).run P w = .ok () w := by
  unfold Instr.checkKey
  simp [run_underlying h]

theorem sound_mkm {T : TypeId} (ho : o.op = .makeMap T none) (hg : Good B I0 w0 M m w) : Sound P o a w M B I0 w0 (.ref .map m.boxes.length) { m with boxes := m.boxes ++ [mpV []] } := by
  have hb := below_alloc_self w (.map #[] 0)
  have hg1 := hg.grow hb
  have hf := hg.fresh (Nat.le_refl _)
  have hE1 := hg.ext hb
  have hg2 := hg1.addBox (g := w.heap.size) (cs := mpV []) (heap_alloc_new w (.map #[] 0)) hg.sizeB hf.1 hf.2.1 hf.2.2 (.inr (.inr (.inr (.inl ⟨hg.κnone, #[], 0, rfl, rfl, rep_mpV rfl⟩))))
  refine ⟨.map (some w.heap.size), _, _, .inl ?_, hE1.trans (Mp.addB_ext M _ _), hg2, ⟨w.heap.size, 0, rfl, Nat.zero_le _, ?_⟩⟩
  · unfold execOp
    rw [ho]
    simp [Instr.makeMap]
  · simp [Mp.addB, Mp.addZ, hg.lβ]
theorem sound_mup {T kt et : TypeId} {x k y : Operand} {x' k' y' : X} {b : Nat} {q : Int} {cs : List V} {kvs : List (Int × V)} (ho : o.op = .mapUpdate T x k y ∨ o.op = .insert T x k y) (hT : P.underlying T = some (.map kt et)) (hk : P.underlying kt = some (.int .i64))
    (hx : compX x = some x') (hk' : compX k = some k') (hy : compX y = some y') (hs : Slots M w n s a) (hg : Good B I0 w0 M m w) (h1 : x'.ev s = .ref .map b) (h2 : k'.ev s = .val (.int .i64 q)) (hb : m.boxes[b]? = some cs) (hc : mpO cs = some kvs) :
    Sound P o a w M B I0 w0 (.tuple []) { m with boxes := m.boxes.set b (mpV (mpPut kvs q (y'.ev s))) } := by
  have k1 := comp_ev hx hs
  have k2 := comp_ev hk' hs
  have k3 := comp_ev hy hs
  rw [h1] at k1
  rw [h2] at k2
  obtain ⟨g, _, k1, _, k4⟩ := k1
  obtain ⟨k2, _⟩ := k2
  obtain ⟨es, clock, hh, hr, hκ⟩ := map_box hg k4 hb hc
  have hblt : b < m.boxes.length := lt_of_some hb
  rcases find_entry (q := q) 0 hr with ⟨f1, f2, f3⟩ | ⟨v, i, e, f1, f2, f3, f4, f5, f6⟩
  · obtain ⟨hg2, hE⟩ := hg.putBox k4 hblt (cs := mpV (mpPut kvs q (y'.ev s))) (ob := .map (es.push ⟨.int .i64 q, a.eval y, clock⟩) (clock + 1)) (by rw [hb]; intro e; cases e; simp [deadC, mpO] at hc) rfl (.inr (.inr (.inr (.inl ⟨hκ, _, _, rfl, rfl, rep_mpV (by simpa using f3 _ _ k3 clock)⟩))))
    refine ⟨undef, _, M, .inr ⟨rfl, ?_⟩, hE, hg2, ⟨#[], rfl, rfl⟩⟩
    unfold execOp
    rcases ho with ho | ho <;> rw [ho] <;> simp [Instr.mapUpdate, k1, k2, Rk.val, run_underlying hT, run_getMap hh, run_checkKey hk, Instr.findKey, run_underlying hk, f2, run_setMap hh]
  · obtain ⟨hg2, hE⟩ := hg.putBox k4 hblt (cs := mpV (mpPut kvs q (y'.ev s))) (ob := .map (es.modify i fun e => { e with key := .int .i64 q, val := a.eval y }) clock) (by rw [hb]; intro e; cases e; simp [deadC, mpO] at hc) rfl (.inr (.inr (.inr (.inl ⟨hκ, _, _, rfl, rfl, rep_mpV (by simpa using f6 _ _ k3)⟩))))
    refine ⟨undef, _, M, .inr ⟨rfl, ?_⟩, hE, hg2, ⟨#[], rfl, rfl⟩⟩
    have f4' : es[i]? = some e := by simpa using f4
    unfold execOp
    rcases ho with ho | ho <;> rw [ho] <;> simp [Instr.mapUpdate, k1, k2, Rk.val, run_underlying hT, run_getMap hh, run_checkKey hk, Instr.findKey, run_underlying hk, f2, f4', f5, Instr.keyThatStays, Instr.sameBits, run_setMap hh]
/-- A zero value, whole. -/
def zV (z : Value) (ts : List (Option Nat)) : V := match z with
  | .agg cs => .agg (mkZ cs.toList ts)
  | v => ((mkZ [v] ts)[0]?).getD (.val v)
theorem zV_rep {M : Mp} {w : World} {z : Value} {ts : List (Option Nat)} (h : z.cells.toList.all plain = true) : Rep M w (zV z ts) z := by
  have key : ∀ v : Value, plain v = true → Rep M w (((mkZ [v] ts)[0]?).getD (.val v)) v := by
    intro v hv
    have h1 := RepL.mkZ (M := M) (w := w) (l := [v]) ts (by simpa using hv)
    cases e : mkZ [v] ts with
    | nil => rw [e] at h1; cases h1
    | cons u l =>
      rw [e] at h1
      obtain ⟨x, r, e1, h2, _⟩ := h1
      cases e1
      exact h2
  unfold zV
  split
  · rename_i cs
    exact ⟨cs, rfl, RepL.mkZ ts (by simpa [Value.cells] using h)⟩
  · rename_i hn
    refine key z ?_
    have : z.cells = #[z] := by
      unfold Value.cells
      split
      · exact absurd rfl (hn _)
      · rfl
    rw [this] at h
    simpa using h
theorem sound_mlk {T kt et : TypeId} {x k : Operand} {x' k' : X} {b : Nat} {q : Int} {cs : List V} {kvs : List (Int × V)} {ok : Bool} {i : TypeInfo} {z : Value} {zv : V} (ho : o.op = .lookup T x k ok) (hT : P.underlying T = some (.map kt et)) (hk : P.underlying kt = some (.int .i64))
    (hi : P.info? et = some i) (hz : i.zero = some z) (hzv : ∀ (M : Mp) (w : World), Rep M w zv z)
    (hx : compX x = some x') (hk' : compX k = some k') (hs : Slots M w n s a) (hg : Good B I0 w0 M m w) (h1 : x'.ev s = .ref .map b) (h2 : k'.ev s = .val (.int .i64 q)) (hb : m.boxes[b]? = some cs) (hc : mpO cs = some kvs) :
    Sound P o a w M B I0 w0 (match mpAt kvs q with
      | some v => if ok = true then .tuple [v, .val (.bool true)] else v
      | none => if ok = true then .tuple [zv, .val (.bool false)] else zv) m := by
  have k1 := comp_ev hx hs
  have k2 := comp_ev hk' hs
  rw [h1] at k1
  rw [h2] at k2
  obtain ⟨g, _, k1, _, k4⟩ := k1
  obtain ⟨k2, _⟩ := k2
  obtain ⟨es, clock, hh, hr, hκ⟩ := map_box hg k4 hb hc
  rcases find_entry (q := q) 0 hr with ⟨f1, f2, f3⟩ | ⟨v, j, e, f1, f2, f3, f4, f5, f6⟩
  · rw [f1]
    refine sound_same hg (x := if ok = true then .tuple #[z, .bool false] else z) ?_ ?_
    · unfold execOp
      rw [ho]
      simp [Instr.lookup, k1, k2, Rk.val, run_underlying hT, run_getMap hh, run_checkKey hk, Instr.findKey, run_underlying hk, f2, zeroValue, typeInfo, hi, hz]
    · cases ok
      · exact hzv M w
      · exact ⟨_, rfl, _, _, rfl, hzv M w, _, _, rfl, ⟨rfl, rfl⟩, rfl⟩
  · rw [f1]
    refine sound_same hg (x := if ok = true then .tuple #[e.val, .bool true] else e.val) ?_ ?_
    · unfold execOp
      rw [ho]
      simp [Instr.lookup, k1, k2, Rk.val, run_underlying hT, run_getMap hh, run_checkKey hk, Instr.findKey, run_underlying hk, f2]
    · cases ok
      · exact f3
      · exact ⟨_, rfl, _, _, rfl, f3, _, _, rfl, ⟨rfl, rfl⟩, rfl⟩
end
end Go.Av
