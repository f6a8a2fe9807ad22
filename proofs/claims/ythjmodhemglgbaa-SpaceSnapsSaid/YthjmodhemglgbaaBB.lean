/-
  AvEq: Structs and arrays of numbers: whether two are the same.
  AvK: From the model's operations to the compact ones: each is sound.
  AvL: Clean values; what a call promises: on clean values, or on the memory that is there.
  AvM: One operation, with its guard, or a call: what it answers, and that this is sound.
  AvW: Objects in boxes: a new one, another state, another family.
  AvMe: Slices that are written: they lie in boxes; and that these operations are sound.
  AvAp: Append to a slice that lies in a box, where it has room, and where it has not.
  AvN: A step of a region is sound.
  AvZ: Boxes and rows that are not needed any more are dropped.
  AvO: Code: its compact form, and what is to be shown of it.
-/
import Derived.Test.YthjmodhemglgbaaBA
import Derived.DeepKeys
import Derived.OrdersIn
import Derived.RangeFuncNested
set_option linter.unusedSimpArgs false
set_option linter.unusedVariables false

namespace Go.Av
open Go.RowKit

def eqF (P : Program) (g : TypeId → Option (List IntKind)) : List Field → Nat → Option (List IntKind)
  | [], _ => some []
  | f :: fs, off => match g f.type with
    | some ks => if f.offset = off ∧ P.cellsOf f.type = ks.length then (eqF P g fs (off + ks.length)).map (ks ++ ·) else none
    | none => none
/-- The kinds of a type's cells, where all are numbers. -/
def eqT (P : Program) : Nat → TypeId → Option (List IntKind)
  | 0, _ => none
  | d + 1, t => match P.underlying t with
    | some (.int k) => some [k]
    | some (.array n e) => match eqT P d e with
      | some ks => if P.cellsOf e = ks.length ∧ P.cellsOf t = n * ks.length then some (List.replicate n ks).flatten else none
      | none => none
    | some (.struct fs) => match eqF P (eqT P d) fs.toList 0 with
      | some ks => if P.cellsOf t = ks.length ∧ fs.all (·.name != "_") = true then some ks else none
      | none => none
    | _ => none
def eqWide (P : Program) (t : TypeId) : Bool := match P.underlying t with
  | some (.struct _) | some (.array _ _) => true
  | _ => false
/-- The kinds; none: they may not be compared so. -/
def eqK (P : Program) (t : TypeId) : Option (List IntKind) :=
  if eqWide P t = true ∧ P.keyTypeAt 5 t = true ∧ P.eqGuardType P.depth t = false then eqT P 5 t else none

def kOk : List IntKind → List Value → Bool
  | [], [] => true
  | k :: ks, .int q n :: vs => decide (q = k) && (Lit.int k n).wf && kOk ks vs
  | _, _ => false
def lit1 : Value → Lit
  | .int k n => .int k n
  | _ => .bool false
theorem kOk_length : ∀ {ks : List IntKind} {vs : List Value}, kOk ks vs = true → vs.length = ks.length
  | [], [], _ => rfl
  | [], _ :: _, h => by simp [kOk] at h
  | _ :: _, [], h => by simp [kOk] at h
  | k :: ks, v :: vs, h => by
    cases v <;> simp only [kOk, Bool.and_eq_true, Bool.false_eq_true] at h
    simp [kOk_length h.2]
theorem kOk_append : ∀ {ks ks' : List IntKind} {vs : List Value}, kOk (ks ++ ks') vs = true → kOk ks (vs.take ks.length) = true ∧ kOk ks' (vs.drop ks.length) = true
  | [], _, vs, h => ⟨by simp [kOk], h⟩
  | k :: ks, ks', [], h => by simp [kOk] at h
  | k :: ks, ks', v :: vs, h => by
    cases v <;> simp only [List.cons_append, kOk, Bool.and_eq_true, Bool.false_eq_true] at h
    obtain ⟨h1, h2⟩ := kOk_append h.2
    exact ⟨by simpa [kOk, h1] using h.1, by simpa using h2⟩
theorem kOk_rep {ks : List IntKind} : ∀ {n : Nat} {vs : List Value}, kOk (List.replicate n ks).flatten vs = true → ∀ i, i < n → kOk ks ((vs.drop (i * ks.length)).take ks.length) = true
  | 0, _, _, i, hi => by omega
  | n + 1, vs, h, i, hi => by
    rw [List.replicate_succ, List.flatten_cons] at h
    obtain ⟨h1, h2⟩ := kOk_append h
    cases i with
    | zero => simpa using h1
    | succ i =>
      have := kOk_rep h2 i (by omega)
      rwa [List.drop_drop, Nat.add_comm, show i * ks.length + ks.length = (i + 1) * ks.length by rw [Nat.add_mul, Nat.one_mul]] at this
theorem range_flat {α : Type} (sz : Nat) (l : List α) : ∀ n, ((List.range n).map fun i => (l.drop (i * sz)).take sz).flatten = l.take (n * sz)
  | 0 => by simp
  | n + 1 => by
    rw [List.range_succ, List.map_append, List.flatten_append, range_flat sz l n, Nat.add_mul, Nat.one_mul, List.take_add]
    simp
theorem mapM_all {α β : Type} {f : α → Option β} {g : α → β} : ∀ {l : List α}, (∀ x ∈ l, f x = some (g x)) → l.mapM f = some (l.map g)
  | [], _ => rfl
  | x :: l, h => by
    rw [List.mapM_cons, h x (List.mem_cons_self ..), mapM_all (fun y hy => h y (List.mem_cons_of_mem _ hy))]
    rfl
theorem eqF_lits {P : Program} {d : Nat} (ih : ∀ {t : TypeId} {ks : List IntKind} {cs : List Value}, eqT P d t = some ks → kOk ks cs = true → P.keyLits d t cs = some (cs.map lit1)) (cs : List Value) :
    ∀ {fs : List Field} {off : Nat} {ks : List IntKind}, eqF P (eqT P d) fs off = some ks → kOk ks (cs.drop off) = true →
      ∃ L, (fs.mapM fun f => P.keyLits d f.type ((cs.drop f.offset).take (P.cellsOf f.type))) = some L ∧ L.flatten = (cs.drop off).map lit1
  | [], off, ks, h, hk => by
    simp only [eqF, Option.some.injEq] at h
    subst h
    have := kOk_length hk
    exact ⟨[], rfl, by rw [List.eq_nil_of_length_eq_zero this]; rfl⟩
  | f :: fs, off, ks, h, hk => by
    simp only [eqF] at h
    split at h
    · rename_i ks1 h1
      split at h
      · rename_i hc
        simp only [Option.map_eq_some_iff] at h
        obtain ⟨ks2, h2, rfl⟩ := h
        obtain ⟨k1, k2⟩ := kOk_append hk
        rw [List.drop_drop] at k2
        obtain ⟨L, e1, e2⟩ := eqF_lits ih cs h2 k2
        refine ⟨((cs.drop off).take ks1.length).map lit1 :: L, ?_, ?_⟩
        · rw [List.mapM_cons, hc.1, hc.2, ih h1 k1, e1]
          rfl
        · rw [List.flatten_cons, e2, ← List.map_append, ← List.drop_drop, List.take_append_drop]
      · cases h
    · cases h
theorem eqT_lits {P : Program} : ∀ {d : Nat} {t : TypeId} {ks : List IntKind} {cs : List Value}, eqT P d t = some ks → kOk ks cs = true → P.keyLits d t cs = some (cs.map lit1)
  | 0, _, _, _, h, _ => by simp [eqT] at h
  | d + 1, t, ks, cs, h, hk => by
    simp only [eqT] at h
    unfold Program.keyLits
    split at h
    · rename_i k hu
      cases h
      rw [hu]
      have hl := kOk_length hk
      obtain ⟨v, rfl⟩ : ∃ v, cs = [v] := by
        cases cs with
        | nil => simp at hl
        | cons v r => cases r with
          | nil => exact ⟨v, rfl⟩
          | cons _ _ => simp at hl
      cases v <;> simp [kOk] at hk
      rename_i q n
      obtain ⟨rfl, hw⟩ := hk
      simp [hw, lit1]
    · rename_i n e hu
      rw [hu]
      split at h
      · rename_i ks1 h1
        split at h
        · rename_i hc
          cases h
          have hl := kOk_length hk
          have hl2 : cs.length = n * ks1.length := by simpa using hl
          simp only
          rw [if_pos (by rw [hl2, hc.2]), hc.1]
          rw [mapM_all (g := fun i => ((cs.drop (i * ks1.length)).take ks1.length).map lit1) (fun i hi => eqT_lits h1 (kOk_rep hk i (List.mem_range.1 hi)))]
          have hmm : ((List.range n).map fun i => ((cs.drop (i * ks1.length)).take ks1.length).map lit1) = ((List.range n).map fun i => (cs.drop (i * ks1.length)).take ks1.length).map (List.map lit1) := by simp
          rw [Option.map_some, hmm, ← List.map_flatten, range_flat, List.take_of_length_le (by omega)]
        · cases h
      · cases h
    · rename_i fs hu
      rw [hu]
      split at h
      · rename_i ks1 h1
        split at h
        · rename_i hc
          cases h
          have hl := kOk_length hk
          obtain ⟨L, e1, e2⟩ := eqF_lits (fun h hk => eqT_lits h hk) cs (off := 0) h1 (by simpa using hk)
          simp only
          rw [if_pos ⟨by omega, hc.2⟩, e1, Option.map_some, e2]
          rfl
        · cases h
      · cases h
    · cases h
theorem eqT_cells {P : Program} {d : Nat} {t : TypeId} {ks : List IntKind} (h : eqT P d t = some ks) (hw : eqWide P t = true) : P.cellsOf t = ks.length := by
  cases d with
  | zero => simp [eqT] at h
  | succ d =>
    simp only [eqT] at h
    unfold eqWide at hw
    split at h
    · rename_i hu; simp [hu] at hw
    · split at h
      · split at h
        · rename_i hc; cases h; simp [hc.2]
        · cases h
      · cases h
    · split at h
      · split at h
        · rename_i hc; cases h; exact hc.1
        · cases h
      · cases h
    · cases h

theorem intsOf_rep {M : Mp} {w : World} : ∀ {ks : List IntKind} {l : List V} {a : List Int} {vs : List Value}, intsOf ks l = some a → RepL M w l vs → kOk ks vs = true ∧ vs.map lit1 = List.zipWith Lit.int ks a ∧ a.length = ks.length
  | [], [], a, vs, h, hr => by
    simp only [intsOf, Option.some.injEq] at h
    subst h
    simp only [RepL] at hr
    subst hr
    exact ⟨rfl, rfl, rfl⟩
  | [], v :: l, a, vs, h, hr => by simp [intsOf] at h
  | k :: ks, l, a, vs, h, hr => by
    unfold intsOf at h
    split at h
    · rename_i e; cases e
    · rename_i k1 ks1 q n l1 e
      cases e
      split at h
      · rename_i hc
        obtain ⟨rfl, hw⟩ := hc
        simp only [Option.map_eq_some_iff] at h
        obtain ⟨a1, h1, rfl⟩ := h
        obtain ⟨x, r, rfl, ⟨rfl, _⟩, hr2⟩ := hr
        obtain ⟨j1, j2, j3⟩ := intsOf_rep h1 hr2
        exact ⟨by simp [kOk, hw, j1], by simp [lit1, j2], by simp [j3]⟩
      · cases h
    · cases h
theorem zip_inj : ∀ {ks : List IntKind} {a b : List Int}, a.length = ks.length → b.length = ks.length → (List.zipWith Lit.int ks a = List.zipWith Lit.int ks b ↔ a = b)
  | [], [], [], _, _ => by simp
  | [], _ :: _, _, h, _ => by simp at h
  | [], _, _ :: _, _, h => by simp at h
  | _ :: _, [], _, h, _ => by simp at h
  | _ :: _, _, [], _, h => by simp at h
  | k :: ks, x :: a, y :: b, h1, h2 => by
    simp only [List.zipWith_cons_cons, List.cons.injEq, Lit.int.injEq, true_and]
    rw [zip_inj (by simpa using h1) (by simpa using h2)]

section
variable {P : Program} {o : Oper} {a : Act} {w : World} {M : Mp} {m : Mem} {n : Nat} {s : Nat → V} {B : Nat} {I0 : Nat → Nat → Prop} {w0 : World}
theorem sound_aeq {op : BinOp} {t ty : TypeId} {x y : Operand} {x' y' : X} {ne : Bool} {ks : List IntKind} {l1 l2 : List V} {p q : List Int} (ho : o.op = .binOp op t x y ty) (hop : op = if ne = true then .neq else .eql) (hk : eqK P t = some ks)
    (hx : compX x = some x') (hy : compX y = some y') (hs : Slots M w n s a) (hg : Good B I0 w0 M m w)
    (h1 : x'.ev s = .agg l1) (h2 : y'.ev s = .agg l2) (e1 : intsOf ks l1 = some p) (e2 : intsOf ks l2 = some q) : Sound P o a w M B I0 w0 (.val (.bool (if ne = true then !decide (p = q) else decide (p = q)))) m := by
  have k1 := comp_ev hx hs
  have k2 := comp_ev hy hs
  rw [h1] at k1
  rw [h2] at k2
  obtain ⟨xs, k1, r1⟩ := k1
  obtain ⟨ys, k2, r2⟩ := k2
  unfold eqK at hk
  split at hk
  · rename_i hc
    obtain ⟨hw, hkt, hgt⟩ := hc
    obtain ⟨a1, a2, a3⟩ := intsOf_rep e1 r1
    obtain ⟨b1, b2, b3⟩ := intsOf_rep e2 r2
    have hcl := eqT_cells hk hw
    have hf : ∀ zs : Array Value, kOk ks zs.toList = true → (Value.agg zs).formed P t = true := fun zs hz => by
      have := kOk_length hz
      unfold eqWide at hw
      simp only [Value.formed]
      split at hw
      · rename_i hu; simp only [hu]; simpa [hcl] using this
      · rename_i hu; simp only [hu]; simpa [hcl] using this
      · cases hw
    obtain ⟨r, hr, hiff⟩ := run_equalIn_deep (P := P) 9995 5 t hkt w 5 5 (.agg xs) (.agg ys) _ _ (hf xs a1) (hf ys b1) (eqT_lits hk a1) (eqT_lits hk b1)
    have hiff' : r = decide (p = q) := by
      simp only [Value.cells] at hiff
      rw [a2, b2, zip_inj a3 b3] at hiff
      cases r <;> simp_all
    subst hiff'
    have hgd := run_eqGuard_agg (P := P) w op t x y xs ys hgt
    refine sound_same hg (x := .bool (if ne = true then !decide (p = q) else decide (p = q))) ?_ ⟨rfl, rfl⟩
    unfold execOp
    rw [ho]
    subst hop
    cases ne
    · simp only [Bool.false_eq_true, if_false] at hgd ⊢
      simp [k1, k2, hgd, run_eql_struct, hr]
    · simp only [if_true] at hgd ⊢
      simp [k1, k2, hgd, run_neq_struct, hr]
  · cases hk
end
end Go.Av

namespace Go.Av
open Go.RowKit

def isNilConst : Operand → Bool
  | .const (.slice none 0 0) => true
  | _ => false
def isNilCells : List Value → Bool
  | [.slice none 0 0] => true
  | _ => false
theorem isNilCells_eq {l : List Value} (h : isNilCells l = true) : l = [.slice none 0 0] := by
  unfold isNilCells at h
  split at h
  · rfl
  · cases h
theorem isNilConst_eq {x : Operand} (h : isNilConst x = true) : x = .const (.slice none 0 0) := by
  unfold isNilConst at h
  split at h
  · rfl
  · cases h

/-- A nil of a slice's type. -/
def nilT (P : Program) (ty : TypeId) (own : Bool) : Option K := match P.underlying ty with
  | some (.slice e) => match P.info? e with
    | some i => some (.nil e i.size own)
    | none => none
  | _ => none
/-- Zero values of slices as they are. -/
def exT (own : Nat → Bool) (d : Option Nat) : Bool := match d with
  | some d => !own (d + 2097152)
  | none => false
/-- The compact form of an operation; none: it has none. 'own': a new slice is a row of its own. -/
def compK (P : Program) (own ex : Bool) (ty : TypeId) (op : Op) : Option K :=
  match op with
  | .move x | .assign x => match (if isNilConst x = true then nilT P ty own else none) with
    | some k => some k
    | none => (compX x).map .mov
  | .pick c x y => match compX c, compX x, compX y with
    | some c', some x', some y' => some (.pick c' x' y')
    | _, _, _ => none
  | .binOp op t x y _ => match compX x, compX y with
    | some x', some y' => match P.underlying t with
      | some .bool => match op with
        | .eql => some (.beq false x' y')
        | .neq => some (.beq true x' y')
        | _ => none
      | some (.slice _) => if isNilConst y = true then (match op with
        | .eql => some (.snil false x')
        | .neq => some (.snil true x')
        | _ => none) else none
      | some (.struct _) => match eqK P t, op with
        | some ks, .eql => some (.mem (.aeq false ks) [x', y'])
        | some ks, .neq => some (.mem (.aeq true ks) [x', y'])
        | _, _ => none
      | _ => some (.bin op x' y')
    | _, _ => none
  | .unOp op _ x => match op with
    | .not => (compX x).map (.un .not)
    | .neg => (compX x).map (.un .neg)
    | _ => none
  | .convert src dst x => match compX x, P.underlying src, P.underlying dst with
    | some x', some _, some (.int k) => some (.conv k x')
    | some x', some (.slice e), some .string => match P.underlying e with
      | some (.int .u8) => some (.b2s x')
      | _ => none
    | _, _, _ => none
  | .extract x i => (compX x).map (.ext · i)
  | .fieldAddr T x f => match compX x, P.underlying T with
    | some x', some (.struct fs) => match fs[f]? with
      | some fd => match P.info? fd.type with
        | some i => if i.size = 0 then none else some (.fad x' fd.offset)
        | none => none
      | none => none
    | _, _ => none
  | .load T x => match compX x, P.underlying T, P.info? T with
    | some x', some _, some i => some (.ld x' (if aggT P T = true then some i.size else none))
    | _, _, _ => none
  | .store T x y => match compX x, compX y, P.info? T with
    | some x', some y', some i => some (.st x' i.size y')
    | _, _, _ => none
  | .indexAddr T x y => match compX x, compX y, P.underlying T with
    | some x', some y', some (.slice e) => (P.info? e).map fun i => .ixs x' y' i.size
    | some x', some y', some (.array n e) => (P.info? e).map fun i => .ixa x' y' n i.size
    | _, _, _ => none
  | .field T x f => match compX x, P.underlying T with
    | some x', some (.struct fs) => match fs[f]? with
      | some fd => match P.underlying fd.type, P.info? fd.type with
        | some _, some i => some (.fld x' fd.offset (if aggT P fd.type = true then some i.size else none))
        | _, _ => none
      | none => none
    | _, _ => none
  | .slice T x lo hi mx => match compX x, compO lo, compO hi, compO mx, P.underlying T with
    | some x', some lo', some hi', some mx', some (.slice e) => match P.info? e with
      | some i => if mx.isSome = true ∧ hi.isSome = false then none else some (.slc x' lo' hi' mx' i.size)
      | none => none
    | _, _, _, _, _ => none
  | .box _ x => (compX x).map .box
  | .alloc T => match P.info? T with
    | some i => match i.zero with
      | some z => match (if own = true then P.underlying T else none) with
        | some (.slice e) => match P.info? e with
          | some ie => if isNilCells z.cells.toList = true then some (.alr e ie.size) else none
          | none => none
        | _ => if z.cells.toList.all plain = true then some (.alc (mkZ z.cells.toList (if ex = true then [] else cellTs P 8 T))) else none
      | none => none
    | none => none
  | .build T parts => match placeOf P T with
    | some (z, pl) => if z.all plain = true then (compParts pl parts.toList).map (.bld (mkZ z (if ex = true then [] else cellTs P 8 T))) else none
    | none => none
  | .buildSlice T len parts => match P.underlying T, compXs (parts.toList.map (·.2)) with
    | some (.slice e), some xs => match P.info? e with
      | some i => match i.zero with
        | some _ => if 0 < i.size ∧ parts.toList.map (·.1) = List.range' 0 len ∧ len * i.size ≤ 2 ^ 24 then some (.mkl e i.size xs own) else none
        | none => none
      | none => none
    | _, _ => none
  | .makeSlice T x y => match compX x, compX y, P.underlying T with
    | some x', some y', some (.slice e) => match P.info? e with
      | some i => match i.zero with
        | some z => if z.cells.size = i.size ∧ 0 < i.size ∧ 0 < i.bytes ∧ z.cells.toList.all plain = true then some (.mks x' y' e i.size i.bytes (mkZ z.cells.toList (cellTs P 8 e)) own) else none
        | none => none
      | none => none
    | _, _, _ => none
  | .makeFunc (.func f) first caps => if first.isEmpty = true then (compXs caps.toList).map (.mkf f) else none
  | .call { callee := .builtin b, args := args, argTypes := tys } => match b, args.toList, tys.toList with
    | .len, [x], [T] => match compX x, P.underlying T with
      | some x', some (.slice _) => some (.len x')
      | some x', some .string => some (.slen x')
      | _, _ => none
    | .append, [x, y], [t, t'] => match compX x, compX y, P.underlying t with
      | some x', some y', some (.slice e) => match P.info? e with
        | some i => match i.zero with
          | some z => if t = t' ∧ z.cells.size = i.size ∧ 0 < i.bytes then some (.app x' y' e i.size i.bytes own) else none
          | none => none
        | none => none
      | _, _, _ => none
    | .max, [x, y], _ => match compX x, compX y with
      | some x', some y' => some (.mm true x' y')
      | _, _ => none
    | .min, [x, y], _ => match compX x, compX y with
      | some x', some y' => some (.mm false x' y')
      | _, _ => none
    | _, _, _ => none
  | .call { callee := .value (.func f), args := args, argTypes := _ } => (compXs args.toList).map (.call f)
  | .call { callee := .value (.tmp t), args := args, argTypes := _ } => (compXs args.toList).map (.callv (.t t))
  | .index T x y => match compX x, compX y, P.underlying T with
    | some x', some y', some .string => some (.sidx x' y')
    | _, _, _ => none
  | .range T x => match compX x, P.underlying T with
    | some x', some .string => some (.srg x')
    | _, _ => none
  | .next x true => (compX x).map .snx
  | .makeMap _ none => some .mkm
  | .mapUpdate T x k y => match P.underlying T, compX x, compX k, compX y with
    | some (.map kt _), some x', some k', some y' => match P.underlying kt with
      | some (.int .i64) => some (.mup x' k' y')
      | _ => none
    | _, _, _, _ => none
  | .lookup T x k ok => match P.underlying T, compX x, compX k with
    | some (.map kt et), some x', some k' => match P.underlying kt, P.info? et with
      | some (.int .i64), some i => match i.zero with
        | some z => if z.cells.toList.all plain = true then some (.mlk x' k' (zV z (cellTs P 8 et)) ok) else none
        | none => none
      | _, _ => none
    | _, _, _ => none
  | _ => none

section
variable {P : Program} {o : Oper} {a : Act} {w w' : World} {M : Mp} {m : Mem} {n : Nat} {s : Nat → V} {B : Nat} {I0 : Nat → Nat → Prop} {w0 : World}

theorem sound_lens {T e : TypeId} {x : Operand} {x' : X} {v : V} {m' : Mem} (ho : o.op = .call { callee := .builtin .len, args := #[x], argTypes := #[T] }) (hT : P.underlying T = some (.slice e))
    (hx : compX x = some x') (hs : Slots M w n s a) (hg : Good B I0 w0 M m w) (h : kindE (.len x') s m = some (v, m')) : Sound P o a w M B I0 w0 v m' := by
  have k1 := comp_ev hx hs
  simp only [kindE] at h
  have hrun : ∀ (b : Option Addr) (q c : Nat), a.eval x = .slice b q c → (execOp a.eval o).run P w = .ok (.value (.int .i64 q)) w := fun b q c hv => by
    unfold execOp
    rw [ho]
    simp [resolve, invoke, builtin, hv, Builtin.len_, run_underlying hT, goInt]
  split at h
  · rename_i sz xs e1
    cases h
    rcases elems_rep k1 e1 with ⟨rfl, k1⟩ | ⟨ad, c, k1, _⟩
    · exact sound_same hg (hrun _ _ _ k1) ⟨rfl, rfl⟩
    · exact sound_same hg (hrun _ _ _ k1) ⟨rfl, rfl⟩
  · split at h
    · rename_i e1
      rw [e1] at k1
      cases h
      exact sound_same hg (hrun _ _ _ k1.1) ⟨rfl, rfl⟩
    · cases h

theorem sound_slen {T : TypeId} {x : Operand} {x' : X} {v : V} {m' : Mem} (ho : o.op = .call { callee := .builtin .len, args := #[x], argTypes := #[T] }) (hT : P.underlying T = some .string)
    (hx : compX x = some x') (hs : Slots M w n s a) (hg : Good B I0 w0 M m w) (h : kindE (.slen x') s m = some (v, m')) : Sound P o a w M B I0 w0 v m' := by
  have k1 := comp_ev hx hs
  simp only [kindE] at h
  split at h
  · rename_i b e1
    rw [e1] at k1
    obtain ⟨k1, _⟩ := k1
    cases h
    refine sound_same hg (x := .int .i64 b.size) ?_ ⟨rfl, rfl⟩
    unfold execOp
    rw [ho]
    simp [resolve, invoke, builtin, k1, Builtin.len_, run_underlying hT, goInt]
  · cases h

theorem kind_sound {own ex : Bool} {k : K} {v : V} {m' : Mem} {ty : TypeId} (hc : compK P own ex ty o.op = some k) (hs : Slots M w n s a) (hg : Good B I0 w0 M m w) (h : kindE k s m = some (v, m')) : Sound P o a w M B I0 w0 v m' := by
  generalize hop : o.op = op at hc
  unfold compK at hc
  split at hc
  case h_1 x =>
    split at hc
    · rename_i k' e
      cases hc
      split at e
      · rename_i hn
        have hx := isNilConst_eq hn
        subst hx
        unfold nilT at e
        split at e
        · split at e <;> cases e
          rename_i ie _
          simp only [kindE] at h
          obtain ⟨rfl, rfl⟩ : (newV own m _ ie.size []).1 = v ∧ (newV own m _ ie.size []).2 = m' := by rw [Option.some.inj h]; exact ⟨rfl, rfl⟩
          exact sound_nil own (.inl hop) hg
        · cases e
      · cases e
    · simp only [Option.map_eq_some_iff] at hc
      obtain ⟨x', hx, rfl⟩ := hc
      simp only [kindE, Option.some.injEq, Prod.mk.injEq] at h
      obtain ⟨rfl, rfl⟩ := h
      exact sound_mov (.inl hop) hx hs hg
  case h_2 x =>
    split at hc
    · rename_i k' e
      cases hc
      split at e
      · rename_i hn
        have hx := isNilConst_eq hn
        subst hx
        unfold nilT at e
        split at e
        · split at e <;> cases e
          rename_i ie _
          simp only [kindE] at h
          obtain ⟨rfl, rfl⟩ : (newV own m _ ie.size []).1 = v ∧ (newV own m _ ie.size []).2 = m' := by rw [Option.some.inj h]; exact ⟨rfl, rfl⟩
          exact sound_nil own (.inr hop) hg
        · cases e
      · cases e
    · simp only [Option.map_eq_some_iff] at hc
      obtain ⟨x', hx, rfl⟩ := hc
      simp only [kindE, Option.some.injEq, Prod.mk.injEq] at h
      obtain ⟨rfl, rfl⟩ := h
      exact sound_mov (.inr hop) hx hs hg
  case h_3 c x y =>
    split at hc <;> cases hc
    rename_i c' x' y' h1 h2 h3
    simp only [kindE] at h
    split at h <;> cases h
    rename_i t ht
    exact sound_pick hop h1 h2 h3 hs hg ht
  case h_4 bop t x y ty =>
    split at hc
    · rename_i x' y' h1 h2
      split at hc
      · rename_i ht
        split at hc <;> cases hc
        · simp only [kindE] at h
          split at h <;> cases h
          rename_i p q e1 e2
          exact sound_beq (ne := false) hop rfl ht h1 h2 hs hg e1 e2
        · simp only [kindE] at h
          split at h <;> cases h
          rename_i p q e1 e2
          exact sound_beq (ne := true) hop rfl ht h1 h2 hs hg e1 e2
      · rename_i e ht
        split at hc
        · rename_i hn
          have hy := isNilConst_eq hn
          subst hy
          split at hc <;> cases hc
          · simp only [kindE] at h
            split at h <;> cases h <;> exact sound_snil (ne := false) hop rfl ht h1 hs hg (by simp_all)
          · simp only [kindE] at h
            split at h <;> cases h <;> exact sound_snil (ne := true) hop rfl ht h1 hs hg (by simp_all)
        · cases hc
      · split at hc <;> cases hc
        · rename_i hk
          simp only [kindE, memE, List.map_cons, List.map_nil] at h
          split at h
          · rename_i l1 l2 e1
            simp only [List.cons.injEq, and_true] at e1
            split at h <;> cases h
            rename_i p q e2 e3
            exact sound_aeq (ne := false) hop rfl hk h1 h2 hs hg e1.1 e1.2 e2 e3
          · cases h
        · rename_i hk
          simp only [kindE, memE, List.map_cons, List.map_nil] at h
          split at h
          · rename_i l1 l2 e1
            simp only [List.cons.injEq, and_true] at e1
            split at h <;> cases h
            rename_i p q e2 e3
            exact sound_aeq (ne := true) hop rfl hk h1 h2 hs hg e1.1 e1.2 e2 e3
          · cases h
      · cases hc
        simp only [kindE, Option.map_eq_some_iff, Prod.mk.injEq] at h
        obtain ⟨r, hr, rfl, rfl⟩ := h
        exact sound_bin hop h1 h2 hs hg hr
    · cases hc
  case h_5 uop t x =>
    split at hc
    · simp only [Option.map_eq_some_iff] at hc
      obtain ⟨x', hx, rfl⟩ := hc
      simp only [kindE] at h
      split at h <;> cases h
      · rename_i p e; exact sound_not hop hx hs hg e
      · rename_i e1 e2; cases e1
    · simp only [Option.map_eq_some_iff] at hc
      obtain ⟨x', hx, rfl⟩ := hc
      simp only [kindE] at h
      split at h <;> cases h
      · rename_i e1 e2; cases e1
      · rename_i k q e; exact sound_neg hop hx hs hg e
    · cases hc
  case h_6 src dst x =>
    split at hc
    · cases hc
      rename_i x' d k h1 h2 h3
      simp only [kindE, Option.map_eq_some_iff] at h
      obtain ⟨r, h, e⟩ := h
      cases e
      exact sound_conv hop (by rw [h2]; rfl) h3 h1 hs hg h
    · rename_i x' e h1 h2 h3
      split at hc <;> cases hc
      rename_i h4
      exact sound_b2s hop h2 h3 h4 h1 hs hg h
    · cases hc
  case h_7 x i =>
    simp only [Option.map_eq_some_iff] at hc
    obtain ⟨x', hx, rfl⟩ := hc
    simp only [kindE] at h
    split at h
    · rename_i l e
      simp only [Option.map_eq_some_iff, Prod.mk.injEq] at h
      obtain ⟨r, hr, rfl, rfl⟩ := h
      exact sound_ext hop hx hs hg e hr
    · cases h
  case h_8 T x f =>
    split at hc
    · rename_i x' fs h1 h2
      split at hc
      · rename_i fd hf
        split at hc
        · rename_i i hi
          split at hc <;> cases hc
          rename_i h0
          simp only [kindE] at h
          split at h <;> cases h <;> exact sound_fad hop h2 hf hi h0 h1 hs hg (by simp_all)
        · cases hc
      · cases hc
    · cases hc
  case h_9 T x =>
    split at hc
    · cases hc
      rename_i x' d i h1 h2 h3
      cases hagg : aggT P T with
      | false =>
        simp only [hagg, kindE] at h
        split at h
        · rename_i cs e1 e2
          simp only [Option.map_eq_some_iff, Prod.mk.injEq] at h
          obtain ⟨r, hr, rfl, rfl⟩ := h
          exact sound_ld1 hop h2 hagg h1 hs hg e1 hr
        · rename_i e2; simp at e2
        · cases h
      | true =>
        simp only [hagg, kindE, if_true] at h
        split at h
        · rename_i e2; simp at e2
        · rename_i cs k e1 e2
          cases e2
          split at h <;> cases h
          rename_i hle
          exact sound_ldn hop h2 hagg h3 h1 hs hg e1 hle
        · cases h
    · cases hc
  case h_10 T x y =>
    split at hc
    · cases hc
      rename_i x' y' i h1 h2 h3
      simp only [kindE] at h
      split at h
      · rename_i b q e1
        split at h
        · rename_i cs e2
          split at h <;> cases h
          rename_i hcond
          exact sound_st hop h3 h1 h2 hs hg e1 e2 hcond.1 hcond.2.1 hcond.2.2.1 hcond.2.2.2
        · cases h
      · cases h
    · cases hc
  case h_11 T x y =>
    split at hc
    · rename_i x' y' e h1 h2 h3
      simp only [Option.map_eq_some_iff] at hc
      obtain ⟨i, hi, rfl⟩ := hc
      simp only [kindE] at h
      split at h
      · rename_i sz' xs k q e1 e2
        split at h
        · rename_i hcond
          obtain ⟨rfl, h0⟩ := hcond
          simp only [Option.map_eq_some_iff, Prod.mk.injEq] at h
          obtain ⟨cs, hcs, rfl, rfl⟩ := h
          exact sound_ixs hop h3 hi h1 h2 hs hg e1 e2 h0 hcs
        · cases h
      · cases h
    · rename_i x' y' len e h1 h2 h3
      simp only [Option.map_eq_some_iff] at hc
      obtain ⟨i, hi, rfl⟩ := hc
      simp only [kindE] at h
      split at h
      · rename_i b off k q e1 e2
        split at h <;> cases h
        rename_i hcond
        exact sound_ixa hop h3 hi h1 h2 hs hg e1 e2 hcond.1 hcond.2
      · cases h
    · cases hc
  case h_12 T x f =>
    split at hc
    · rename_i x' fs h1 h2
      split at hc
      · rename_i fd hf
        split at hc
        · cases hc
          rename_i d i hd hi
          cases hagg : aggT P fd.type with
          | false =>
            simp only [hagg, kindE] at h
            split at h
            · rename_i l e1 e2
              simp only [Option.map_eq_some_iff, Prod.mk.injEq] at h
              obtain ⟨r, hr, rfl, rfl⟩ := h
              exact sound_fld1 hop h2 hf hd hagg h1 hs hg e1 hr
            · rename_i e2; simp at e2
            · cases h
          | true =>
            simp only [hagg, kindE, if_true] at h
            split at h
            · rename_i e2; simp at e2
            · rename_i l k e1 e2
              cases e2
              split at h <;> cases h
              rename_i hle
              exact sound_fldn hop h2 hf hd hagg hi h1 hs hg e1 hle
            · cases h
        · cases hc
      · cases hc
    · cases hc
  case h_13 T x lo hi mx =>
    split at hc
    · rename_i x' lo' hi' mx' e h1 h2 h3 h4 h5
      split at hc
      · rename_i i h6
        split at hc <;> cases hc
        rename_i hm
        exact sound_slc hop h5 h6 h1 h2 h3 h4 (fun hmx => by
          cases hh : hi with
          | none => exact absurd ⟨hmx, by simp [hh]⟩ hm
          | some _ => rfl) hs hg h
      · cases hc
    · cases hc
  case h_14 T x =>
    simp only [Option.map_eq_some_iff] at hc
    obtain ⟨x', hx, rfl⟩ := hc
    simp only [kindE] at h
    split at h <;> cases h
    rename_i h1
    exact sound_box hop hx hs hg h1
  case h_15 T =>
    split at hc
    · rename_i i hi
      split at hc
      · rename_i z hz
        split at hc
        · split at hc
          · split at hc <;> cases hc
            rename_i hp
            simp only [kindE, Option.some.injEq, Prod.mk.injEq] at h
            obtain ⟨rfl, rfl⟩ := h
            exact sound_alr hop hi hz (isNilCells_eq hp) hg
          · cases hc
        · split at hc <;> cases hc
          rename_i hp
          simp only [kindE, Option.some.injEq, Prod.mk.injEq] at h
          obtain ⟨rfl, rfl⟩ := h
          exact sound_alc _ hop hi hz hp hg
      · cases hc
    · cases hc
  case h_16 T parts =>
    split at hc
    · rename_i z pl hT
      split at hc
      · rename_i hz
        simp only [Option.map_eq_some_iff] at hc
        obtain ⟨ps, hps, rfl⟩ := hc
        simp only [kindE] at h
        split at h
        · rename_i hps2
          simp only [Option.map_eq_some_iff, Prod.mk.injEq] at h
          obtain ⟨r, hr, rfl, rfl⟩ := h
          exact sound_bld _ hop hT hz hps hs hg hr (fun p hp => one_tuple (List.all_eq_true.1 hps2 p hp))
        · cases h
      · cases hc
    · cases hc
  case h_17 T len parts =>
    split at hc
    · rename_i e xs h1 h2
      split at hc
      · rename_i i hi
        split at hc
        · rename_i z hz
          split at hc <;> cases hc
          rename_i hcond
          simp only [kindE] at h
          split at h
          · rename_i hall
            obtain ⟨rfl, rfl⟩ : (newV own m e i.size (xs.map fun x => (x.ev s).cells)).1 = v ∧ (newV own m e i.size (xs.map fun x => (x.ev s).cells)).2 = m' := by rw [Option.some.inj h]; exact ⟨rfl, rfl⟩
            exact sound_mkl own hop h1 hi hz hcond.1 hcond.2.1 hcond.2.2 h2 hs hg hall
          · cases h
        · cases hc
      · cases hc
    · cases hc
  case h_18 T x y =>
    split at hc
    · rename_i x' y' e h1 h2 h3
      split at hc
      · rename_i i hi
        split at hc
        · rename_i z hz
          split at hc <;> cases hc
          rename_i hcond
          simp only [kindE] at h
          split at h
          · rename_i p q e1 e2
            split at h
            · rename_i hq
              obtain ⟨rfl, q0, qb⟩ := hq
              obtain ⟨rfl, rfl⟩ : (newV own m e i.size (List.replicate p.toNat (mkZ z.cells.toList (cellTs P 8 e)))).1 = v ∧ (newV own m e i.size (List.replicate p.toNat (mkZ z.cells.toList (cellTs P 8 e)))).2 = m' := by rw [Option.some.inj h]; exact ⟨rfl, rfl⟩
              have hp : p ≤ 140737488355328 := Int.le_trans (Int.le_trans (by rw [Int.mul_one]; exact Int.le_refl _) (Int.mul_le_mul_of_nonneg_left (show (1 : Int) ≤ i.bytes by have := hcond.2.2.1; omega) q0)) qb
              exact sound_mks own _ hop h3 hi hz hcond.1 hcond.2.1 hcond.2.2.2 h1 h2 hs hg e1 e2 q0 qb (by omega)
            · cases h
          · cases h
        · cases hc
      · cases hc
    · cases hc
  case h_19 f first caps =>
    split at hc
    · rename_i hfe
      have hf0 : first = #[] := by simpa using hfe
      subst hf0
      simp only [Option.map_eq_some_iff] at hc
      obtain ⟨caps', hcs, rfl⟩ := hc
      simp only [kindE, Option.some.injEq, Prod.mk.injEq] at h
      obtain ⟨rfl, rfl⟩ := h
      exact sound_mkf hop hcs hs hg
    · cases hc
  case h_20 b args tys =>
    split at hc
    · rename_i x T ea et
      obtain rfl : args = #[x] := by apply Array.ext'; simpa using ea
      obtain rfl : tys = #[T] := by apply Array.ext'; simpa using et
      split at hc <;> cases hc
      · rename_i x' e h1 h2
        exact sound_lens hop h2 h1 hs hg h
      · rename_i x' h1 h2
        exact sound_slen hop h2 h1 hs hg h
    · rename_i x y t t' ea et
      obtain rfl : args = #[x, y] := by apply Array.ext'; simpa using ea
      obtain rfl : tys = #[t, t'] := by apply Array.ext'; simpa using et
      split at hc
      · rename_i x' y' e h1 h2 h3
        split at hc
        · rename_i i hi
          split at hc
          · rename_i z hz
            split at hc <;> cases hc
            rename_i hcond
            obtain ⟨rfl, hzs, hb0⟩ := hcond
            exact sound_app own hop h3 hi hz hzs hb0 h1 h2 hs hg h
          · cases hc
        · cases hc
      · cases hc
    · rename_i x y ea
      obtain rfl : args = #[x, y] := by apply Array.ext'; simpa using ea
      split at hc <;> cases hc
      rename_i x' y' h1 h2
      simp only [kindE] at h
      split at h <;> cases h
      rename_i k p k' q e1 e2
      exact sound_mm (mx := true) hop h1 h2 hs hg e1 e2
    · rename_i x y ea
      obtain rfl : args = #[x, y] := by apply Array.ext'; simpa using ea
      split at hc <;> cases hc
      rename_i x' y' h1 h2
      simp only [kindE] at h
      split at h <;> cases h
      rename_i k p k' q e1 e2
      exact sound_mm (mx := false) hop h1 h2 hs hg e1 e2
    · cases hc
  case h_21 f args tys =>
    simp only [Option.map_eq_some_iff] at hc
    obtain ⟨as, _, rfl⟩ := hc
    simp [kindE] at h
  case h_22 t args tys =>
    simp only [Option.map_eq_some_iff] at hc
    obtain ⟨as, _, rfl⟩ := hc
    simp [kindE] at h
  case h_23 T x y =>
    split at hc <;> cases hc
    rename_i x' y' h1 h2 hT
    simp only [kindE] at h
    split at h
    · rename_i str k q e1 e2
      split at h
      · rename_i h0
        simp only [Option.map_eq_some_iff, Prod.mk.injEq] at h
        obtain ⟨c, hcc, rfl, rfl⟩ := h
        exact sound_sidx hop hT h1 h2 hs hg e1 e2 h0 hcc
      · cases h
    · cases h
  case h_24 T x =>
    split at hc <;> cases hc
    rename_i x' h1 hT
    simp only [kindE] at h
    split at h <;> cases h
    rename_i str e1
    exact sound_srg hop hT h1 hs hg e1
  case h_25 x =>
    simp only [Option.map_eq_some_iff] at hc
    obtain ⟨x', h1, rfl⟩ := hc
    simp only [kindE] at h
    split at h
    · rename_i b e1
      split at h
      · rename_i str pos e2
        split at h
        · rename_i hp
          cases h
          exact sound_snx hop h1 hs hg e1 e2 hp
        · rename_i hp
          cases h
          exact sound_snx_over hop h1 hs hg e1 e2 hp
      · cases h
    · cases h
  case h_26 T =>
    cases hc
    simp only [kindE, Option.some.injEq, Prod.mk.injEq] at h
    obtain ⟨rfl, rfl⟩ := h
    exact sound_mkm hop hg
  case h_27 T x k y =>
    split at hc
    · rename_i kt et x' k' y' hT h1 h2 h3
      split at hc
      · rename_i hk
        cases hc
        simp only [kindE] at h
        split at h
        · rename_i b q e1 e2
          simp only [Option.map_eq_some_iff, Option.bind_eq_some_iff, Prod.mk.injEq] at h
          obtain ⟨kvs, ⟨cs, hb, hc⟩, rfl, rfl⟩ := h
          exact sound_mup (.inl hop) hT hk h1 h2 h3 hs hg e1 e2 hb hc
        · cases h
      · cases hc
    · cases hc
  case h_28 T x k ok =>
    split at hc
    · rename_i kt et x' k' hT h1 h2
      split at hc
      · rename_i i hk hi
        split at hc
        · rename_i z hz
          split at hc
          · rename_i hp
            cases hc
            simp only [kindE] at h
            split at h
            · rename_i b q e1 e2
              simp only [Option.map_eq_some_iff, Option.bind_eq_some_iff, Prod.mk.injEq] at h
              obtain ⟨kvs, ⟨cs, hb, hc⟩, rfl, rfl⟩ := h
              exact sound_mlk hop hT hk hi hz (fun M w => zV_rep hp) h1 h2 hs hg e1 e2 hb hc
            · cases h
          · cases hc
        · cases hc
      · cases hc
    · cases hc
  case h_29 => cases hc
end
end Go.Av

namespace Go.Av
open Go.RowKit

mutual
theorem Rep.clean {M M' : Mp} {w : World} (hI : ∀ (b o : Nat), M.I b o → M'.I b o) : ∀ (v : V) (x : Value), v.isClean = true → Rep M w v x → Rep M' w v x
  | .val _, _, _, h => h
  | .agg l, x, hc, h => by
    obtain ⟨vs, rfl, h⟩ := h
    exact ⟨vs, rfl, RepL.clean hI l _ (by simpa [V.isClean] using hc) h⟩
  | .lit sz xs, x, hc, h => by
    exact h.imp id fun ⟨ad, c, h0, h1, h2, h3, h4⟩ => ⟨ad, c, h0, h1, h2, h3, RepX.clean hI xs _ _ (by simpa [V.isClean] using hc) h4⟩
  | .full sz xs, x, hc, h => by
    exact h.imp id fun ⟨ad, h0, h2, h3, h4⟩ => ⟨ad, h0, h2, h3, RepX.clean hI xs _ _ (by simpa [V.isClean] using hc) h4⟩
  | .emp _, _, _, h => h
  | .any, _, _, _ => trivial
  | .anyc, _, _, h => h
  | .row t sz xs, x, hc, h => by simp [V.isClean] at hc
  | .ptr b off, x, hc, h => by simp [V.isClean] at hc
  | .yld b, x, hc, h => by simp [V.isClean] at hc
  | .ref k b, x, hc, h => by simp [V.isClean] at hc
  | .eptr cs, x, hc, h => by
    obtain ⟨ad, rfl, h1, h2⟩ := h
    exact ⟨ad, rfl, h1, RepC.clean hI cs _ _ (by simpa [V.isClean] using hc) h2⟩
  | .func f cap, x, hc, h => by
    obtain ⟨vs, rfl, h⟩ := h
    exact ⟨vs, rfl, RepL.clean hI cap _ (by simpa [V.isClean] using hc) h⟩
  | .iface t v, x, hc, h => by
    obtain ⟨y, rfl, h⟩ := h
    exact ⟨y, rfl, Rep.clean hI v y (by simpa [V.isClean] using hc) h⟩
  | .tuple l, x, hc, h => by
    obtain ⟨vs, rfl, h⟩ := h
    exact ⟨vs, rfl, RepL.clean hI l _ (by simpa [V.isClean] using hc) h⟩
  | .alts l, x, hc, h => ⟨h.1, RepA.clean hI l x h.1 h.2⟩
  | .buf off sz n lc b, x, hc, h => by simp [V.isClean] at hc
theorem RepA.clean {M M' : Mp} {w : World} (hI : ∀ (b o : Nat), M.I b o → M'.I b o) : ∀ (l : List V) (x : Value), cleanL l = true → RepA M w l x → RepA M' w l x
  | [], _, _, h => h.elim
  | v :: l, x, hc, h => by
    simp only [cleanL, Bool.and_eq_true] at hc
    exact h.imp (Rep.clean hI v x hc.1) (RepA.clean hI l x hc.2)
theorem RepL.clean {M M' : Mp} {w : World} (hI : ∀ (b o : Nat), M.I b o → M'.I b o) : ∀ (l : List V) (m : List Value), cleanL l = true → RepL M w l m → RepL M' w l m
  | [], _, _, h => h
  | v :: l, m, hc, h => by
    obtain ⟨x, r, rfl, h1, h2⟩ := h
    simp only [cleanL, Bool.and_eq_true] at hc
    exact ⟨x, r, rfl, Rep.clean hI v x hc.1 h1, RepL.clean hI l r hc.2 h2⟩
theorem RepC.clean {M M' : Mp} {w : World} (hI : ∀ (b o : Nat), M.I b o → M'.I b o) : ∀ (l : List V) (b o : Nat), cleanL l = true → RepC M w l b o → RepC M' w l b o
  | [], _, _, _, _ => trivial
  | v :: l, b, o, hc, h => by
    obtain ⟨⟨x, h1, h2, h3, h4⟩, h5⟩ := h
    simp only [cleanL, Bool.and_eq_true] at hc
    exact ⟨⟨x, hI b o h1, h2, h3, Rep.clean hI v x hc.1 h4⟩, RepC.clean hI l b (o + 1) hc.2 h5⟩
theorem RepX.clean {M M' : Mp} {w : World} (hI : ∀ (b o : Nat), M.I b o → M'.I b o) : ∀ (l : List (List V)) (b o : Nat), cleanX l = true → RepX M w l b o → RepX M' w l b o
  | [], _, _, _, _ => trivial
  | e :: r, b, o, hc, h => by
    simp only [cleanX, Bool.and_eq_true] at hc
    exact ⟨RepC.clean hI e b o hc.1 h.1, RepX.clean hI r b (o + e.length) hc.2 h.2⟩
end

/-- A row, or a full slice, as one that is only read. -/
def V.top1 : V → V
  | .row _ sz xs => .lit sz xs
  | .full sz xs => .lit sz xs
  | .emp sz => .lit sz []
  | v => v
/-- And in the parts of a struct, or of several results. -/
def V.top : V → V
  | .agg l => .agg (l.map V.top1)
  | .tuple l => .tuple (l.map V.top1)
  | v => v.top1
theorem Rep.top1 {M : Mp} {w : World} : ∀ {v : V} {x : Value}, Rep M w v x → Rep M w v.top1 x
  | .row t sz xs, x, h => by
    obtain ⟨G, _, h⟩ := h
    exact h.imp id fun ⟨g, c, h0, h1, h2, h3, _⟩ => ⟨⟨g, 0, none⟩, c, h0, h1, .inr rfl, h2, h3⟩
  | .full sz xs, x, h => h.imp id fun ⟨ad, h0, h1, h2, h3⟩ => ⟨ad, _, h0, Nat.le_refl _, h1, h2, h3⟩
  | .emp sz, x, h => by
    obtain ⟨ad, c, rfl⟩ := h
    exact .inr ⟨ad, c, rfl, Nat.zero_le _, .inl rfl, by simp, trivial⟩
  | .val _, _, h => h
  | .agg _, _, h => h
  | .lit _ _, _, h => h
  | .ptr _ _, _, h => h
  | .eptr _, _, h => h
  | .func _ _, _, h => h
  | .iface _ _, _, h => h
  | .tuple _, _, h => h
  | .yld _, _, h => h
  | .ref _ _, _, h => h
  | .any, _, h => h
  | .anyc, _, h => h
  | .alts _, _, h => h
  | .buf _ _ _ _ _, _, h => h
theorem RepL.top1 {M : Mp} {w : World} : ∀ {l : List V} {m : List Value}, RepL M w l m → RepL M w (l.map V.top1) m
  | [], _, h => h
  | v :: l, _, h => by
    obtain ⟨x, r, rfl, h1, h2⟩ := h
    exact ⟨x, r, rfl, h1.top1, RepL.top1 h2⟩
theorem Rep.top {M : Mp} {w : World} {v : V} {x : Value} (h : Rep M w v x) : Rep M w v.top x := by
  cases v with
  | agg l => obtain ⟨vs, rfl, h⟩ := h; exact ⟨vs, rfl, h.top1⟩
  | tuple l => obtain ⟨vs, rfl, h⟩ := h; exact ⟨vs, rfl, h.top1⟩
  | _ => exact h.top1
theorem RepL.top {M : Mp} {w : World} : ∀ {l : List V} {m : List Value}, RepL M w l m → RepL M w (l.map V.top) m
  | [], _, h => h
  | v :: l, _, h => by
    obtain ⟨x, r, rfl, h1, h2⟩ := h
    exact ⟨x, r, rfl, h1.top, RepL.top h2⟩

/-- A result: clean, or a row of its own with clean elements; rows in the parts of several results. -/
def V.res1 : V → Bool
  | .row _ _ xs => cleanX xs
  | v => v.isClean
def V.res : V → Bool
  | .tuple l => l.all V.res1
  | v => v.res1
def V.shift1 (k : Nat) : V → V
  | .row t sz xs => .row (t + k) sz xs
  | v => v
def V.shift (k : Nat) : V → V
  | .tuple l => .tuple (l.map (V.shift1 k))
  | v => v.shift1 k
theorem Rep.shift1 {M M' : Mp} {w : World} {k : Nat} (hI : ∀ (b o : Nat), M.I b o → M'.I b o) (hγ : ∀ (t : Nat) (G : List (Nat × Nat × Nat)), M.γ[t]? = some G → M'.γ[t + k]? = some G) {v : V} {x : Value} (hr : v.res1 = true) (h : Rep M w v x) : Rep M' w (v.shift1 k) x := by
  cases v with
  | row t sz xs =>
    obtain ⟨G, h4, h⟩ := h
    exact ⟨G, hγ t G h4, h.imp id fun ⟨g, c, h0, h1, h2, h3, h5⟩ => ⟨g, c, h0, h1, h2, RepX.clean hI xs _ _ (by simpa [V.res1] using hr) h3, h5⟩⟩
  | _ => exact Rep.clean hI _ _ hr h
theorem Rep.shift {M M' : Mp} {w : World} {k : Nat} (hI : ∀ (b o : Nat), M.I b o → M'.I b o) (hγ : ∀ (t : Nat) (G : List (Nat × Nat × Nat)), M.γ[t]? = some G → M'.γ[t + k]? = some G) {v : V} {x : Value} (hr : v.res = true) (h : Rep M w v x) : Rep M' w (v.shift k) x := by
  cases v with
  | tuple l =>
    obtain ⟨vs, rfl, h⟩ := h
    refine ⟨vs, rfl, ?_⟩
    have key : ∀ {l : List V} {m : List Value}, l.all V.res1 = true → RepL M w l m → RepL M' w (l.map (V.shift1 k)) m := by
      intro l
      induction l with
      | nil => intro m _ h; exact h
      | cons v l ih =>
        intro m hr h
        obtain ⟨y, r, rfl, h1, h2⟩ := h
        simp only [List.all_cons, Bool.and_eq_true] at hr
        exact ⟨y, r, rfl, h1.shift1 hI hγ hr.1, ih hr.2 h2⟩
    exact key hr h
  | val v => exact Rep.shift1 (v := .val v) hI hγ hr h
  | agg l => exact Rep.shift1 (v := .agg l) hI hγ hr h
  | lit sz xs => exact Rep.shift1 (v := .lit sz xs) hI hγ hr h
  | full sz xs => exact Rep.shift1 (v := .full sz xs) hI hγ hr h
  | row t sz xs => exact Rep.shift1 (v := .row t sz xs) hI hγ hr h
  | ptr b o => exact Rep.shift1 (v := .ptr b o) hI hγ hr h
  | eptr cs => exact Rep.shift1 (v := .eptr cs) hI hγ hr h
  | func f c => exact Rep.shift1 (v := .func f c) hI hγ hr h
  | iface t v => exact Rep.shift1 (v := .iface t v) hI hγ hr h
  | yld b => exact Rep.shift1 (v := .yld b) hI hγ hr h
  | ref k b => exact Rep.shift1 (v := .ref k b) hI hγ hr h
  | emp sz => exact Rep.shift1 (v := .emp sz) hI hγ hr h
  | any => trivial
  | anyc => exact Rep.shift1 (v := .anyc) hI hγ hr h
  | alts l => exact Rep.shift1 (v := .alts l) hI hγ hr h
  | buf a b c d e => exact Rep.shift1 (v := .buf a b c d e) hI hγ hr h

/-- A function with a body of its own. -/
def callable (P : Program) (f : FuncId) : Bool := match P.funcs[f]? with
  | some fn => fn.body.isSome && !(fn.name == "runtime.NumGoroutine")
  | none => false

/-- What a function answers on clean values: in whatever memory; 'tips': the rows of its own that are in the answer. -/
def Pure (P : Program) (f : FuncId) (args : List V) (r : V) (tips : List (TypeId × Nat × Nat)) : Prop :=
  callable P f = true ∧ r.res = true ∧ ∀ (I : Nat → Nat → Prop) (w : World) (vals : Array Value), (∀ (b o : Nat), I b o → b < w.heap.size) → RepL ⟨[], [], I, fun _ => none, fun _ => 0⟩ w args vals.toList →
    Calls P f vals w fun e w' => ∃ x M', e = .returned x ∧ Good w.heap.size I w M' ⟨[], tips⟩ w' ∧ Rep M' w' r x
/-- What a function does with the memory that is there. -/
def Loc (P : Program) (f : FuncId) (args : List V) (m : Mem) (r : V) (m' : Mem) : Prop :=
  callable P f = true ∧ ∀ (B : Nat) (I0 : Nat → Nat → Prop) (w0 : World) (M : Mp) (w : World) (vals : Array Value), Good B I0 w0 M m w → RepL M w args vals.toList →
    Calls P f vals w fun e w' => ∃ x M', e = .returned x ∧ Ext M M' w w' ∧ Good B I0 w0 M' m' w' ∧ Rep M' w' r x

def Mp.join (M M1 : Mp) : Mp := { β := M.β, γ := M.γ ++ M1.γ, I := M1.I, κ := M.κ, ζ := M.ζ }
section
variable {B : Nat} {I0 : Nat → Nat → Prop} {w0 w w' : World} {M M1 : Mp} {m : Mem} {tips : List (TypeId × Nat × Nat)}
/-- Behind a call on clean values. -/
theorem Good.join (h : Good B I0 w0 M m w) (h1 : Good w.heap.size M.I w M1 ⟨[], tips⟩ w') : Good B I0 w0 (M.join M1) { m with tips := m.tips ++ tips } w' ∧ Ext M (M.join M1) w w' := by
  have hb := h1.below
  have hgw := h.grow hb
  have hIlt : ∀ (b o : Nat), M1.I b o → M.I b o ∨ w.heap.size ≤ b := h1.i1
  have hE : Ext M (M.join M1) w w' := ⟨fun _ _ h => h, fun t G hG => ⟨G, by
    show (M.γ ++ M1.γ)[t]? = _
    rw [List.getElem?_append_left (List.getElem?_eq_some_iff.1 hG).1]; exact hG, fun _ h => h⟩, fun b o hi => ⟨h1.i0 b o hi, cell_of_heap (hb.block b (h.ilt b o hi))⟩, fun _ _ => rfl, fun _ _ => rfl⟩
  have key : ∀ {t : Nat} {G : List (Nat × Nat × Nat)}, (M.γ ++ M1.γ)[t]? = some G → (M.γ[t]? = some G) ∨ (M.γ.length ≤ t ∧ M1.γ[t - M.γ.length]? = some G) := by
    intro t G ht
    rw [List.getElem?_append] at ht
    split at ht
    · exact .inl ht
    · exact .inr ⟨by omega, ht⟩
  have hE2 : Ext M (M.join M1) w' w' := ⟨fun _ _ h => h, hE.γ, fun b o hi => ⟨h1.i0 b o hi, rfl⟩, fun _ _ => rfl, fun _ _ => rfl⟩
  refine ⟨?_, hE⟩
  exact {
    below := hgw.below
    sizeB := hgw.sizeB
    i0 := fun b o hi => h1.i0 b o (h.i0 b o hi)
    i1 := fun b o hi => (hIlt b o hi).elim (h.i1 b o) (fun hj => .inr (Nat.le_trans h.sizeB hj))
    ilt := h1.ilt
    lβ := h.lβ
    nd := h.nd
    iβ := fun b o hi i hb1 => (hIlt b o hi).elim (fun hj => h.iβ b o hj i hb1) (fun hj => by have := (h.βlt (List.mem_of_getElem? hb1)).1; omega)
    box := fun i g cs e1 e2 => by
      obtain ⟨hB, ob, hh, hr⟩ := hgw.box i g cs e1 e2
      exact ⟨hB, ob, hh, hr.mono hE2 (lt_of_some e1)⟩
    κlt := h.κlt
    ζb := hgw.ζb
    lγ := by
      have := h1.lγ
      simp only [Mp.join, List.length_append, h.lγ]
      rw [this]
    row := fun t G e sz n e1 e2 => by
      simp only [Mp.join] at e1
      rcases key e1 with e3 | ⟨e3, e4⟩
      · have htl := (List.getElem?_eq_some_iff.1 e3).1
        rw [List.getElem?_append_left (by rw [← h.lγ]; exact htl)] at e2
        rcases hgw.row t G e sz n e3 e2 with h0 | ⟨g, c, xs, a1, a2, a3, a4⟩
        · exact .inl h0
        exact .inr ⟨g, c, xs, a1, a2, a3, fun o hi => (hIlt g o hi).elim (a4 o) (fun hj => by have := (h.gen t G _ e3 a1).2.1; simp only at this; omega)⟩
      · rw [List.getElem?_append_right (by rw [← h.lγ]; exact e3), ← h.lγ] at e2
        rcases h1.row _ G e sz n e4 e2 with h0 | ⟨g, c, xs, a1, a2, a3, a4⟩
        · exact .inl h0
        refine .inr ⟨g, c, xs, a1, a2, ?_, a4⟩
        refine ⟨a3.1, ?_⟩
        rcases a3.2 with a3 | ⟨g1, c1, cur, b1, b2, b3⟩
        · exact .inl a3
        · exact .inr ⟨g1, c1, cur, b1, Nat.le_trans h.sizeB b2, b3⟩
    gen := fun t G x e1 e2 => by
      simp only [Mp.join] at e1
      rcases key e1 with e3 | ⟨e3, e4⟩
      · exact hgw.gen t G x e3 e2
      · have := h1.gen _ G x e4 e2
        exact ⟨Nat.le_trans h.sizeB this.1, this.2.1, fun hm => by have := (h.βlt hm).1; omega⟩
    sep := fun t t' G G' x x' e1 e2 hx hx' heq => by
      simp only [Mp.join] at e1 e2
      rcases key e1 with a1 | ⟨a0, a1⟩ <;> rcases key e2 with b1 | ⟨b0, b1⟩
      · exact h.sep t t' G G' x x' a1 b1 hx hx' heq
      · have c1 := (h.gen t G x a1 hx).2.1
        have c2 := (h1.gen _ G' x' b1 hx').1
        omega
      · have c1 := (h.gen t' G' x' b1 hx').2.1
        have c2 := (h1.gen _ G x a1 hx).1
        omega
      · have := h1.sep _ _ G G' x x' a1 b1 hx hx' heq
        omega }
end
end Go.Av

namespace Go.Av
open Go.RowKit

def put (d : Option Nat) (v : V) (s : Nat → V) : Nat → V := match d with
  | some d => fun t => if t = d then v else s t
  | none => s
theorem put_some (d : Nat) (v : V) (s : Nat → V) (t : Nat) : put (some d) v s t = if t = d then v else s t := rfl
/-- A function of no Go body that answers at once, and changes nothing. -/
def ExtR (P : Program) (f : FuncId) (args : List V) (v : V) : Prop :=
  ∀ (M : Mp) (w : World) (vals : Array Value), RepL M w args vals.toList → ∃ x, (callFunc f vals).run P w = .ok (.value x) w ∧ Rep M w v x
/-- What a call of an iterator's 'yield' answers: by the loop's box. -/
abbrev YRel := Nat → List V → Mem → V → Mem → Prop
/-- No 'yield' is at hand. -/
def noY : YRel := fun _ _ _ _ _ => False
/-- What a function does with the memory that is there, where a 'yield' is at hand. -/
def fen (r : Option Nat) : Fence := { Fence.wide with round := r }
/-- A 'yield' keeps its word, from a world on. -/
def YOk (P : Program) (Y : YRel) (M0 : Mp) (wst : World) : Prop :=
  ∀ b args m v m', Y b args m v m' → ∀ (B : Nat) (I0 : Nat → Nat → Prop) (w0 : World) (M : Mp) (w : World) (vals : Array Value), Ext M0 M wst w → Good B I0 w0 M m w → RepL M w args vals.toList → ∀ g, M.β[b]? = some g → ∀ n,
    YieldAt (fen none) n P g vals w fun e w' => ∃ x M', e = .returned x ∧ Ext M M' w w' ∧ Good B I0 w0 M' m' w' ∧ Rep M' w' v x
theorem YOk.later {P : Program} {Y : YRel} {M0 M : Mp} {wst w : World} (h : YOk P Y M0 wst) (hE : Ext M0 M wst w) : YOk P Y M w :=
  fun b args m v m' hy B I0 w0 M1 w1 vals hE1 => h b args m v m' hy B I0 w0 M1 w1 vals (hE.trans hE1)
theorem YOk.no {P : Program} {M0 : Mp} {wst : World} : YOk P noY M0 wst := fun _ _ _ _ _ h => h.elim
def LocY (P : Program) (Y : YRel) (f : FuncId) (args : List V) (m : Mem) (r : V) (m' : Mem) : Prop :=
  callable P f = true ∧ ∀ (B : Nat) (I0 : Nat → Nat → Prop) (w0 : World) (M : Mp) (w : World) (vals : Array Value), YOk P Y M w → Good B I0 w0 M m w → RepL M w args vals.toList →
    Calls P f vals w fun e w' => ∃ x M', e = .returned x ∧ Ext M M' w w' ∧ Good B I0 w0 M' m' w' ∧ Rep M' w' r x
/-- What the one list says, the other one says less of. -/
def WkL (l l' : List V) : Prop := ∀ (M : Mp) (w : World) (m : List Value), RepL M w l m → RepL M w l' m
theorem WkL.top (l : List V) : WkL l (l.map V.top) := fun _ _ _ h => h.top
/-- What a call answers. -/
def CallR (P : Program) (Y : YRel) (f : FuncId) (args : List V) (m : Mem) (v : V) (m' : Mem) : Prop :=
  (∃ args' r tips, WkL args args' ∧ Pure P f args' r tips ∧ cleanL args' = true ∧ v = r.shift m.tips.length ∧ m' = { m with tips := m.tips ++ tips }) ∨ Loc P f args m v m' ∨ LocY P Y f args m v m' ∨ (ExtR P f args v ∧ m' = m)

/-- A call that leaves no trace. -/
def CallQ (P : Program) (f : FuncId) (args : List V) (v : V) : Prop := (∃ args', WkL args args' ∧ Pure P f args' v [] ∧ cleanL args' = true ∧ v.isClean = true) ∨ ExtR P f args v
/-- 'q': calls leave no trace. -/
def CallG (q : Bool) (P : Program) (Y : YRel) (f : FuncId) (args : List V) (m : Mem) (v : V) (m' : Mem) : Prop := if q = true then CallQ P f args v ∧ m' = m else CallR P Y f args m v m'

/-- No box is lost or changed. -/
def Mem.le (m m1 : Mem) : Prop := ∀ (b : Nat) (cs : List V), m.boxes[b]? = some cs → m1.boxes[b]? = some cs
theorem Mem.le_refl (m : Mem) : m.le m := fun _ _ h => h
theorem Mem.le_trans {a b c : Mem} (h : a.le b) (k : b.le c) : a.le c := fun x cs hx => k x cs (h x cs hx)
/-- The boxes of some slots are as they were. -/
def keepB (s : Nat → V) (m m' : Mem) : List Nat → Prop
  | [] => True
  | t :: r => (∀ b o, s t = .ptr b o → m'.boxes[b]? = m.boxes[b]?) ∧ keepB s m m' r
/-- Without a word on boxes. -/
def K.weak : K → K
  | .callf (.f f) xs _ | .callr (.f f) xs => .call f xs
  | .callf x xs _ | .callr x xs => .callv x xs
  | k => k
def O.weak (o : O) : O := { o with k := o.k.weak }
def kindR (q : Bool) (P : Program) (Y : YRel) (k : K) (s : Nat → V) (m : Mem) (v : V) (m' : Mem) : Prop :=
  match k with
  | .call f args => CallG q P Y f (args.map (·.ev s)) m v m'
  | .callq f args => CallG true P Y f (args.map (·.ev s)) m v m'
  | .callv x args => (∃ f cap, x.ev s = .func f cap ∧ CallG q P Y f (args.map (·.ev s) ++ cap) m v m') ∨ (q = false ∧ ∃ b, x.ev s = .yld b ∧ Y b (args.map (·.ev s)) m v m')
  | .callf x args fr => ((∃ f cap, x.ev s = .func f cap ∧ CallG q P Y f (args.map (·.ev s) ++ cap) m v m') ∨ (q = false ∧ ∃ b, x.ev s = .yld b ∧ Y b (args.map (·.ev s)) m v m')) ∧ keepB s m m' fr
  | .callr x args => q = false ∧ m' = m ∧ ∃ f cap, x.ev s = .func f cap ∧ ∀ m1, m.le m1 → Loc P f (args.map (·.ev s) ++ cap) m1 v m1
  | k => kindE k s m = some (v, m')

def stepR (q : Bool) (P : Program) (Y : YRel) (o : O) (s : Nat → V) (m : Mem) (v : V) (m' : Mem) : Prop :=
  match o.g with
  | none => kindR q P Y o.k s m v m'
  | some (d, want) => (s d = .val (.bool want) ∧ kindR q P Y o.k s m v m') ∨ ((s d = .val (.bool (!want)) ∨ s d = .tuple []) ∧ v = .tuple [] ∧ m' = m)

theorem clean_shift1 {k : Nat} {v : V} (h : v.isClean = true) : v.shift1 k = v := by
  cases v <;> first | rfl | simp [V.isClean] at h
theorem clean_shift {k : Nat} {v : V} (h : v.isClean = true) : v.shift k = v := by
  cases v with
  | tuple l =>
    have key : ∀ l : List V, cleanL l = true → l.map (V.shift1 k) = l := by
      intro l
      induction l with
      | nil => intro _; rfl
      | cons v l ih =>
        intro h
        simp only [cleanL, Bool.and_eq_true] at h
        rw [List.map_cons, clean_shift1 h.1, ih h.2]
    simp only [V.shift, key l (by simpa [V.isClean] using h)]
  | row t sz xs => simp [V.isClean] at h
  | _ => rfl
theorem CallG.toR {q : Bool} {P : Program} {Y : YRel} {f : FuncId} {args : List V} {m : Mem} {v : V} {m' : Mem} (h : CallG q P Y f args m v m') : CallR P Y f args m v m' := by
  cases q with
  | false => exact h
  | true =>
    obtain ⟨⟨args', h0, h1, h2, h3⟩ | h1, rfl⟩ := h
    · exact .inl ⟨args', v, [], h0, h1, h2, (clean_shift h3).symm, by simp⟩
    · exact .inr (.inr (.inr ⟨h1, rfl⟩))
theorem kindR.toR {q : Bool} {P : Program} {Y : YRel} {k : K} {s : Nat → V} {m : Mem} {v : V} {m' : Mem} (h : kindR q P Y k s m v m') : kindR false P Y k s m v m' := by
  cases k with
  | call f args => exact CallG.toR h
  | callv x args => exact h.imp (fun ⟨f, cap, h1, h2⟩ => ⟨f, cap, h1, CallG.toR h2⟩) (fun ⟨_, h⟩ => ⟨rfl, h⟩)
  | callf x args fr => exact ⟨h.1.imp (fun ⟨f, cap, h1, h2⟩ => ⟨f, cap, h1, CallG.toR h2⟩) (fun ⟨_, h⟩ => ⟨rfl, h⟩), h.2⟩
  | callr x args => exact ⟨rfl, h.2⟩
  | _ => exact h
theorem stepR.toR {q : Bool} {P : Program} {Y : YRel} {o : O} {s : Nat → V} {m : Mem} {v : V} {m' : Mem} (h : stepR q P Y o s m v m') : stepR false P Y o s m v m' := by
  unfold stepR at h ⊢
  split at h
  · exact h.toR
  · exact h.imp (fun ⟨h1, h2⟩ => ⟨h1, h2.toR⟩) id

theorem kindR.weak {q : Bool} {P : Program} {Y : YRel} {k : K} {s : Nat → V} {m : Mem} {v : V} {m' : Mem} (h : kindR q P Y k s m v m') : kindR q P Y k.weak s m v m' := by
  cases k with
  | callf x args fr =>
    cases x with
    | f n =>
      rcases h.1 with ⟨f, cap, h1, h2⟩ | ⟨_, b, h1, _⟩
      · simp only [X.ev, V.func.injEq] at h1
        obtain ⟨rfl, rfl⟩ := h1
        rw [List.append_nil] at h2
        exact h2
      · cases h1
    | _ => exact h.1
  | callr x args =>
    obtain ⟨rfl, rfl, f, cap, h1, h2⟩ := h
    cases x with
    | f n =>
      simp only [X.ev, V.func.injEq] at h1
      obtain ⟨rfl, rfl⟩ := h1
      have := h2 _ (Mem.le_refl _)
      rw [List.append_nil] at this
      exact .inr (.inl this)
    | _ => exact .inl ⟨f, cap, h1, .inr (.inl (h2 _ (Mem.le_refl _)))⟩
  | _ => exact h
theorem stepR.weak {q : Bool} {P : Program} {Y : YRel} {o : O} {s : Nat → V} {m : Mem} {v : V} {m' : Mem} (h : stepR q P Y o s m v m') : stepR q P Y o.weak s m v m' := by
  unfold stepR at h ⊢
  show match o.g with
    | none => _
    | some (d, want) => _
  split at h
  · rename_i e; exact h.weak
  · rename_i d want e; exact h.imp (fun ⟨h1, h2⟩ => ⟨h1, h2.weak⟩) id
/-- The guard's slot. -/
def guardO (ops : Array Oper) (n : Nat) (o : Oper) : Option (Option (Nat × Bool)) :=
  match o.guard with
  | none => some none
  | some (g, want) => match (ops[g]?).bind (·.dst) with
    | some d => if d < n then some (some (d, want)) else none
    | none => none
def dstOk (n : Nat) : Option Nat → Bool
  | none => true
  | some d => decide (d < n)
/-- Is a slot's value a place among a slice's elements? -/
def eslot (P : Program) (ops : Array Oper) : Nat → Nat → Bool
  | 0, _ => false
  | f + 1, t => match ops.find? (fun o => o.dst == some t) with
    | some o => match o.op with
      | .indexAddr T _ _ => (match P.underlying T with
        | some (.slice _) => true
        | _ => false)
      | .fieldAddr _ (.tmp t') _ => eslot P ops f t'
      | _ => false
    | none => false
def toLde (P : Program) (own : Nat → Bool) (ops : Array Oper) : K → K
  | .call f xs => if own 4194304 = true then .callq f xs else .call f xs
  | .ld (.t t) z => if eslot P ops 4 t = true then .lde (.t t) z else .ld (.t t) z
  | k => k
theorem toLde_eq {P : Program} {own : Nat → Bool} {ops : Array Oper} (k : K) : toLde P own ops k = k ∨ (∃ x z, k = .ld x z ∧ toLde P own ops k = .lde x z) ∨ ∃ f xs, k = .call f xs ∧ toLde P own ops k = .callq f xs := by
  unfold toLde
  split
  · split
    · exact .inr (.inr ⟨_, _, rfl, rfl⟩)
    · exact .inl rfl
  · split
    · exact .inr (.inl ⟨_, _, rfl, rfl⟩)
    · exact .inl rfl
  · exact .inl rfl
/-- The operations that may be done on a slice that is written. -/
def memOf : K → Option (Mo × List X)
  | .mov x => some (.frz, [x])
  | .ixs x i sz => some (.ixr sz, [x, i])
  | .len x => some (.lnr, [x])
  | .mks n c e sz bytes z _ => some (.mkb e sz bytes z, [n, c])
  | .app x y e sz bytes _ => some (.apb e sz bytes, [x, y])
  | .mkl _ sz [] _ => some (.eml sz, [])
  | _ => none
def memOf2 : K → Option (Mo × List X)
  | .app x y e sz bytes _ => some (.apx e sz bytes, [x, y])
  | _ => none
/-- Of an append the answer is not looked at. -/
def exU (own : Nat → Bool) (d : Option Nat) : Bool := match d with
  | some d => !own (d + 8388608)
  | none => false
def memOfU (u : Bool) (k : K) : Option (Mo × List X) := if u = true then memOf2 k else memOf k
def compM (P : Program) (own : Nat → Bool) (ops : Array Oper) (ex u : Bool) (k : K) : K :=
  if ex = true ∨ u = true then (match memOfU u k with
    | some (mo, xs) => .mem mo xs
    | none => k) else toLde P own ops k
theorem compM_eq {P : Program} {own : Nat → Bool} {ops : Array Oper} {ex u : Bool} (k : K) : compM P own ops ex u k = k ∨ (∃ x z, k = .ld x z ∧ compM P own ops ex u k = .lde x z) ∨ (∃ f xs, k = .call f xs ∧ compM P own ops ex u k = .callq f xs) ∨ ∃ mo xs, memOfU u k = some (mo, xs) ∧ compM P own ops ex u k = .mem mo xs := by
  unfold compM
  split
  · split
    · rename_i mo xs e; exact .inr (.inr (.inr ⟨mo, xs, e, rfl⟩))
    · exact .inl rfl
  · rcases toLde_eq (P := P) (own := own) (ops := ops) k with h | h | h
    · exact .inl h
    · exact .inr (.inl h)
    · exact .inr (.inr (.inl h))
/-- More operations. -/
def compE (P : Program) : Op → Option K
  | .nilCheck x => (compX x).map fun x => .mem .nck [x]
  | .convert src dst x => match compX x, P.underlying src, P.underlying dst with
    | some x', some _, some (.float k) => some (.mem (.cvf k) [x'])
    | _, _, _ => none
  | .call { callee := .builtin b, args := args, argTypes := _ } => match b, args.toList with
    | .complex, [x, y] => (match compX x, compX y with
      | some x', some y' => some (.mem .cpx [x', y'])
      | _, _ => none)
    | .real, [x] => (compX x).map fun x => .mem (.rei false) [x]
    | .imag, [x] => (compX x).map fun x => .mem (.rei true) [x]
    | _, _ => none
  | .index T x y => match compX x, compX y, P.underlying T with
    | some x', some y', some (.array n e) => (match P.info? e with
      | some i => if aggT P e = true then some (.mem (.ixv n i.size) [x', y']) else none
      | none => none)
    | _, _, _ => none
  | .insert T x k y => match P.underlying T, compX x, compX k, compX y with
    | some (.map kt _), some x', some k', some y' => (match P.underlying kt with
      | some (.int .i64) => some (.mup x' k' y')
      | _ => none)
    | _, _, _, _ => none
  | _ => none
def compOp (P : Program) (n : Nat) (own : Nat → Bool) (ops : Array Oper) (o : Oper) : Option O :=
  match guardO ops n o with
  | some g => if dstOk n o.dst = true then some ⟨o.dst, g, match compK P ((o.dst.map own).getD false) (exT own o.dst) o.type o.op with
      | some k => compM P own ops (exT own o.dst) (exU own o.dst) k
      | none => (compE P o.op).getD .dead⟩ else none
  | none => none

section
variable {P : Program} {o : Oper} {a : Act} {w : World} {M : Mp} {m : Mem} {n : Nat} {s : Nat → V} {B : Nat} {I0 : Nat → Nat → Prop} {w0 : World}

theorem Slots.put {d : Option Nat} {v : V} {x : Value} (hs : Slots M w n s a) (hr : Rep M w v x) (hd : dstOk n d = true) : Slots M w n (Av.put d v s) (a.put d x) := by
  cases d with
  | none => exact hs
  | some d =>
    have hd' : d < a.tmps.size := by rw [hs.1]; simpa [dstOk] using hd
    refine ⟨by simp [Act.put, hs.1], fun t => ?_⟩
    by_cases e : t = d
    · subst e
      simpa [Act.put, Av.put, hd'] using hr
    · have := hs.2 t
      simpa [Act.put, Av.put, e, Array.getElem?_setIfInBounds, Ne.symm e] using this
theorem Slots.mono {M' : Mp} {w' : World} (hs : Slots M w n s a) (hE : Ext M M' w w') : Slots M' w' n s a := ⟨hs.1, fun t => Rep.mono hE _ _ (hs.2 t)⟩

/-- The block for the rounds' deferred calls: there are none. -/
def dfam : St → Obj := fun _ => .deferred (some [])
def mkD (g : Nat) : Deferred := { target := .collected g, args := #[] }
/-- The marks of the loops over functions that were run. -/
def Marks (M0 M : Mp) (a : Act) : Prop := ∃ ds : List Nat, a.defers = ds.map mkD ∧ ds.Nodup ∧ ∀ g ∈ ds, ∃ b, M0.β.length ≤ b ∧ M.β[b]? = some g ∧ M.κ b = some dfam
theorem Marks.next {M0 M M' : Mp} {w w' : World} {a : Act} {d : Option Nat} {x : Value} (h : Marks M0 M a) (hE : Ext M M' w w') : Marks M0 M' (a.put d x) := by
  obtain ⟨ds, h1, h2, h3⟩ := h
  refine ⟨ds, by cases d <;> exact h1, h2, fun g hg => ?_⟩
  obtain ⟨b, k1, k2, k3⟩ := h3 g hg
  exact ⟨b, k1, hE.β b g k2, by rw [hE.κ b (lt_of_some k2)]; exact k3⟩
/-- The state at a place of the code. -/
def AT (B : Nat) (I0 : Nat → Nat → Prop) (w0 : World) (M0 : Mp) (wst : World) (n : Nat) (s : Nat → V) (m : Mem) (a : Act) (w : World) : Prop :=
  ∃ M, Ext M0 M wst w ∧ Good B I0 w0 M m w ∧ Slots M w n s a ∧ Marks M0 M a

theorem rep_args {M : Mp} {w : World} {n : Nat} {s : Nat → V} {a : Act} (hs : Slots M w n s a) : ∀ {l : List Operand} {xs : List X}, compXs l = some xs → RepL M w (xs.map (·.ev s)) (l.map a.eval) := by
  intro l
  induction l with
  | nil => intro xs h; simp [compXs] at h; subst h; rfl
  | cons x l ih =>
    intro xs h
    simp only [compXs, List.mapM_cons, Option.pure_def, Option.bind_eq_bind, Option.bind_eq_some_iff] at h
    obtain ⟨y, hy, r, hr, e⟩ := h
    cases e
    exact ⟨_, _, rfl, comp_ev hy hs, ih hr⟩

/-- What a call's frame needs. -/
def CallOk (P : Program) (M : Mp) (w : World) (B : Nat) (I0 : Nat → Nat → Prop) (w0 : World) (f : FuncId) (vals : Array Value) (v : V) (m' : Mem) : Prop :=
  Calls P f vals w fun e w' => ∃ x M', e = .returned x ∧ Ext M M' w w' ∧ Good B I0 w0 M' m' w' ∧ Rep M' w' v x

theorem CallR.ok {Y : YRel} {f : FuncId} {args : List V} {v : V} {m' : Mem} {vals : Array Value} (h : CallR P Y f args m v m') (hY : YOk P Y M w) (hg : Good B I0 w0 M m w) (hr : RepL M w args vals.toList) :
    (callable P f = true ∧ CallOk P M w B I0 w0 f vals v m') ∨ (m' = m ∧ ∃ x, (callFunc f vals).run P w = .ok (.value x) w ∧ Rep M w v x) := by
  rcases h with ⟨args', r, tips, hW, ⟨h1, h2, h3⟩, hc, rfl, rfl⟩ | ⟨h1, h2⟩ | ⟨h1, h2⟩ | ⟨h1, h2⟩
  · refine .inl ⟨h1, ?_⟩
    have hr' : RepL ⟨[], [], M.I, fun _ => none, fun _ => 0⟩ w args' vals.toList := RepL.clean (M := M) (M' := ⟨[], [], M.I, fun _ => none, fun _ => 0⟩) (fun _ _ h => h) _ _ hc (hW _ _ _ hr)
    refine (h3 M.I w vals hg.ilt hr').mono fun e w' ⟨x, M1, he, hg1, hx⟩ => ?_
    obtain ⟨j1, j2⟩ := hg.join hg1
    refine ⟨x, M.join M1, he, j2, j1, ?_⟩
    refine Rep.shift (M := M1) (M' := M.join M1) (k := m.tips.length) (fun b q hi => hi) (fun t G hG => ?_) h2 hx
    show (M.γ ++ M1.γ)[t + m.tips.length]? = _
    rw [← hg.lγ, List.getElem?_append_right (by omega), Nat.add_sub_cancel]
    exact hG
  · exact .inl ⟨h1, h2 B I0 w0 M w vals hg hr⟩
  · exact .inl ⟨h1, h2 B I0 w0 M w vals hY hg hr⟩
  · exact .inr ⟨h2, h1 M w vals hr⟩

theorem run_callFunc {f : FuncId} {vals : Array Value} (h : callable P f = true) : (callFunc f vals).run P w = .ok (.enter f vals) w := by
  unfold callable at h
  split at h
  · rename_i fn hf
    simp only [Bool.and_eq_true, Bool.not_eq_true'] at h
    obtain ⟨c, hc⟩ := Option.isSome_iff_exists.1 h.1
    have hn : fn.name ≠ "runtime.NumGoroutine" := by simpa using h.2
    simp [callFunc, hf, hn, hc]
  · cases h

theorem ext_of {fo : Operand} {f : FuncId} {args : Array Operand} {tys : Array TypeId} {cap : Array Value} {x : Value} (ho : o.op = .call { callee := .value fo, args := args, argTypes := tys })
    (hf : a.eval fo = .func (.func f) #[] cap) (hr : (callFunc f (args.map a.eval ++ cap)).run P w = .ok (.value x) w) : (execOp a.eval o).run P w = .ok (.value x) w := by
  unfold execOp
  rw [ho]
  simp only [resolve, hf, Deferred.ofValue]
  simp [invoke, hr]
theorem enter_of {fo : Operand} {f : FuncId} {args : Array Operand} {tys : Array TypeId} {cap : Array Value} (ho : o.op = .call { callee := .value fo, args := args, argTypes := tys })
    (hf : a.eval fo = .func (.func f) #[] cap) (hcl : callable P f = true) : (execOp a.eval o).run P w = .ok (.enter f (args.map a.eval ++ cap)) w := by
  unfold execOp
  rw [ho]
  simp only [resolve, hf, Deferred.ofValue]
  simp [invoke, run_callFunc hcl]
end
end Go.Av

namespace Go.Av
open Go.RowKit

def Mp.withκ (M : Mp) (κ' : Nat → Option (St → Obj)) : Mp := { M with κ := κ' }
mutual
theorem Rep.kap {M : Mp} {w : World} {κ' : Nat → Option (St → Obj)} : ∀ (v : V) (x : Value), Rep M w v x → Rep (M.withκ κ') w v x
  | .val _, _, h => h
  | .agg l, x, h => by
    obtain ⟨vs, rfl, h⟩ := h
    exact ⟨vs, rfl, RepL.kap l _ h⟩
  | .lit sz xs, x, h => by
    exact h.imp id fun ⟨ad, c, h0, h1, h2, h3, h4⟩ => ⟨ad, c, h0, h1, h2, h3, RepX.kap xs _ _ h4⟩
  | .full sz xs, x, h => by
    exact h.imp id fun ⟨ad, h0, h2, h3, h4⟩ => ⟨ad, h0, h2, h3, RepX.kap xs _ _ h4⟩
  | .emp _, _, h => h
  | .any, _, _ => trivial
  | .anyc, _, h => h
  | .row t sz xs, x, h => by
    obtain ⟨G, h4, h⟩ := h
    exact ⟨G, h4, h.imp id fun ⟨g, c, h0, h1, h2, h3, h5⟩ => ⟨g, c, h0, h1, h2, RepX.kap xs _ _ h3, h5⟩⟩
  | .ptr b off, x, h => h
  | .yld b, x, h => h
  | .ref k b, x, h => h
  | .eptr cs, x, h => by
    obtain ⟨ad, rfl, h1, h2⟩ := h
    exact ⟨ad, rfl, h1, RepC.kap cs _ _ h2⟩
  | .func f cap, x, h => by
    obtain ⟨vs, rfl, h⟩ := h
    exact ⟨vs, rfl, RepL.kap cap _ h⟩
  | .iface t v, x, h => by
    obtain ⟨y, rfl, h⟩ := h
    exact ⟨y, rfl, Rep.kap v y h⟩
  | .tuple l, x, h => by
    obtain ⟨vs, rfl, h⟩ := h
    exact ⟨vs, rfl, RepL.kap l _ h⟩
  | .buf _ _ _ _ _, x, h => h
  | .alts l, x, h => ⟨h.1, RepA.clean (M := M) (M' := M.withκ κ') (fun _ _ h => h) l x h.1 h.2⟩
theorem RepL.kap {M : Mp} {w : World} {κ' : Nat → Option (St → Obj)} : ∀ (l : List V) (m : List Value), RepL M w l m → RepL (M.withκ κ') w l m
  | [], _, h => h
  | v :: l, m, h => by
    obtain ⟨x, r, rfl, h1, h2⟩ := h
    exact ⟨x, r, rfl, Rep.kap v x h1, RepL.kap l r h2⟩
theorem RepC.kap {M : Mp} {w : World} {κ' : Nat → Option (St → Obj)} : ∀ (l : List V) (b o : Nat), RepC M w l b o → RepC (M.withκ κ') w l b o
  | [], _, _, _ => trivial
  | v :: l, b, o, h => by
    obtain ⟨⟨x, h1, h2, h3, h4⟩, h5⟩ := h
    exact ⟨⟨x, h1, h2, h3, Rep.kap v x h4⟩, RepC.kap l b (o + 1) h5⟩
theorem RepX.kap {M : Mp} {w : World} {κ' : Nat → Option (St → Obj)} : ∀ (l : List (List V)) (b o : Nat), RepX M w l b o → RepX (M.withκ κ') w l b o
  | [], _, _, _ => trivial
  | e :: r, b, o, h => ⟨RepC.kap e b o h.1, RepX.kap r b (o + e.length) h.2⟩
end

section
variable {B : Nat} {I0 : Nat → Nat → Prop} {w0 w w' wst : World} {M M0 : Mp} {m : Mem}

theorem BoxRep.kap {κ' : Nat → Option (St → Obj)} {i : Nat} {cs : List V} {ob : Obj} (hκ : κ' i = M.κ i) (h : BoxRep M i w cs ob) : BoxRep (M.withκ κ') i w cs ob := by
  unfold BoxRep
  rw [show (M.withκ κ').κ i = M.κ i from hκ]
  exact h.imp (fun ⟨h0, vs, T, h1, hl, h2, h3⟩ => ⟨h0, vs, T, h1, hl, RepL.kap _ _ h2, h3⟩) (Or.imp id (Or.imp id (Or.imp (fun ⟨h0, es, c, h1, h9, h2⟩ => ⟨h0, es, c, h1, h9, RepL.kap _ _ h2⟩) id)))

/-- The families of other boxes do not matter. -/
theorem Good.kap (h : Good B I0 w0 M m w) {κ' : Nat → Option (St → Obj)} (hκ : ∀ i, i < M.β.length → κ' i = M.κ i) (hl : ∀ i fam, κ' i = some fam → i < M.β.length) : Good B I0 w0 (M.withκ κ') m w where
  below := h.below
  sizeB := h.sizeB
  i0 := h.i0
  i1 := h.i1
  ilt := h.ilt
  lβ := h.lβ
  nd := h.nd
  iβ := h.iβ
  box i g cs h1 h2 := by
    obtain ⟨hB, ob, hh, hr⟩ := h.box i g cs h1 h2
    exact ⟨hB, ob, hh, hr.kap (hκ i (lt_of_some h1))⟩
  κlt := hl
  ζb := h.ζb
  lγ := h.lγ
  row := h.row
  gen := h.gen
  sep := h.sep

/-- An object's box: another state, or another family. -/
theorem Good.putObj (h : Good B I0 w0 M m w) {i g : Nat} (hi : M.β[i]? = some g) (hnd : m.boxes[i]? ≠ some deadC) {fam : St → Obj} (st : St) :
    Good B I0 w0 (M.withκ fun j => if j = i then some fam else M.κ j) { m with boxes := m.boxes.set i [st.v] } (putO w g (fam st)) ∧
    (∀ o, M.I g o → False) ∧ (∀ k, k ≠ g → (putO w g (fam st)).heap[k]? = w.heap[k]?) := by
  have hgm : g ∈ M.β := List.mem_of_getElem? hi
  have hlt : i < m.boxes.length := by rw [← h.lβ]; exact lt_of_some hi
  have hE : ∀ (b o : Nat), M.I b o → (putO w g (fam st)).cell? ⟨b, o, none⟩ = w.cell? ⟨b, o, none⟩ := fun b o hI => cell_of_heap (putO_other w g b _ (fun e => hnd (h.iβ b o hI i (by rw [e]; exact hi))))
  have hE0 : Ext M M w (putO w g (fam st)) := ⟨fun _ _ h => h, fun _ G h => ⟨G, h, fun _ h => h⟩, fun b o hI => ⟨hI, hE b o hI⟩, fun _ _ => rfl, fun _ _ => rfl⟩
  have hsz : (putO w g (fam st)).heap.size = w.heap.size := by simp [putO]
  have hbl : Below B w (putO w g (fam st)) := ⟨rfl, rfl, rfl, by rw [hsz]; exact Nat.le_refl _, fun k hk => putO_other w g k _ (by have := (h.βlt hgm).2; omega)⟩
  refine ⟨?_, fun o hI => hnd (h.iβ g o hI i hi), fun k hk => putO_other w g k _ hk⟩
  exact {
    below := h.below.trans hbl
    sizeB := by rw [hsz]; exact h.sizeB
    i0 := h.i0
    i1 := h.i1
    ilt := fun b o hI => by rw [hsz]; exact h.ilt b o hI
    lβ := by simp [Mp.withκ, h.lβ]
    nd := fun a b q ha hb => h.ndSet hnd _ ha hb
    iβ := fun b o hI j hb => by
      by_cases hij : i = j
      · subst hij; exact absurd (h.iβ b o hI i hb) hnd
      · exact (List.getElem?_set_ne hij).trans (h.iβ b o hI j hb)
    box := fun j k ds h1 h2 => by
      have h1' : M.β[j]? = some k := h1
      by_cases hij : i = j
      · subst hij
        rw [hi] at h1'
        obtain rfl := Option.some.inj h1'
        simp only [List.getElem?_set_self hlt] at h2
        obtain rfl := Option.some.inj h2
        exact ⟨(h.βlt hgm).2, fam st, putO_heap w _ _ (h.βlt hgm).1, .inr (.inr (.inl ⟨fam, st, if_pos rfl, rfl, rfl⟩))⟩
      · simp only [List.getElem?_set_ne hij] at h2
        obtain ⟨hB, ob', hh', hr'⟩ := h.box j k ds h1' h2
        by_cases hk : k = g
        · subst hk
          have hd := h.ndDead hnd hi h1' hij h2
          subst hd
          exact ⟨hB, fam st, putO_heap w _ _ (h.βlt hgm).1, hr'.dead (if_neg fun e => hij e.symm)⟩
        have hne : k ≠ g := hk
        exact ⟨hB, ob', by rw [putO_other w g k _ hne]; exact hh', (hr'.mono hE0 (lt_of_some h1')).kap (if_neg fun e => hij e.symm)⟩
    ζb := fun j k ds h1 h2 h3 => by
      have h1' : M.β[j]? = some k := h1
      by_cases hij : i = j
      · subst hij
        simp only [List.getElem?_set_self hlt] at h2
        obtain rfl := Option.some.inj h2
        rw [St.obj] at h3
        cases h3
      · simp only [List.getElem?_set_ne hij] at h2
        obtain ⟨us, U, hh', hz⟩ := h.ζb j k ds h1' h2 h3
        have hne : k ≠ g := fun e => by
          have hd := h.ndDead hnd hi (e ▸ h1') hij h2
          subst hd
          cases h3
        exact ⟨us, U, by rw [putO_other w g k _ hne]; exact hh', hz⟩
    κlt := fun j fam' hf => by
      by_cases e : j = i
      · subst e; exact lt_of_some hi
      · exact h.κlt j fam' (by simpa [Mp.withκ, e] using hf)
    lγ := h.lγ
    row := fun t G e sz n h1 h2 => by
      rcases h.row t G e sz n h1 h2 with h0 | ⟨g', c, xs, h3, h4, h5, h6⟩
      · exact .inl h0
      have hne : g' ≠ g := fun e => (h.gen t G _ h1 h3).2.2 (e ▸ hgm)
      refine .inr ⟨g', c, xs, h3, h4, h5.kept (row := some g) ⟨rfl, rfl, rfl, by rw [hsz]; exact Nat.le_refl _, fun k _ hk => putO_other w g k _ (fun e => hk (by rw [e]))⟩ (.inr (by simpa [Value.ownBlock] using hne)), h6⟩
    gen := fun t G x h1 h2 => ⟨(h.gen t G x h1 h2).1, by rw [hsz]; exact (h.gen t G x h1 h2).2.1, (h.gen t G x h1 h2).2.2⟩
    sep := h.sep }

/-- A new object. -/
theorem Good.newObj (h : Good B I0 w0 M m w) (fam : St → Obj) (st : St) :
    Good B I0 w0 { M with β := M.β ++ [w.heap.size], κ := fun j => if j = M.β.length then some fam else M.κ j } { m with boxes := m.boxes ++ [[st.v]] } (w.alloc (fam st)) ∧
    Ext M { M with β := M.β ++ [w.heap.size], κ := fun j => if j = M.β.length then some fam else M.κ j } w (w.alloc (fam st)) := by
  have hb := below_alloc_self w (fam st)
  have hg1 := h.grow hb
  have hE := h.ext hb
  have hf := h.fresh (Nat.le_refl _)
  have hE2 : Ext M { M with β := M.β ++ [w.heap.size], κ := fun j => if j = M.β.length then some fam else M.κ j } w (w.alloc (fam st)) :=
    ⟨(Mp.addB_ext M w.heap.size w).β, hE.γ, hE.I, fun i hi => if_neg (by omega), fun _ _ => rfl⟩
  refine ⟨?_, hE2⟩
  exact {
    below := hg1.below
    sizeB := hg1.sizeB
    i0 := hg1.i0
    i1 := hg1.i1
    ilt := hg1.ilt
    lβ := by simp [h.lβ]
    nd := fun i j g hi hj => by
      have key : ∀ {i : Nat}, (M.β ++ [w.heap.size])[i]? = some g → (M.β[i]? = some g) ∨ (i = M.β.length ∧ g = w.heap.size) := by
        intro i hi
        rw [List.getElem?_append] at hi
        split at hi
        · exact .inl hi
        · cases hx : i - M.β.length with
          | zero => rw [hx] at hi; simp at hi; exact .inr ⟨by omega, hi.symm⟩
          | succ q => rw [hx] at hi; simp at hi
      rcases key hi with a | ⟨a, a'⟩ <;> rcases key hj with b | ⟨b, b'⟩
      · have k1 := lt_of_some a
        have k2 := lt_of_some b
        rw [h.lβ] at k1 k2
        show (m.boxes ++ [[st.v]])[i]? = _ ∨ (m.boxes ++ [[st.v]])[j]? = _ ∨ _
        rw [List.getElem?_append_left k1, List.getElem?_append_left k2]
        exact h.nd i j g a b
      · exact absurd (List.mem_of_getElem? a) (b' ▸ hf.1)
      · exact absurd (List.mem_of_getElem? b) (a' ▸ hf.1)
      · exact .inr (.inr (by omega))
    iβ := fun b o hi i hb => by
      have hb' : (M.β ++ [w.heap.size])[i]? = some b := hb
      show (m.boxes ++ [[st.v]])[i]? = _
      by_cases hlt : i < M.β.length
      · rw [List.getElem?_append_left hlt] at hb'
        rw [List.getElem?_append_left (by rw [← h.lβ]; exact hlt)]
        exact h.iβ b o hi i hb'
      · rw [List.getElem?_append_right (by omega)] at hb'
        cases hx : i - M.β.length with
        | succ q => rw [hx] at hb'; simp at hb'
        | zero =>
          rw [hx] at hb'
          simp at hb'
          subst hb'
          exact absurd hi (hf.2.1 o)
    box := fun i k ds h1 h2 => by
      by_cases hlt : i < M.β.length
      · have h1' : (M.β ++ [w.heap.size])[i]? = some k := h1
        have h2' : (m.boxes ++ [[st.v]])[i]? = some ds := h2
        rw [List.getElem?_append_left hlt] at h1'
        rw [List.getElem?_append_left (by rw [← h.lβ]; exact hlt)] at h2'
        obtain ⟨hB, ob, hh, hr⟩ := h.box i k ds h1' h2'
        refine ⟨hB, ob, ?_, hr.mono hE2 hlt⟩
        rw [hb.block k (Array.getElem?_eq_some_iff.1 hh).1]
        exact hh
      · have hle : M.β.length ≤ i := by omega
        have h1' : (M.β ++ [w.heap.size])[i]? = some k := h1
        have h2' : (m.boxes ++ [[st.v]])[i]? = some ds := h2
        rw [List.getElem?_append_right hle] at h1'
        rw [List.getElem?_append_right (by rw [← h.lβ]; exact hle), ← h.lβ] at h2'
        cases hx : i - M.β.length with
        | succ q => rw [hx] at h1'; simp at h1'
        | zero =>
          rw [hx] at h1' h2'
          simp at h1' h2'
          subst h1'; subst h2'
          obtain rfl : i = M.β.length := by omega
          exact ⟨h.sizeB, fam st, heap_alloc_new w (fam st), .inr (.inr (.inl ⟨fam, st, if_pos rfl, rfl, rfl⟩))⟩
    ζb := fun i k ds h1 h2 h3 => by
      have h1' : (M.β ++ [w.heap.size])[i]? = some k := h1
      have h2' : (m.boxes ++ [[st.v]])[i]? = some ds := h2
      by_cases hlt : i < M.β.length
      · rw [List.getElem?_append_left hlt] at h1'
        rw [List.getElem?_append_left (by rw [← h.lβ]; exact hlt)] at h2'
        exact hg1.ζb i k ds h1' h2' h3
      · have hle : M.β.length ≤ i := by omega
        rw [List.getElem?_append_right hle] at h1'
        rw [List.getElem?_append_right (by rw [← h.lβ]; exact hle), ← h.lβ] at h2'
        cases hx : i - M.β.length with
        | succ q => rw [hx] at h1'; simp at h1'
        | zero =>
          rw [hx] at h2'
          simp at h2'
          subst h2'
          rw [St.obj] at h3
          cases h3
    κlt := fun j fam' hfj => by
      have hfj' : (if j = M.β.length then some fam else M.κ j) = some fam' := hfj
      simp only [List.length_append, List.length_cons, List.length_nil]
      split at hfj'
      · omega
      · have := h.κlt j fam' hfj'; omega
    lγ := h.lγ
    row := hg1.row
    gen := fun t G x h1 h2 => by
      obtain ⟨k1, k2, k3⟩ := hg1.gen t G x h1 h2
      refine ⟨k1, k2, ?_⟩
      simp only [List.mem_append, List.mem_singleton, not_or]
      exact ⟨k3, hf.2.2 t G x h1 h2⟩
    sep := h.sep }

/-- What a box of an object says of the heap. -/
theorem Good.obj (h : Good B I0 w0 M m w) {i g : Nat} {fam : St → Obj} (hi : M.β[i]? = some g) (hf : M.κ i = some fam) : ∃ st, w.heap[g]? = some (fam st) ∧ m.boxes[i]? = some [st.v] := by
  have hlt : i < m.boxes.length := by rw [← h.lβ]; exact lt_of_some hi
  obtain ⟨_, ob, hh, hr⟩ := h.box i g _ hi (List.getElem?_eq_getElem hlt)
  rcases hr with ⟨k, _⟩ | ⟨k, _⟩ | ⟨fam', st, k, rfl, hcs⟩ | ⟨k, _⟩ | ⟨k, _⟩
  · rw [hf] at k; cases k
  · rw [hf] at k; cases k
  · rw [hf] at k
    cases k
    exact ⟨st, hh, by rw [List.getElem?_eq_getElem hlt, hcs]⟩
  · rw [hf] at k; cases k
  · rw [hf] at k; cases k
end
end Go.Av

namespace Go.Av
open Go.RowKit

theorem chunkV_length (sz : Nat) : ∀ (n : Nat) (l : List V), (chunkV sz n l).length = n
  | 0, _ => rfl
  | n + 1, l => by simp [chunkV, chunkV_length sz n]
theorem chunkV_flat (sz : Nat) : ∀ (n : Nat) (l : List V), n * sz ≤ l.length → (chunkV sz n l).flatten = l.take (n * sz) ∧ ∀ e ∈ chunkV sz n l, e.length = sz
  | 0, l, _ => by simp [chunkV]
  | n + 1, l, h => by
    rw [Nat.add_mul, Nat.one_mul] at h
    obtain ⟨h1, h2⟩ := chunkV_flat sz n (l.drop sz) (by simp; omega)
    refine ⟨?_, ?_⟩
    · rw [chunkV, List.flatten_cons, h1, Nat.add_mul, Nat.one_mul, Nat.add_comm (n * sz) sz, List.take_add]
    · intro e he
      rw [chunkV] at he
      rcases List.mem_cons.1 he with rfl | he
      · simp; omega
      · exact h2 e he
/-- In pieces as they were. -/
theorem chunkV_of {sz : Nat} : ∀ (xs : List (List V)), (∀ e ∈ xs, e.length = sz) → ∀ r, chunkV sz xs.length (xs.flatten ++ r) = xs
  | [], _, _ => rfl
  | e :: xs, h, r => by
    have he := h e (List.mem_cons_self ..)
    rw [List.length_cons, chunkV, List.flatten_cons, List.append_assoc, List.take_left' he, List.drop_left' he, chunkV_of xs (fun e he => h e (List.mem_cons_of_mem _ he)) r]

section
variable {B : Nat} {I0 : Nat → Nat → Prop} {w0 w : World} {M : Mp} {m : Mem}
theorem Good.ndSet' (h : Good B I0 w0 M m w) (i : Nat) {a b q : Nat} (ha : M.β[a]? = some q) (hb : M.β[b]? = some q) : (m.boxes.set i deadC)[a]? = some deadC ∨ (m.boxes.set i deadC)[b]? = some deadC ∨ a = b := by
  have key : ∀ {j : Nat}, M.β[j]? = some q → m.boxes[j]? = some deadC → (m.boxes.set i deadC)[j]? = some deadC := fun {j} hj k => by
    by_cases e : i = j
    · subst e; exact List.getElem?_set_self (lt_of_some k)
    · exact (List.getElem?_set_ne e).trans k
  rcases h.nd a b q ha hb with k | k | k
  · exact .inl (key ha k)
  · exact .inr (.inl (key hb k))
  · exact .inr (.inr k)
/-- A box is not known any more. -/
theorem Good.kill (h : Good B I0 w0 M m w) {i : Nat} {cs : List V} (hb : m.boxes[i]? = some cs) (hno : isObj cs = false) : Good B I0 w0 M { m with boxes := m.boxes.set i deadC } w := by
  have hlt : i < m.boxes.length := lt_of_some hb
  exact {
    below := h.below
    sizeB := h.sizeB
    i0 := h.i0
    i1 := h.i1
    ilt := h.ilt
    lβ := by simpa using h.lβ
    nd := fun a b q ha hb => h.ndSet' i ha hb
    iβ := fun b o hI j hj => by
      by_cases hij : i = j
      · subst hij; exact List.getElem?_set_self hlt
      · exact (List.getElem?_set_ne hij).trans (h.iβ b o hI j hj)
    box := fun j k ds h1 h2 => by
      by_cases hij : i = j
      · subst hij
        rw [List.getElem?_set_self hlt] at h2
        cases h2
        obtain ⟨hB, ob, hh, hr⟩ := h.box i k cs h1 hb
        exact ⟨hB, ob, hh, .inr (.inr (.inr (.inr ⟨hr.κ hno, rfl⟩)))⟩
      · rw [List.getElem?_set_ne hij] at h2
        exact h.box j k ds h1 h2
    κlt := h.κlt
    ζb := fun j k ds h1 h2 h3 => by
      by_cases hij : i = j
      · subst hij
        rw [List.getElem?_set_self hlt] at h2
        cases h2
        cases h3
      · rw [List.getElem?_set_ne hij] at h2
        exact h.ζb j k ds h1 h2 h3
    lγ := h.lγ
    row := h.row
    gen := h.gen
    sep := h.sep }
/-- A box under another name. -/
theorem Good.alias (h : Good B I0 w0 M m w) {i g z q : Nat} {cs : List V} (hi : M.β[i]? = some g) (hb : m.boxes[i]? = some cs) (hno : isObj cs = false) (hno' : isObj (cs.take q) = false) (hz : z ≤ M.ζ i) :
    Good B I0 w0 (M.addZ g z) { m with boxes := m.boxes.set i deadC ++ [cs.take q] } w := by
  have hk := h.kill hb hno
  obtain ⟨hB, ob, hh, hr⟩ := h.box i g cs hi hb
  obtain ⟨vs, T, rfl, hle, hl, ho⟩ := hr.cells hno
  obtain ⟨vs1, T1, hh1, hz1⟩ := h.ζb i g cs hi hb hno
  rw [hh] at hh1
  cases hh1
  have hnd : m.boxes[i]? ≠ some deadC := fun e => by rw [hb] at e; cases e; cases hno
  have hlt : i < m.boxes.length := lt_of_some hb
  have htk : vs.toList.take (cs.take q).length = (vs.toList.take cs.length).take q := by
    rw [List.length_take, List.take_take]
  refine hk.addBoxD (g := g) (cs := cs.take q) hh hB (fun j hj => ?_) (fun o hI => hnd (h.iβ g o hI i hi)) (fun t G x h1 h2 e => (h.gen t G x h1 h2).2.2 (e ▸ List.mem_of_getElem? hi)) (fun _ => ⟨vs, T, rfl, by omega⟩) (.inl ⟨hk.κnone, vs, T, rfl, by rw [List.length_take]; omega, ?_, ?_⟩)
  · show (m.boxes.set i deadC)[j]? = _
    by_cases hij : i = j
    · subst hij; exact List.getElem?_set_self hlt
    · rcases h.nd i j g hi hj with k | k | k
      · exact absurd k hnd
      · exact (List.getElem?_set_ne hij).trans k
      · exact absurd k hij
  · rw [htk]; exact hl.take q
  · rw [htk]; exact fun x hx => ho x (List.mem_of_mem_take hx)
/-- A box's cells stay as they are, from now on. -/
theorem Good.freeze (h : Good B I0 w0 M m w) {i g : Nat} {cs : List V} (hi : M.β[i]? = some g) (hb : m.boxes[i]? = some cs) (hno : isObj cs = false) :
    Good B I0 w0 (M.plus fun b o => b = g ∧ o < cs.length) { m with boxes := m.boxes.set i deadC } w ∧ RepC (M.plus fun b o => b = g ∧ o < cs.length) w cs g 0 := by
  obtain ⟨hB, ob, hh, hbr⟩ := h.box i g cs hi hb
  have hκ := hbr.κ hno
  obtain ⟨vs, T, rfl, hle, hl, ho⟩ := hbr.cells hno
  have hgm : g ∈ M.β := List.mem_of_getElem? hi
  have hlt : i < m.boxes.length := lt_of_some hb
  have hE := Mp.plus_ext M (fun b o => b = g ∧ o < cs.length) w
  have hnd : m.boxes[i]? ≠ some deadC := fun e => by rw [hb] at e; cases e; cases hno
  refine ⟨?_, ?_⟩
  · exact {
      below := h.below
      sizeB := h.sizeB
      i0 := fun b o hI => .inl (h.i0 b o hI)
      i1 := fun b o hI => hI.elim (h.i1 b o) (fun hj => .inr (hj.1 ▸ hB))
      ilt := fun b o hI => hI.elim (h.ilt b o) (fun hj => hj.1 ▸ (h.βlt hgm).1)
      lβ := by simpa [Mp.plus] using h.lβ
      nd := fun a b q ha hb => h.ndSet' i ha hb
      iβ := fun b o hI j hj => by
        have hj' : M.β[j]? = some b := hj
        by_cases hij : i = j
        · subst hij; exact List.getElem?_set_self hlt
        · rw [List.getElem?_set_ne hij]
          rcases hI with hI | ⟨e, _⟩
          · exact h.iβ b o hI j hj'
          · rcases h.nd i j g hi (e ▸ hj') with k | k | k
            · exact absurd k hnd
            · exact k
            · exact absurd k hij
      box := fun j k ds h1 h2 => by
        have h1' : M.β[j]? = some k := h1
        by_cases hij : i = j
        · subst hij
          rw [hi] at h1'
          cases h1'
          rw [List.getElem?_set_self hlt] at h2
          cases h2
          exact ⟨hB, _, hh, .inr (.inr (.inr (.inr ⟨hκ, rfl⟩)))⟩
        · rw [List.getElem?_set_ne hij] at h2
          obtain ⟨hB', ob', hh', hr'⟩ := h.box j k ds h1' h2
          exact ⟨hB', ob', hh', hr'.mono hE (lt_of_some h1')⟩
      κlt := h.κlt
      ζb := fun j k ds h1 h2 h3 => by
        by_cases hij : i = j
        · subst hij
          rw [List.getElem?_set_self hlt] at h2
          cases h2
          cases h3
        · rw [List.getElem?_set_ne hij] at h2
          exact h.ζb j k ds h1 h2 h3
      lγ := h.lγ
      row := fun t G e sz n h1 h2 => by
        rcases h.row t G e sz n h1 h2 with h0 | ⟨g', c, xs, h3, h4, h5, h6⟩
        · exact .inl h0
        · refine .inr ⟨g', c, xs, h3, h4, h5, fun o hI => hI.elim (h6 o) (fun hj => absurd (hj.1 ▸ hgm) (h.gen t G _ h1 h3).2.2)⟩
      gen := h.gen
      sep := h.sep }
  · refine RepC.of_get fun j v hj => ?_
    obtain ⟨x, hx, hr⟩ := hl.get hj
    have hjl := lt_of_some hj
    refine ⟨x, .inr ⟨rfl, by simpa using hjl⟩, ?_, ho x (List.mem_of_getElem? hx), Rep.mono hE _ _ hr⟩
    rw [cell_of_row w g _ vs T (0, 0) hh]
    rw [List.getElem?_take, if_pos hjl] at hx
    simpa using hx
end

-- From the compact form back to the operation.
theorem nilT_eq {P : Program} {ty : TypeId} {own : Bool} {k : K} (h : nilT P ty own = some k) : ∃ e sz, k = .nil e sz own := by
  unfold nilT at h
  split at h
  · split at h
    · exact ⟨_, _, (Option.some.inj h).symm⟩
    · cases h
  · cases h
section
variable {P : Program} {own ex : Bool} {ty : TypeId} {op : Op}
theorem inv_mov {x : X} (h : compK P own ex ty op = some (.mov x)) : ∃ x0, (op = .move x0 ∨ op = .assign x0) ∧ compX x0 = some x := by
  unfold compK at h
  split at h
  all_goals first
    | (simp only [Option.map_eq_some_iff] at h; obtain ⟨y, hy, e⟩ := h; cases e; done)
    | (split at h
       · rename_i e
         split at e
         · cases h
           obtain ⟨_, _, h'⟩ := nilT_eq e
           cases h'
         · cases e
       · simp only [Option.map_eq_some_iff] at h
         obtain ⟨y, hy, e⟩ := h
         cases e
         first
           | exact ⟨_, .inl rfl, hy⟩
           | exact ⟨_, .inr rfl, hy⟩)
    | (exfalso; revert h; repeat' split
       all_goals simp)
theorem inv_ixs {x y : X} {sz : Nat} (h : compK P own ex ty op = some (.ixs x y sz)) : ∃ T e x0 y0 i, op = .indexAddr T x0 y0 ∧ P.underlying T = some (.slice e) ∧ P.info? e = some i ∧ compX x0 = some x ∧ compX y0 = some y ∧ sz = i.size := by
  unfold compK at h
  split at h
  all_goals first
    | (simp only [Option.map_eq_some_iff] at h; obtain ⟨y, hy, e⟩ := h; cases e; done)
    | (split at h
       · rename_i e
         split at e
         · cases h
           obtain ⟨_, _, h'⟩ := nilT_eq e
           cases h'
         · cases e
       · simp only [Option.map_eq_some_iff] at h
         obtain ⟨y, hy, e⟩ := h
         cases e
         done)
    | (split at h
       · simp only [Option.map_eq_some_iff] at h
         obtain ⟨i, hi, e⟩ := h
         cases e
         exact ⟨_, _, _, _, i, rfl, by assumption, hi, by assumption, by assumption, rfl⟩
       · simp only [Option.map_eq_some_iff] at h
         obtain ⟨i, hi, e⟩ := h
         cases e
       · cases h)
    | (exfalso; revert h; repeat' split
       all_goals simp)
theorem inv_len {x : X} (h : compK P own ex ty op = some (.len x)) : ∃ T e x0, op = .call { callee := .builtin .len, args := #[x0], argTypes := #[T] } ∧ P.underlying T = some (.slice e) ∧ compX x0 = some x := by
  unfold compK at h
  split at h
  case h_20 b args tys =>
    split at h
    case h_1 x0 T e1 e2 =>
      split at h
      · cases h
        have h1 : args = #[x0] := by simpa using congrArg List.toArray e1
        have h2 : tys = #[T] := by simpa using congrArg List.toArray e2
        subst h1 h2
        exact ⟨T, _, x0, rfl, by assumption, by assumption⟩
      · cases h
      · cases h
    all_goals (exfalso; revert h; repeat' split
               all_goals simp)
  all_goals first
    | (simp only [Option.map_eq_some_iff] at h; obtain ⟨y, hy, e⟩ := h; cases e; done)
    | (split at h
       · rename_i e
         split at e
         · cases h
           obtain ⟨_, _, h'⟩ := nilT_eq e
           cases h'
         · cases e
       · simp only [Option.map_eq_some_iff] at h
         obtain ⟨y, hy, e⟩ := h
         cases e
         done)
    | (exfalso; revert h; repeat' split
       all_goals simp)
theorem inv_app {x y : X} {e sz bytes : Nat} {ow : Bool} (h : compK P own ex ty op = some (.app x y e sz bytes ow)) : ∃ T x0 y0 i z0, op = .call { callee := .builtin .append, args := #[x0, y0], argTypes := #[T, T] } ∧ P.underlying T = some (.slice e) ∧ P.info? e = some i ∧ i.zero = some z0 ∧
    z0.cells.size = i.size ∧ 0 < i.bytes ∧ compX x0 = some x ∧ compX y0 = some y ∧ sz = i.size ∧ bytes = i.bytes := by
  unfold compK at h
  split at h
  case h_20 b args tys =>
    split at h
    case h_2 x0 y0 T T' e1 e2 =>
      split at h
      case h_2 => cases h
      rename_i h1 h2 h3
      split at h
      case h_2 => cases h
      rename_i i hi
      split at h
      case h_2 => cases h
      rename_i z hz
      split at h
      case isFalse => cases h
      rename_i hc
      cases h
      obtain ⟨rfl, h4, h5⟩ := hc
      have h1' : args = #[x0, y0] := by simpa using congrArg List.toArray e1
      have h2' : tys = #[T, T] := by simpa using congrArg List.toArray e2
      subst h1' h2'
      exact ⟨T, x0, y0, i, z, rfl, h3, hi, hz, h4, h5, h1, h2, rfl, rfl⟩
    all_goals (exfalso; revert h; repeat' split
               all_goals simp)
  all_goals first
    | (simp only [Option.map_eq_some_iff] at h; obtain ⟨y, hy, e⟩ := h; cases e; done)
    | (split at h
       · rename_i e
         split at e
         · cases h
           obtain ⟨_, _, h'⟩ := nilT_eq e
           cases h'
         · cases e
       · simp only [Option.map_eq_some_iff] at h
         obtain ⟨y, hy, e⟩ := h
         cases e
         done)
    | (exfalso; revert h; repeat' split
       all_goals simp)
theorem inv_mks {x y : X} {e sz bytes : Nat} {z : List V} {ow : Bool} (h : compK P own ex ty op = some (.mks x y e sz bytes z ow)) : ∃ T x0 y0 i z0 ts, op = .makeSlice T x0 y0 ∧ P.underlying T = some (.slice e) ∧ P.info? e = some i ∧ i.zero = some z0 ∧
    z0.cells.size = i.size ∧ 0 < i.size ∧ 0 < i.bytes ∧ z0.cells.toList.all plain = true ∧ compX x0 = some x ∧ compX y0 = some y ∧ sz = i.size ∧ bytes = i.bytes ∧ z = mkZ z0.cells.toList ts := by
  unfold compK at h
  split at h
  case h_18 T x0 y0 =>
    split at h
    case h_2 => cases h
    rename_i h1 h2 h3
    split at h
    case h_2 => cases h
    rename_i i hi
    split at h
    case h_2 => cases h
    rename_i z0 hz
    split at h
    case isFalse => cases h
    rename_i hc
    cases h
    exact ⟨T, x0, y0, i, z0, _, rfl, h3, hi, hz, hc.1, hc.2.1, hc.2.2.1, hc.2.2.2, h1, h2, rfl, rfl, rfl⟩
  all_goals first
    | (simp only [Option.map_eq_some_iff] at h; obtain ⟨y, hy, e⟩ := h; cases e; done)
    | (split at h
       · rename_i e
         split at e
         · cases h
           obtain ⟨_, _, h'⟩ := nilT_eq e
           cases h'
         · cases e
       · simp only [Option.map_eq_some_iff] at h
         obtain ⟨y, hy, e⟩ := h
         cases e
         done)
    | (exfalso; revert h; repeat' split
       all_goals simp)
end

section
variable {P : Program} {o : Oper} {a : Act} {w : World} {M : Mp} {m : Mem} {n : Nat} {s : Nat → V} {B : Nat} {I0 : Nat → Nat → Prop} {w0 : World}
theorem sound_frz {x : Operand} {x' : X} {off sz k b : Nat} {cs : List V} (ho : o.op = .move x ∨ o.op = .assign x) (hx : compX x = some x') (hs : Slots M w n s a) (hg : Good B I0 w0 M m w) (hv : x'.ev s = .ref (.sli off sz k) b) (hb : m.boxes[b]? = some cs) (hno : isObj cs = false) (hl : off + k * sz ≤ cs.length) :
    Sound P o a w M B I0 w0 (.lit sz (chunkV sz k (cs.drop off))) { m with boxes := m.boxes.set b deadC } := by
  have hr := comp_ev hx hs
  rw [hv] at hr
  obtain ⟨g, c, hx2, hc, hβ⟩ := hr
  obtain ⟨hg2, hr2⟩ := hg.freeze hβ hb hno
  obtain ⟨f1, f2⟩ := chunkV_flat sz k (cs.drop off) (by simp; omega)
  refine ⟨a.eval x, w, _, .inl (by rcases ho with ho | ho <;> (unfold execOp; rw [ho]; rfl)), Mp.plus_ext M _ w, hg2, ?_⟩
  rw [hx2]
  refine .inr ⟨⟨g, off, none⟩, c, by rw [chunkV_length]; rfl, by rw [chunkV_length]; exact hc, .inr rfl, f2, RepX.of_flat ?_⟩
  rw [f1]
  have := (hr2.drop off).take (k * sz)
  simpa using this
theorem sound_ixr {T e : TypeId} {x y : Operand} {x' y' : X} {i : TypeInfo} {ik : IntKind} {q : Int} {off k b : Nat} (ho : o.op = .indexAddr T x y) (hT : P.underlying T = some (.slice e)) (hi : P.info? e = some i)
    (hx : compX x = some x') (hy : compX y = some y') (hs : Slots M w n s a) (hg : Good B I0 w0 M m w) (h : x'.ev s = .ref (.sli off i.size k) b) (hq : y'.ev s = .val (.int ik q)) (h0 : 0 ≤ q) (h1 : q < k) :
    Sound P o a w M B I0 w0 (.ptr b (off + q.toNat * i.size)) m := by
  have hr := comp_ev hx hs
  rw [h] at hr
  obtain ⟨g, c, k1, hc, hβ⟩ := hr
  have k6 := comp_ev hy hs
  rw [hq] at k6
  obtain ⟨k6, _⟩ := k6
  refine sound_same hg (x := .pointer (some ⟨g, off + q.toNat * i.size, none⟩)) ?_ ⟨g, rfl, hβ⟩
  unfold execOp
  rw [ho]
  simp [Instr.indexAt, k1, Rk.val, k6, run_underlying hT, asIntOf, h0, h1, run_sizeOf hi, Addr.add_mid]
theorem sound_lnr {T e : TypeId} {x : Operand} {x' : X} {off sz k b : Nat} (ho : o.op = .call { callee := .builtin .len, args := #[x], argTypes := #[T] }) (hT : P.underlying T = some (.slice e))
    (hx : compX x = some x') (hs : Slots M w n s a) (hg : Good B I0 w0 M m w) (h : x'.ev s = .ref (.sli off sz k) b) : Sound P o a w M B I0 w0 (.val (.int .i64 k)) m := by
  have hr := comp_ev hx hs
  rw [h] at hr
  obtain ⟨g, c, hv, hc, hβ⟩ := hr
  refine sound_same hg (x := .int .i64 k) ?_ ⟨rfl, rfl⟩
  unfold execOp
  rw [ho]
  simp [resolve, invoke, builtin, hv, Rk.val, Builtin.len_, run_underlying hT, goInt]
theorem RepL.repl {l : List V} {us : List Value} (h : RepL M w l us) : ∀ k, RepL M w (List.replicate k l).flatten (List.replicate k us).flatten
  | 0 => rfl
  | k + 1 => by
    simp only [List.replicate_succ, List.flatten_cons]
    exact h.append (RepL.repl h k)
theorem sound_mkb (ts : List (Option Nat)) {T e : TypeId} {x y : Operand} {x' y' : X} {i : TypeInfo} {z : Value} {q : Int} (ho : o.op = .makeSlice T x y) (hT : P.underlying T = some (.slice e)) (hi : P.info? e = some i) (hz : i.zero = some z)
    (hzs : z.cells.size = i.size) (h0 : 0 < i.size) (hp : z.cells.toList.all plain = true) (hx : compX x = some x') (hy : compX y = some y') (hs : Slots M w n s a) (hg : Good B I0 w0 M m w)
    (h1 : x'.ev s = .val (.int .i64 q)) (h2 : y'.ev s = .val (.int .i64 q)) (hq : 0 ≤ q) (hb : q * i.bytes ≤ 140737488355328) (h63 : q ≤ 9223372036854775807) :
    Sound P o a w M B I0 w0 (.ref (.sli 0 i.size q.toNat) m.boxes.length) { m with boxes := m.boxes ++ [(List.replicate q.toNat (mkZ z.cells.toList ts)).flatten] } := by
  have k1 := comp_ev hx hs
  rw [h1] at k1
  obtain ⟨k1, _⟩ := k1
  have k2 := comp_ev hy hs
  rw [h2] at k2
  obtain ⟨k2, _⟩ := k2
  have hrun : (execOp a.eval o).run P w = .ok (.value (.slice (some ⟨w.heap.size, 0, none⟩) q.toNat q.toNat)) (w.alloc (.cells (madeCells z.cells (q.toNat * i.size)) e)) := by
    have := run_make (P := P) w T e i z hT hi hz .i64 .i64 q q hq (Int.le_refl _) (by rw [Int.mul_comm]; omega) h63
    unfold execOp
    rw [ho]
    simp [k1, k2, this]
  have hbw := below_alloc_self w (.cells (madeCells z.cells (q.toNat * i.size)) e)
  have hg1 := hg.grow hbw
  have hE1 := hg.ext hbw
  have hf := hg.fresh (Nat.le_refl _)
  have hzr : RepL M (w.alloc (.cells (madeCells z.cells (q.toNat * i.size)) e)) (List.replicate q.toNat (mkZ z.cells.toList ts)).flatten (madeCells z.cells (q.toNat * i.size)).toList := by
    rw [made_flat z.cells i.size hzs h0]
    exact RepL.repl (RepL.mkZ ts hp) _
  have hone : ∀ u ∈ (madeCells z.cells (q.toNat * i.size)).toList, u.oneCell' = true := fun u hu => by
    rw [made_flat z.cells i.size hzs h0] at hu
    simp only [List.mem_flatten] at hu
    obtain ⟨l, hl, hul⟩ := hu
    rw [(List.mem_replicate.1 hl).2] at hul
    exact plain_one (List.all_eq_true.1 hp u hul)
  have hg2 := hg1.addBox (g := w.heap.size) (cs := (List.replicate q.toNat (mkZ z.cells.toList ts)).flatten) (heap_alloc_new w _) hg.sizeB hf.1 hf.2.1 hf.2.2 (.full hg.κnone hzr hone)
  refine ⟨_, _, _, .inl hrun, hE1.trans (Mp.addB_ext M _ _), hg2, ⟨w.heap.size, q.toNat, rfl, Nat.le_refl _, ?_⟩⟩
  simp [Mp.addB, Mp.addZ, hg.lβ]
theorem inv_mkl {own ex : Bool} {ty : TypeId} {op : Op} {e sz : Nat} {xs : List X} {ow : Bool} (h : compK P own ex ty op = some (.mkl e sz xs ow)) : ∃ T len parts i, op = .buildSlice T len parts ∧ P.underlying T = some (.slice e) ∧ P.info? e = some i ∧ compXs (parts.toList.map (·.2)) = some xs ∧
    parts.toList.map (·.1) = List.range' 0 len ∧ sz = i.size := by
  unfold compK at h
  split at h
  case h_17 T len parts =>
    split at h
    case h_2 => cases h
    rename_i h1 h2
    split at h
    case h_2 => cases h
    rename_i i hi
    split at h
    case h_2 => cases h
    rename_i z0 hz
    split at h
    case isFalse => cases h
    rename_i hc
    cases h
    exact ⟨T, len, parts, i, rfl, h1, hi, h2, hc.2.1, rfl⟩
  all_goals first
    | (simp only [Option.map_eq_some_iff] at h; obtain ⟨y, hy, e⟩ := h; cases e; done)
    | (split at h
       · rename_i e
         split at e
         · cases h
           obtain ⟨_, _, h'⟩ := nilT_eq e
           cases h'
         · cases e
       · simp only [Option.map_eq_some_iff] at h
         obtain ⟨y, hy, e⟩ := h
         cases e
         done)
    | (exfalso; revert h; repeat' split
       all_goals simp)
theorem compXs_nil {l : List Operand} (h : compXs l = some []) : l = [] := by
  cases l with
  | nil => rfl
  | cons x l =>
    exfalso
    simp only [compXs, List.mapM_cons, Option.pure_def, Option.bind_eq_bind, Option.bind_eq_some_iff] at h
    obtain ⟨y, _, r, _, e⟩ := h
    cases e
theorem sound_eml {T e : TypeId} {len : Nat} {parts : Array (Nat × Operand)} {i : TypeInfo} (ho : o.op = .buildSlice T len parts) (hT : P.underlying T = some (.slice e)) (hi : P.info? e = some i) (hc : compXs (parts.toList.map (·.2)) = some [])
    (hlen : parts.toList.map (·.1) = List.range' 0 len) (hg : Good B I0 w0 M m w) (sz : Nat) : Sound P o a w M B I0 w0 (.full sz []) m := by
  have hp := compXs_nil hc
  have hp0 : parts = #[] := Array.toList_eq_nil_iff.1 (List.map_eq_nil_iff.1 hp)
  subst hp0
  have hl0 : len = 0 := by simpa using (congrArg List.length hlen).symm
  subst hl0
  have hrun : ∃ cells : Array Value, (execOp a.eval o).run P w = .ok (.value (.slice (some ⟨w.heap.size, 0, none⟩) 0 0)) (w.alloc (.cells cells e)) := by
    refine ⟨#[], ?_⟩
    unfold execOp
    rw [ho]
    simp [Instr.buildSlice, run_underlying hT, run_sizeOf hi, Instr.fill, newRow, Array.range_zero']
  obtain ⟨cells, hrun⟩ := hrun
  have hb := below_alloc_self w (.cells cells e)
  exact ⟨_, _, M, .inl hrun, hg.ext hb, hg.grow hb, .inr ⟨⟨w.heap.size, 0, none⟩, rfl, .inl rfl, fun _ h => (by cases h), trivial⟩⟩
/-- As a slice of a box. -/
def V.asRef : V → V
  | .buf off sz n _ b => .ref (.sli off sz n) b
  | v => v
theorem Rep.asRef {M : Mp} {w : World} {v : V} {x : Value} (h : Rep M w v x) : Rep M w v.asRef x := by
  cases v with
  | buf off sz n lc b =>
    obtain ⟨g, c, rfl, h1, h2, _, h3, _⟩ := h
    exact ⟨g, c, rfl, Nat.le_trans h1 h2, h3⟩
  | _ => exact h
theorem Slots.asRef {M : Mp} {w : World} {n : Nat} {s : Nat → V} {a : Act} (hs : Slots M w n s a) : Slots M w n (fun t => (s t).asRef) a := ⟨hs.1, fun t => (hs.2 t).asRef⟩
theorem X.ev_asRef (x : X) (s : Nat → V) : x.ev (fun t => (s t).asRef) = (x.ev s).asRef := by cases x <;> rfl
theorem mem_sound {own ex : Bool} {ty : TypeId} {k0 : K} {mo : Mo} {xs : List X} {v : V} {m' : Mem} (hc : compK P own ex ty o.op = some k0) (hm : memOf k0 = some (mo, xs)) (hs : Slots M w n s a) (hg : Good B I0 w0 M m w) (h : memE mo (xs.map (·.ev s)) m = some (v, m')) : Sound P o a w M B I0 w0 v m' := by
  cases k0 <;> try simp only [memOf, Option.some.injEq, Prod.mk.injEq, reduceCtorEq] at hm
  case mov x1 =>
    obtain ⟨rfl, rfl⟩ := hm
    obtain ⟨x0, ho, hx⟩ := inv_mov hc
    simp only [memE, List.map_cons, List.map_nil] at h
    split at h
    · rename_i off sz k b e
      simp only [List.cons.injEq, and_true] at e
      split at h
      · rename_i cs hb
        split at h
        · rename_i hcd
          cases h
          exact sound_frz ho hx hs hg e hb hcd.1 hcd.2
        · cases h
      · cases h
    · rename_i off sz k lc b e
      simp only [List.cons.injEq, and_true] at e
      split at h
      · rename_i cs hb
        split at h
        · rename_i hcd
          cases h
          exact sound_frz ho hx hs.asRef hg (by rw [X.ev_asRef, e]; rfl) hb hcd.1 hcd.2
        · cases h
      · cases h
    · rename_i v0 _ _ e
      simp only [List.cons.injEq, and_true] at e
      split at h
      · cases h
        rw [← e]
        exact sound_same hg (x := a.eval x0) (by rcases ho with ho | ho <;> (unfold execOp; rw [ho]; rfl)) (comp_ev hx hs)
      · cases h
    · cases h
  case ixs x1 y1 sz =>
    obtain ⟨rfl, rfl⟩ := hm
    obtain ⟨T, e, x0, y0, i, ho, hT, hi, hx, hy, rfl⟩ := inv_ixs hc
    simp only [memE, List.map_cons, List.map_nil] at h
    split at h
    · rename_i off sz' k b ik q e1
      simp only [List.cons.injEq, and_true] at e1
      split at h
      · rename_i hcd
        cases h
        rw [hcd.1] at e1
        exact sound_ixr ho hT hi hx hy hs hg e1.1 e1.2 hcd.2.1 hcd.2.2
      · cases h
    · rename_i off sz' k lc b ik q e1
      simp only [List.cons.injEq, and_true] at e1
      split at h
      · rename_i hcd
        cases h
        obtain ⟨rfl, hcd⟩ := hcd
        exact sound_ixr ho hT hi hx hy hs.asRef hg (by rw [X.ev_asRef, e1.1]; rfl) (by rw [X.ev_asRef, e1.2]; rfl) hcd.1 hcd.2
      · cases h
    · cases h
  case len x1 =>
    obtain ⟨rfl, rfl⟩ := hm
    obtain ⟨T, e, x0, ho, hT, hx⟩ := inv_len hc
    simp only [memE, List.map_cons, List.map_nil] at h
    split at h
    · rename_i e1
      simp only [List.cons.injEq, and_true] at e1
      cases h
      exact sound_lnr ho hT hx hs hg e1
    · rename_i e1
      simp only [List.cons.injEq, and_true] at e1
      cases h
      exact sound_lnr (off := _) (sz := _) (b := _) ho hT hx hs.asRef hg (by rw [X.ev_asRef, e1]; rfl)
    · rename_i v0 _ _ e1
      simp only [List.cons.injEq, and_true] at e1
      subst e1
      exact sound_lens ho hT hx hs hg h
    · cases h
  case app x1 y1 e sz bytes ow =>
    obtain ⟨rfl, rfl⟩ := hm
    obtain ⟨T, x0, y0, i, z0, ho, hT, hi, hz, hzs, hb0, hx, hy, rfl, rfl⟩ := inv_app hc
    simp only [memE, List.map_cons, List.map_nil] at h
    split at h
    · rename_i y e1
      simp only [List.cons.injEq, and_true] at e1
      split at h
      · rename_i sz' ys e2
        split at h
        · rename_i hcd
          cases h
          obtain ⟨rfl, hne, hby⟩ := hcd
          exact sound_apb ho hT hi hz hzs hb0 hx hy hs hg (.inl e1.1) (by rw [e1.2]; exact e2) hne hby
        · cases h
      · cases h
    · rename_i szx y e1
      simp only [List.cons.injEq, and_true] at e1
      split at h
      · rename_i sz' ys e2
        split at h
        · rename_i hcd
          cases h
          obtain ⟨rfl, rfl, hne, hby⟩ := hcd
          exact sound_apb ho hT hi hz hzs hb0 hx hy hs hg (.inr e1.1) (by rw [e1.2]; exact e2) hne hby
        · cases h
      · cases h
    · cases h
  case mkl e sz l ow =>
    cases l with
    | cons x l => simp at hm
    | nil =>
      simp only [Option.some.injEq, Prod.mk.injEq] at hm
      obtain ⟨rfl, rfl⟩ := hm
      obtain ⟨T, len, parts, i, ho, hT, hi, hx, hl, rfl⟩ := inv_mkl hc
      simp only [memE, List.map_nil] at h
      cases h
      exact sound_eml ho hT hi hx hl hg _
  case mks n1 c1 e sz bytes z ow =>
    obtain ⟨rfl, rfl⟩ := hm
    obtain ⟨T, x0, y0, i, z0, ts, ho, hT, hi, hz, hzs, h0, hb0, hp, hx, hy, rfl, rfl, rfl⟩ := inv_mks hc
    simp only [memE, List.map_cons, List.map_nil] at h
    split at h
    · rename_i q q2 e1
      simp only [List.cons.injEq, and_true] at e1
      split at h
      · rename_i hcd
        cases h
        obtain ⟨rfl, hq, hqb⟩ := hcd
        have hbb : (1 : Int) ≤ i.bytes := by omega
        have : q ≤ q * i.bytes := by
          have := Int.mul_le_mul_of_nonneg_left hbb hq
          omega
        exact sound_mkb ts ho hT hi hz hzs h0 hp hx hy hs hg e1.1 e1.2 hq hqb (by omega)
      · cases h
    · cases h
theorem sound_ixv {T e : TypeId} {x y : Operand} {i : TypeInfo} {len : Nat} {l : List V} {ik : IntKind} {q : Int} (ho : o.op = .index T x y) (hT : P.underlying T = some (.array len e)) (hi : P.info? e = some i) (hagg : aggT P e = true)
    (k1 : Rep M w (.agg l) (a.eval x)) (k2 : Rep M w (.val (.int ik q)) (a.eval y)) (hg : Good B I0 w0 M m w) (h0 : 0 ≤ q) (h1 : q < len) (h2 : q.toNat * i.size + i.size ≤ l.length) :
    Sound P o a w M B I0 w0 (.agg ((l.drop (q.toNat * i.size)).take i.size)) m := by
  obtain ⟨vs, k1, k3⟩ := k1
  obtain ⟨k2, _⟩ := k2
  obtain ⟨d, hd⟩ : ∃ d, P.underlying e = some d := by
    unfold aggT at hagg
    split at hagg
    · exact ⟨_, by assumption⟩
    · exact ⟨_, by assumption⟩
    · cases hagg
  refine sound_same hg (x := .agg (vs.extract (q.toNat * i.size) (q.toNat * i.size + i.size))) ?_ ⟨_, rfl, ?_⟩
  · unfold execOp
    rw [ho]
    simp [Instr.index, run_underlying hT, k1, k2, asIntOf, part, run_isAgg hd, hagg, run_sizeOf hi, h0, h1]
  · have hl := k3.length
    refine RepL.of_get ?_ (fun k v y hv hy => ?_)
    · simp at hl ⊢; omega
    · rw [List.getElem?_take] at hv
      split at hv
      · rw [List.getElem?_drop] at hv
        obtain ⟨z, hz, hrz⟩ := k3.get hv
        have : y = z := by
          have h1 : (vs.extract (q.toNat * i.size) (q.toNat * i.size + i.size))[k]? = some y := by rw [← Array.getElem?_toList]; exact hy
          have h2 : vs[q.toNat * i.size + k]? = some z := by simpa using hz
          rw [Array.getElem?_extract] at h1
          split at h1
          · rw [h2] at h1; exact (Option.some.inj h1).symm
          · cases h1
        subst this
        exact hrz
      · cases hv
theorem ext_sound {k : K} {v : V} {m' : Mem} (hc : compE P o.op = some k) (hs : Slots M w n s a) (hg : Good B I0 w0 M m w) (h : kindE k s m = some (v, m')) : Sound P o a w M B I0 w0 v m' := by
  unfold compE at hc
  split at hc
  case h_1 x ho =>
    simp only [Option.map_eq_some_iff] at hc
    obtain ⟨x', hx, rfl⟩ := hc
    have k1 := comp_ev hx hs
    simp only [kindE, memE, List.map_cons, List.map_nil] at h
    split at h
    · rename_i b off e
      simp only [List.cons.injEq, and_true] at e
      cases h
      rw [e] at k1
      have k1' := k1
      obtain ⟨g, k1, _⟩ := k1
      exact sound_same hg (x := a.eval x) (by unfold execOp; rw [ho]; simp [k1]) k1'
    · rename_i cs e
      simp only [List.cons.injEq, and_true] at e
      cases h
      rw [e] at k1
      have k1' := k1
      obtain ⟨ad, k1, _⟩ := k1
      exact sound_same hg (x := a.eval x) (by unfold execOp; rw [ho]; simp [k1]) k1'
    · cases h
  case h_2 src dst x ho =>
    split at hc
    · rename_i x' d k hx hd h2
      cases hc
      have k1 := comp_ev hx hs
      simp only [kindE, memE, List.map_cons, List.map_nil] at h
      split at h
      · rename_i ik q e
        simp only [List.cons.injEq, and_true] at e
        cases h
        rw [e] at k1
        obtain ⟨k1, _⟩ := k1
        exact sound_same hg (x := .float k (k.nearest q)) (by unfold execOp; rw [ho]; simp [k1, convert, run_underlying hd, run_underlying h2, Conv.intToFloat]) ⟨rfl, rfl⟩
      · cases h
    · cases hc
  case h_3 b args tys ho =>
    split at hc
    · rename_i x y e0
      have ha : args = #[x, y] := by simpa using congrArg List.toArray e0
      subst ha
      split at hc
      · rename_i x' y' hx hy
        cases hc
        have k1 := comp_ev hx hs
        have k2 := comp_ev hy hs
        simp only [kindE, memE, List.map_cons, List.map_nil] at h
        split at h
        · rename_i k p k' q e
          simp only [List.cons.injEq, and_true] at e
          split at h
          · rename_i hk
            cases h
            subst hk
            rw [e.1] at k1
            rw [e.2] at k2
            obtain ⟨k1, _⟩ := k1
            obtain ⟨k2, _⟩ := k2
            have hb : ∀ t1 t2, Builtin.complex_ t1 t2 #[.float k p, .float k q] = pure (.complex k p q) := fun t1 t2 => by
              show (if k = k then _ else _) = _
              rw [if_pos rfl]
            exact sound_same hg (x := .complex k p q) (by unfold execOp; rw [ho]; simp [resolve, invoke, builtin, k1, k2, hb]) ⟨rfl, rfl⟩
          · cases h
        · cases h
      · cases hc
    · rename_i x e0
      have ha : args = #[x] := by simpa using congrArg List.toArray e0
      subst ha
      simp only [Option.map_eq_some_iff] at hc
      obtain ⟨x', hx, rfl⟩ := hc
      have k1 := comp_ev hx hs
      simp only [kindE, memE, List.map_cons, List.map_nil] at h
      split at h
      · rename_i k p q e
        simp only [List.cons.injEq, and_true] at e
        cases h
        rw [e] at k1
        obtain ⟨k1, _⟩ := k1
        have hb : ∀ t1 t2, Builtin.real_ t1 t2 #[.complex k p q] = pure (.float k p) := fun t1 t2 => rfl
        exact sound_same hg (x := .float k p) (by unfold execOp; rw [ho]; simp [resolve, invoke, builtin, k1, hb]) ⟨rfl, rfl⟩
      · cases h
    · rename_i x e0
      have ha : args = #[x] := by simpa using congrArg List.toArray e0
      subst ha
      simp only [Option.map_eq_some_iff] at hc
      obtain ⟨x', hx, rfl⟩ := hc
      have k1 := comp_ev hx hs
      simp only [kindE, memE, List.map_cons, List.map_nil] at h
      split at h
      · rename_i k p q e
        simp only [List.cons.injEq, and_true] at e
        cases h
        rw [e] at k1
        obtain ⟨k1, _⟩ := k1
        have hb : ∀ t1 t2, Builtin.imag_ t1 t2 #[.complex k p q] = pure (.float k q) := fun t1 t2 => rfl
        exact sound_same hg (x := .float k q) (by unfold execOp; rw [ho]; simp [resolve, invoke, builtin, k1, hb]) ⟨rfl, rfl⟩
      · cases h
    · cases hc
  case h_4 T x y ho =>
    split at hc
    · rename_i x' y' len e hx hy hT
      split at hc
      · rename_i i hi
        split at hc
        · rename_i hagg
          cases hc
          have k1 := comp_ev hx hs
          have k2 := comp_ev hy hs
          simp only [kindE, memE, List.map_cons, List.map_nil] at h
          split at h
          · rename_i l ik q e1
            simp only [List.cons.injEq, and_true] at e1
            split at h
            · rename_i hcd
              cases h
              rw [e1.1] at k1
              rw [e1.2] at k2
              exact sound_ixv ho hT hi hagg k1 k2 hg hcd.1 hcd.2.1 hcd.2.2
            · cases h
          · cases h
        · cases hc
      · cases hc
    · cases hc
  case h_5 T x k y ho =>
    split at hc
    · rename_i kt et x' k' y' hT h1 h2 h3
      split at hc
      · rename_i hk
        cases hc
        simp only [kindE] at h
        split at h
        · rename_i b q e1 e2
          simp only [Option.map_eq_some_iff, Option.bind_eq_some_iff, Prod.mk.injEq] at h
          obtain ⟨kvs, ⟨cs, hb, hc⟩, rfl, rfl⟩ := h
          exact sound_mup (.inr ho) hT hk h1 h2 h3 hs hg e1 e2 hb hc
        · cases h
      · cases hc
    · cases hc
  case h_6 => cases hc
theorem compE_weak {k : K} {op : Op} (hc : compE P op = some k) : k.weak = k := by
  unfold compE at hc
  split at hc
  all_goals first
    | (simp only [Option.map_eq_some_iff] at hc; obtain ⟨x', hx, rfl⟩ := hc; rfl)
    | (repeat' split at hc
       all_goals first
         | (cases hc; rfl)
         | (simp only [Option.map_eq_some_iff] at hc; obtain ⟨x', hx, rfl⟩ := hc; rfl)
         | cases hc)
end
end Go.Av

namespace Go.Av
open Go.RowKit

/-- What an append of elements comes to: the box has another name behind it. -/
def apuW (sz bytes : Nat) (u : V) (ys : List (List V)) (m : Mem) (Φ : V → Mem → Prop) : Prop := match u with
  | .val (.slice none 0 0) => ys.length * bytes ≤ 140737488355328 ∧ Φ (.buf 0 sz ys.length ys.length m.boxes.length) { m with boxes := m.boxes ++ [ys.flatten] }
  | .full szx [] => (szx = sz ∧ ys.length * bytes ≤ 140737488355328) ∧ Φ (.buf 0 sz ys.length ys.length m.boxes.length) { m with boxes := m.boxes ++ [ys.flatten] }
  | .buf off szx n _ b => match m.boxes[b]? with
    | some cs => (off = 0 ∧ szx = sz ∧ (n + ys.length) * bytes ≤ 140737488355328 ∧ isObj cs = false ∧ n * sz ≤ cs.length) ∧
      Φ (.buf 0 sz (n + ys.length) (n + ys.length) m.boxes.length) { m with boxes := m.boxes.set b deadC ++ [cs.take (n * sz) ++ ys.flatten] }
    | none => False
  | _ => False
def apcW (sz bytes : Nat) (u v : V) (m : Mem) (Φ : V → Mem → Prop) : Prop := match srcV v sz with
  | some (sz', ys) => sz' = sz ∧ (ys = [] → slE u = true ∧ Φ u m) ∧ (ys ≠ [] → apuW sz bytes u ys m Φ)
  | none => False

theorem compK_noap {P : Program} {own ex : Bool} {ty : TypeId} {op : Op} {e sz bytes : Nat} {xs : List X} : ¬ compK P own ex ty op = some (.mem (.apb e sz bytes) xs) := by
  intro h
  unfold compK at h
  split at h
  all_goals first
    | (simp only [Option.map_eq_some_iff] at h; obtain ⟨y, hy, e⟩ := h; cases e; done)
    | (split at h
       · rename_i e
         split at e
         · cases h
           obtain ⟨_, _, h'⟩ := nilT_eq e
           cases h'
         · cases e
       · simp only [Option.map_eq_some_iff] at h
         obtain ⟨_, _, h⟩ := h
         cases h)
    | (exfalso; revert h; repeat' split
       all_goals simp)
theorem compE_noap {P : Program} {op : Op} {e sz bytes : Nat} {xs : List X} : ¬ compE P op = some (.mem (.apb e sz bytes) xs) := by
  intro h
  unfold compE at h
  split at h
  all_goals first
    | (simp only [Option.map_eq_some_iff] at h; obtain ⟨x', hx, h⟩ := h; cases h; done)
    | (repeat' split at h
       all_goals first
         | (simp only [Option.map_eq_some_iff] at h; obtain ⟨x', hx, h⟩ := h; cases h; done)
         | (cases h; done)
         | simp at h)
section
variable {P : Program} {o : Oper} {a : Act} {w : World} {M : Mp} {m : Mem} {n : Nat} {s : Nat → V} {B : Nat} {I0 : Nat → Nat → Prop} {w0 : World}
theorem run_append_in {t ty e : TypeId} {i : TypeInfo} (ht : P.underlying t = some (.slice e)) (hi : P.info? e = some i) {g off k c T : Nat} {vs : Array Value} (hh : w.heap[g]? = some (.cells vs T (0, 0))) {ad : Addr} {q c' : Nat} {us : List Value}
    (hl : us.length = q * i.size) (hus : ∀ (j : Nat) (u : Value), us[j]? = some u → w.cell? (ad.add j) = some u) (h1 : ∀ u ∈ us, u.oneCell' = true) (hroom : k + q ≤ c) (hsz : off + k * i.size + us.length ≤ vs.size) :
    (Builtin.append_ #[t, t] ty #[.slice (some ⟨g, off, none⟩) k c, .slice (some ad) q c']).run P w = .ok (.slice (some ⟨g, off, none⟩) (k + q) c) (w.setRow g (vs.toList.take (off + k * i.size) ++ us ++ vs.toList.drop (off + k * i.size + us.length)).toArray) := by
  have hfc := run_firstCells_some (P := P) w i.size q ad q c' us hl hus
  have hst := run_storeCells_at P g (off + k * i.size) T us 0 vs w hh (by omega) h1
  simp only [Nat.add_zero] at hst
  simp [Builtin.append_, run_underlying ht, sizeOf, typeInfo, hi, Builtin.lenOf, hroom, hfc, Addr.add_lit, hst]
theorem sound_apc {t e : TypeId} {x y : Operand} {x' y' : X} {i : TypeInfo} {z : Value} {Φ : V → Mem → Prop} (ho : o.op = .call { callee := .builtin .append, args := #[x, y], argTypes := #[t, t] }) (ht : P.underlying t = some (.slice e)) (hi : P.info? e = some i) (hz : i.zero = some z)
    (hzs : z.cells.size = i.size) (hb0 : 0 < i.bytes) (hx : compX x = some x') (hy : compX y = some y') (hs : Slots M w n s a) (hg : Good B I0 w0 M m w)
    (h : apcW i.size i.bytes (x'.ev s) (y'.ev s) m Φ) : ∃ v m', Φ v m' ∧ Sound P o a w M B I0 w0 v m' := by
  have k1 := comp_ev hx hs
  have k2 := comp_ev hy hs
  unfold apcW at h
  split at h
  case h_2 => exact h.elim
  rename_i sz' ys h2
  obtain ⟨rfl, h0, h⟩ := h
  rcases src_any k2 h2 with ⟨rfl, hsrc⟩ | ⟨hne, h2⟩
  · obtain ⟨hu, hF⟩ := h0 rfl
    refine ⟨_, _, hF, ?_⟩
    obtain ⟨base, n0, c0, kk, hn0⟩ : ∃ base n0 c0, a.eval x = .slice base n0 c0 ∧ n0 ≤ c0 := by
      unfold slE at hu
      split at hu
      · rename_i e1
        rw [e1] at k1
        exact ⟨none, 0, 0, k1.1, Nat.le_refl _⟩
      · rename_i e1
        rw [e1] at k1
        rcases k1 with ⟨_, k1⟩ | ⟨ad0, k1, _⟩
        · exact ⟨none, 0, 0, k1, Nat.le_refl _⟩
        · exact ⟨some ad0, 0, 0, k1, Nat.le_refl _⟩
      · rename_i e1
        rw [e1] at k1
        obtain ⟨g, cp, kk, j1, j2, _⟩ := k1
        exact ⟨_, _, _, kk, by omega⟩
      · cases hu
    exact sound_same hg (x := .slice base n0 c0) (exec_append ho (by rw [kk]; exact run_append_none ht hi base n0 c0 hn0 _ hsrc)) (by rw [← kk]; exact k1)
  replace h := h hne
  obtain ⟨ad, c, us, k3, k4, k5, k6, k7, k8⟩ := src_ne k2 h2 hne
  have hys := List.length_pos_iff.2 hne
  have hfl : ys.flatten.length = us.length := by rw [flatten_length k8, k4]
  have hnew : ∀ (m : Mem) (hg : Good B I0 w0 M m w) (base : Option Addr) (xs : List (List V)) (vs : List Value) (sc : Nat), a.eval x = .slice base xs.length sc → (∀ x ∈ xs, x.length = i.size) → RepL M w xs.flatten vs → (∀ b, base = some b → ∀ (j : Nat) (u : Value), vs[j]? = some u → w.cell? (b.add j) = some u) → (∀ u ∈ vs, u.oneCell' = true) →
      (base = none → xs = [] ∧ sc = 0) → sc < xs.length + ys.length → (xs.length + ys.length) * i.bytes ≤ 140737488355328 →
      Sound P o a w M B I0 w0 (.buf 0 i.size (xs.length + ys.length) (xs.length + ys.length) m.boxes.length) { m with boxes := m.boxes ++ [xs.flatten ++ ys.flatten] } := by
    intro m hg base xs vs sc kk q1 q2 q3 q4 q5 q6 q7
    obtain ⟨cap, hc1, hc2, hrun⟩ := grow_run (P := P) (ty := o.type) ht hi hz hzs hb0 hg (base := base) (xs := xs) (ys := ys) (us := vs) (vs := us) (sc := sc) (c := c) (ad := ad) q1 k8 q2 k5 q3 k6 q4 k7 q5 q6 q7
    have hbw := below_drew_alloc w (.cells (vs.toArray ++ us.toArray ++ Builtin.zeroCells z.cells (cap - (xs.length + ys.length))) e)
    have hg1 := hg.grow hbw
    have hE1 := hg.ext hbw
    have hf := hg.fresh (Nat.le_refl _)
    have hxl : vs.length = xs.length * i.size := by rw [q2.length, flatten_length q1]
    have hsz : (vs.toArray ++ us.toArray ++ Builtin.zeroCells z.cells (cap - (xs.length + ys.length))).size = cap * i.size := by
      simp only [Array.size_append, List.size_toArray, size_zeros, hzs, hxl, k4, ← Nat.add_mul]
      congr 1
      omega
    have htk : ((vs.toArray ++ us.toArray ++ Builtin.zeroCells z.cells (cap - (xs.length + ys.length))).toList).take (xs.flatten ++ ys.flatten).length = vs ++ us := by
      rw [List.length_append, hfl, ← q2.length, ← List.length_append]
      simp only [Array.toList_append]
      exact List.take_left
    have hle : (xs.flatten ++ ys.flatten).length ≤ cap * i.size := by
      rw [List.length_append, hfl, ← q2.length, hxl, k4, ← Nat.add_mul]
      exact Nat.mul_le_mul_right _ hc1
    have hg2 := hg1.addBoxZ (g := w.heap.size) (cs := xs.flatten ++ ys.flatten) (heap_alloc_new w.drew _) hg.sizeB hf.1 hf.2.1 hf.2.2 (z := cap * i.size) (fun _ => ⟨_, _, rfl, by rw [hsz]; exact Nat.le_refl _⟩) (.inl ⟨hg.κnone, _, _, rfl, by rw [hsz]; exact hle, by
      rw [htk]
      exact RepL.mono hE1 _ _ (q2.append k5), by
      rw [htk]
      intro u hu
      rcases List.mem_append.1 hu with hu | hu
      · exact q4 u hu
      · exact k7 u hu⟩)
    refine ⟨_, _, _, .inl (exec_append ho (by rw [kk, k3]; exact hrun)), hE1.trans (Mp.addZ_ext M _ _ _), hg2, ⟨w.heap.size, cap, rfl, Nat.le_refl _, hc1, hc2, ?_, ?_⟩⟩
    · simp [Mp.addZ, hg.lβ]
    · show 0 + cap * i.size ≤ (if m.boxes.length = M.β.length then cap * i.size else M.ζ m.boxes.length)
      rw [if_pos hg.lβ.symm]
      omega
  unfold apuW at h
  split at h
  · rename_i e1
    obtain ⟨hby, h⟩ := h
    rw [e1] at k1
    refine ⟨_, _, h, ?_⟩
    have := hnew m hg none [] [] 0 k1.1 (by simp) rfl (by simp) (by simp) (fun _ => ⟨rfl, rfl⟩) (by simpa using hys) (by simpa using hby)
    simpa using this
  · rename_i szx e1
    obtain ⟨⟨rfl, hby⟩, h⟩ := h
    rw [e1] at k1
    refine ⟨_, _, h, ?_⟩
    obtain ⟨base, kk⟩ : ∃ base, a.eval x = .slice base 0 0 := by
      rcases k1 with ⟨_, k1⟩ | ⟨ad0, k1, _⟩
      · exact ⟨none, k1⟩
      · exact ⟨some ad0, k1⟩
    have := hnew m hg base [] [] 0 kk (by simp) rfl (by simp) (by simp) (fun _ => ⟨rfl, rfl⟩) (by simpa using hys) (by simpa using hby)
    simpa using this
  · rename_i off szx k lc b e1
    split at h
    case h_2 => exact h.elim
    rename_i cs hb
    obtain ⟨⟨rfl, rfl, hby, hno, hle⟩, hA⟩ := h
    rw [e1] at k1
    obtain ⟨g, cp, kk, j1, j2, j3, hβ, j4⟩ := k1
    obtain ⟨_, ob, hh, hbr⟩ := hg.box b g cs hβ hb
    have hκ := hbr.κ hno
    obtain ⟨vs, Tb, rfl, hlv, hl, ho1⟩ := hbr.cells hno
    obtain ⟨vs1, T1, hh1, hz1⟩ := hg.ζb b g cs hβ hb hno
    rw [hh] at hh1
    cases hh1
    have hblt := lt_of_some hb
    have hnd : m.boxes[b]? ≠ some deadC := fun e => by rw [hb] at e; cases e; cases hno
    refine ⟨_, _, hA, ?_⟩
    by_cases hroom : k + ys.length ≤ cp
    · have hmul : (k + ys.length) * i.size ≤ cp * i.size := Nat.mul_le_mul_right _ hroom
      rw [Nat.add_mul] at hmul
      have hbd : 0 + k * i.size + us.length ≤ vs.size := by rw [k4]; omega
      have hrun := run_append_in (P := P) (ty := o.type) ht hi hh (ad := ad) (q := ys.length) (c' := c) (c := cp) (k := k) (off := 0) k4 k6 k7 hroom hbd
      have e3 : (k + ys.length) * i.size = k * i.size + us.length := by rw [k4, Nat.add_mul]
      have hqt : ((vs.toList.take (0 + k * i.size) ++ us ++ vs.toList.drop (0 + k * i.size + us.length)).toArray.toList.take (cs.take (k * i.size) ++ ys.flatten).length) = (vs.toList.take cs.length).take (k * i.size) ++ us := by
        show (vs.toList.take (0 + k * i.size) ++ us ++ vs.toList.drop (0 + k * i.size + us.length)).take _ = _
        rw [List.take_take, Nat.min_eq_left hle, Nat.zero_add]
        refine List.take_left' ?_
        simp only [List.length_append, List.length_take, Array.length_toList, hfl]
        omega
      have hsz' : (vs.toList.take (0 + k * i.size) ++ us ++ vs.toList.drop (0 + k * i.size + us.length)).toArray.size = vs.size := by
        simp only [List.size_toArray, List.length_append, List.length_take, List.length_drop, Array.length_toList]
        omega
      have hnw : isObj (cs.take (k * i.size) ++ ys.flatten) = false := by
        refine isObj_tuple (M := M) (w := w) (ws := (vs.toList.take cs.length).take (k * i.size) ++ us) ((hl.take _).append k5) fun x hx => ?_
        rcases List.mem_append.1 hx with hx | hx
        · exact ho1 x (List.mem_of_mem_take hx)
        · exact k7 x hx
      obtain ⟨hg', hE⟩ := hg.setBox (cs := cs.take (k * i.size) ++ ys.flatten) hβ hblt hh hnd hκ (by rw [hsz']; exact hz1) (by rw [hsz']; simp only [List.length_append, List.length_take, hfl]; omega) (by rw [hqt]; exact (hl.take _).append k5) (by
        rw [hqt]
        intro x hx
        rcases List.mem_append.1 hx with hx | hx
        · exact ho1 x (List.mem_of_mem_take hx)
        · exact k7 x hx)
      have hg2 := hg'.alias (z := M.ζ b) (q := (cs.take (k * i.size) ++ ys.flatten).length) hβ (List.getElem?_set_self hblt) hnw (by rw [List.take_length]; exact hnw) (Nat.le_refl _)
      rw [List.take_length] at hg2
      simp only [List.set_set] at hg2
      refine ⟨_, _, _, .inl (exec_append ho (by rw [kk, k3]; exact hrun)), hE.trans (Mp.addZ_ext M _ _ _), hg2, ⟨g, cp, rfl, Nat.le_refl _, hroom, j3, ?_, ?_⟩⟩
      · simp [Mp.addZ, hg.lβ]
      · show 0 + cp * i.size ≤ (if m.boxes.length = M.β.length then M.ζ b else M.ζ m.boxes.length)
        rw [if_pos hg.lβ.symm]
        exact j4
    · obtain ⟨f1, f2⟩ := chunkV_flat i.size k cs (by omega)
      have hxl := chunkV_length i.size k cs
      have := hnew { m with boxes := m.boxes.set b deadC } (hg.kill hb hno) (some ⟨g, 0, none⟩) (chunkV i.size k cs) ((vs.toList.take cs.length).take (k * i.size)) cp (by rw [kk, hxl]) f2 (by rw [f1]; exact hl.take _) (fun b' hb' j u hj => ?_) (fun u hu => ho1 u (List.mem_of_mem_take hu)) (fun hb' => by cases hb') (by rw [hxl]; omega) (by rw [hxl]; exact hby)
      · rw [hxl, f1] at this
        simpa using this
      · cases hb'
        rw [Addr.add_mid, cell_of_row w g _ vs Tb (0, 0) hh, Nat.zero_add]
        rw [List.getElem?_take] at hj
        split at hj
        · rw [List.getElem?_take] at hj
          split at hj
          · simpa using hj
          · cases hj
        · cases hj
  · exact h.elim
theorem apn_apc {sz bytes : Nat} {u v r : V} {m m' : Mem} (h : apnE sz bytes u v m = some (r, m')) : apcW sz bytes u v m fun r1 m1 => r1 = r ∧ m1 = m' := by
  unfold apnE at h
  unfold apcW srcV
  split at h
  · rename_i sz' ys e
    rw [e]
    split at h
    · rename_i h1
      refine ⟨h1, fun h2 => ?_, fun h2 => ?_⟩
      · rw [if_pos h2] at h
        split at h
        · rename_i h3
          cases h
          exact ⟨h3, rfl, rfl⟩
        · cases h
      · rw [if_neg h2] at h
        unfold apuE at h
        unfold apuW
        split at h
        · split at h
          · rename_i h3; cases h; exact ⟨h3, rfl, rfl⟩
          · cases h
        · split at h
          · rename_i h3; cases h; exact ⟨h3, rfl, rfl⟩
          · cases h
        · split at h
          · rename_i cs e2
            split at h
            · rename_i h3
              cases h
              simp only [e2]
              first | exact ⟨h3, rfl, rfl⟩ | exact ⟨h3, trivial, trivial⟩ | exact ⟨h3, trivial⟩
            · cases h
          · cases h
        · cases h
    · cases h
  · cases h
theorem mem_soundU {own ex u : Bool} {ty : TypeId} {k0 : K} {mo : Mo} {xs : List X} {v : V} {m' : Mem} (hc : compK P own ex ty o.op = some k0) (hm : memOfU u k0 = some (mo, xs)) (hs : Slots M w n s a) (hg : Good B I0 w0 M m w) (h : memE mo (xs.map (·.ev s)) m = some (v, m')) : Sound P o a w M B I0 w0 v m' := by
  unfold memOfU at hm
  split at hm
  · unfold memOf2 at hm
    split at hm
    · rename_i x1 y1 e sz bytes ow
      cases hm
      obtain ⟨T, x0, y0, i, z0, ho, hT, hi, hz, hzs, hb0, hx, hy, rfl, rfl⟩ := inv_app hc
      simp only [memE, List.map_cons, List.map_nil] at h
      obtain ⟨v1, m1, ⟨rfl, rfl⟩, hS⟩ := sound_apc ho hT hi hz hzs hb0 hx hy hs hg (apn_apc h)
      exact hS
    · cases hm
  · exact mem_sound hc hm hs hg h
end
end Go.Av

namespace Go.Av
open Go.RowKit

theorem compK_nof {P : Program} {own ex : Bool} {ty : TypeId} {op : Op} {x : X} {xs : List X} {fr : List Nat} : ¬ compK P own ex ty op = some (.callf x xs fr) := by
  intro h
  unfold compK at h
  split at h
  all_goals first
    | (simp only [Option.map_eq_some_iff] at h; obtain ⟨y, hy, e⟩ := h; cases e; done)
    | (split at h
       · rename_i e
         split at e
         · cases h
           obtain ⟨_, _, h'⟩ := nilT_eq e
           cases h'
         · cases e
       · simp only [Option.map_eq_some_iff] at h
         obtain ⟨_, _, h⟩ := h
         cases h)
    | (exfalso; revert h; repeat' split
       all_goals simp)
theorem compK_nor {P : Program} {own ex : Bool} {ty : TypeId} {op : Op} {x : X} {xs : List X} : ¬ compK P own ex ty op = some (.callr x xs) := by
  intro h
  unfold compK at h
  split at h
  all_goals first
    | (simp only [Option.map_eq_some_iff] at h; obtain ⟨y, hy, e⟩ := h; cases e; done)
    | (split at h
       · rename_i e
         split at e
         · cases h
           obtain ⟨_, _, h'⟩ := nilT_eq e
           cases h'
         · cases e
       · simp only [Option.map_eq_some_iff] at h
         obtain ⟨_, _, h⟩ := h
         cases h)
    | (exfalso; revert h; repeat' split
       all_goals simp)
theorem compK_noq {P : Program} {own ex : Bool} {ty : TypeId} {op : Op} {k : K} (h : compK P own ex ty op = some k) : (∀ f xs, k ≠ .callq f xs) ∧ (∀ x xs fr, k ≠ .callf x xs fr) ∧ ∀ x xs, k ≠ .callr x xs := by
  refine ⟨?_, ?_, ?_⟩
  rotate_left
  · rintro x xs fr rfl
    exact absurd h (compK_nof)
  · rintro x xs rfl
    exact absurd h (compK_nor)
  rintro f xs rfl
  unfold compK at h
  split at h
  all_goals first
    | (simp only [Option.map_eq_some_iff] at h; obtain ⟨y, hy, e⟩ := h; cases e; done)
    | (split at h
       · rename_i e
         split at e
         · cases h
           obtain ⟨_, _, h'⟩ := nilT_eq e
           cases h'
         · cases e
       · simp only [Option.map_eq_some_iff] at h
         obtain ⟨_, _, h⟩ := h
         cases h)
    | (exfalso; revert h; repeat' split
       all_goals simp)
theorem compK_call {P : Program} {own ex : Bool} {ty : TypeId} {op : Op} {f : FuncId} {xs : List X} (h : compK P own ex ty op = some (.call f xs)) :
    ∃ args tys, op = .call { callee := .value (.func f), args := args, argTypes := tys } ∧ compXs args.toList = some xs := by
  unfold compK at h
  split at h
  all_goals first
    | (simp only [Option.map_eq_some_iff] at h; obtain ⟨y, hy, e⟩ := h; cases e; exact ⟨_, _, rfl, hy⟩)
    | (split at h
       · rename_i e
         split at e
         · cases h
           obtain ⟨_, _, h'⟩ := nilT_eq e
           cases h'
         · cases e
       · simp only [Option.map_eq_some_iff] at h
         obtain ⟨_, _, h⟩ := h
         cases h)
    | (exfalso; revert h; repeat' split
       all_goals simp)
theorem compK_callv {P : Program} {own ex : Bool} {ty : TypeId} {op : Op} {x : X} {xs : List X} (h : compK P own ex ty op = some (.callv x xs)) :
    ∃ t args tys, x = .t t ∧ op = .call { callee := .value (.tmp t), args := args, argTypes := tys } ∧ compXs args.toList = some xs := by
  unfold compK at h
  split at h
  all_goals first
    | (simp only [Option.map_eq_some_iff] at h; obtain ⟨y, hy, e⟩ := h; cases e; exact ⟨_, _, _, rfl, rfl, hy⟩)
    | (split at h
       · rename_i e
         split at e
         · cases h
           obtain ⟨_, _, h'⟩ := nilT_eq e
           cases h'
         · cases e
       · simp only [Option.map_eq_some_iff] at h
         obtain ⟨_, _, h⟩ := h
         cases h)
    | (exfalso; revert h; repeat' split
       all_goals simp)

section
variable {P : Program} {o : Oper} {a : Act} {w wst : World} {M M0 : Mp} {m m' : Mem} {n : Nat} {s : Nat → V} {B : Nat} {I0 : Nat → Nat → Prop} {w0 : World} {own : Nat → Bool} {ops : Array Oper} {v : V} {Y : YRel} {rd : Option Nat} {N : Nat}

theorem rep_undef {M : Mp} {w : World} : Rep M w (.tuple []) undef := ⟨#[], rfl, rfl⟩

theorem AT.next {w' : World} {x : Value} {M' : Mp} {d : Option Nat} (hE0 : Ext M0 M wst w) (hs : Slots M w n s a) (ha : Marks M0 M a) (hE : Ext M M' w w') (hg : Good B I0 w0 M' m' w') (hr : Rep M' w' v x) (hd : dstOk n d = true) :
    AT B I0 w0 M0 wst n (put d v s) m' (a.put d x) w' := by
  exact ⟨M', hE0.trans hE, hg, (hs.mono hE).put hr hd, ha.next hE⟩

theorem compOp_iff {c : O} (hc : compOp P n own ops o = some c) : c.d = o.dst ∧ (compK P ((o.dst.map own).getD false) (exT own o.dst) o.type o.op = some c.k ∨ c.k = .dead ∨ (∃ x z, compK P ((o.dst.map own).getD false) (exT own o.dst) o.type o.op = some (.ld x z) ∧ c.k = .lde x z) ∨ (∃ f xs, compK P ((o.dst.map own).getD false) (exT own o.dst) o.type o.op = some (.call f xs) ∧ c.k = .callq f xs) ∨ (∃ k0 mo xs, compK P ((o.dst.map own).getD false) (exT own o.dst) o.type o.op = some k0 ∧ memOfU (exU own o.dst) k0 = some (mo, xs) ∧ c.k = .mem mo xs) ∨ compE P o.op = some c.k) ∧ guardO ops n o = some c.g ∧ dstOk n o.dst = true := by
  unfold compOp at hc
  split at hc
  · rename_i g h2
    split at hc
    · rename_i hd
      cases hc
      refine ⟨rfl, ?_, h2, hd⟩
      cases hk : compK P ((o.dst.map own).getD false) (exT own o.dst) o.type o.op with
      | none =>
        cases hx : compE P o.op with
        | none => exact .inr (.inl rfl)
        | some k => exact .inr (.inr (.inr (.inr (.inr rfl))))
      | some k =>
        rcases compM_eq (P := P) (own := own) (ops := ops) (ex := exT own o.dst) (u := exU own o.dst) k with h | ⟨x, z, rfl, h⟩ | ⟨f, xs, rfl, h⟩ | ⟨mo, xs, h1, h⟩
        · exact .inl (by simp [h])
        · exact .inr (.inr (.inl ⟨x, z, rfl, by simp [h]⟩))
        · exact .inr (.inr (.inr (.inl ⟨f, xs, rfl, by simp [h]⟩)))
        · exact .inr (.inr (.inr (.inr (.inl ⟨k, mo, xs, rfl, h1, by simp [h]⟩))))
    · cases hc
  · cases hc

theorem compOp_weak {c : O} (hc : compOp P n own ops o = some c) : c.weak = c := by
  obtain ⟨e1, e2, e3, e4⟩ := compOp_iff hc
  obtain ⟨d, g, k⟩ := c
  show O.mk d g k.weak = _
  rcases e2 with e2 | e2 | ⟨x, z, _, e2⟩ | ⟨f, xs, _, e2⟩ | ⟨k0, mo, xs, _, _, e2⟩ | e2
  · cases k with
    | callf x xs fr => exact absurd e2 compK_nof
    | callr x xs => exact absurd e2 compK_nor
    | _ => rfl
  · simp only at e2; rw [e2]; rfl
  · simp only at e2; rw [e2]; rfl
  · simp only at e2; rw [e2]; rfl
  · simp only at e2; rw [e2]; rfl
  · simp only at e2; rw [compE_weak e2]
theorem kindR_cases {k : K} (h : kindR false P Y k s m v m') (hq : (∀ f xs, k ≠ .callq f xs) ∧ (∀ x xs fr, k ≠ .callf x xs fr) ∧ ∀ x xs, k ≠ .callr x xs) : (∃ f args, k = .call f args) ∨ (∃ x args, k = .callv x args) ∨ kindE k s m = some (v, m') := by
  cases k <;> first
    | exact absurd rfl (hq.1 _ _)
    | exact absurd rfl (hq.2.1 _ _ _)
    | exact absurd rfl (hq.2.2 _ _)
    | exact .inr (.inr h)
    | exact .inl ⟨_, _, rfl⟩
    | exact .inr (.inl ⟨_, _, rfl⟩)

theorem kind_step {c : O} {K : Act → World → Prop} {Q : Exit → Act → World → Prop} (hc : compOp P n own ops o = some c) (h : kindR false P Y c.k s m v m') (hat : AT B I0 w0 M0 wst n s m a w) (hY : YOk P Y M0 wst)
    (hk : ∀ a' w', AT B I0 w0 M0 wst n (put c.d v s) m' a' w' → K a' w') : o.wpIn (fen rd) N P a w K Q := by
  obtain ⟨e1, e2, e3, e4⟩ := compOp_iff hc
  obtain ⟨M, hE0, hg, hs, ha⟩ := hat
  have hsem : o.semAt (fen rd).round a.eval = execOp a.eval o := Oper.semAt_eq _ _ _ (by
    intro c1 hc1
    rw [hc1] at e2
    rcases e2 with e2 | e2 | ⟨x, z, e2, _⟩ | ⟨f, xs, e2, _⟩ | ⟨k0, mo, xs, e2, e3, e5⟩ | e2
    · simp [compK] at e2
    · rw [e2] at h; unfold kindR at h; simp [kindE] at h
    · simp [compK] at e2
    · simp [compK] at e2
    · simp [compK] at e2
    · simp [compE] at e2)
  have hfin : Sound P o a w M B I0 w0 v m' → o.wpIn (fen rd) N P a w K Q := by
    rintro ⟨x, w', M', hrun, hE, hg', hx⟩
    have hn := hk _ _ (AT.next (d := c.d) hE0 hs ha hE hg' hx (by rw [e1]; exact e4))
    rw [e1] at hn
    refine ⟨fun _ _ => trivial, ?_⟩
    rcases hrun with hrun | ⟨rfl, hrun⟩
    · rw [hsem, hrun, Oper.uponIn_value]; exact hn
    · rw [hsem, hrun, Oper.uponIn_skip]; exact hn
  by_cases hee : compE P o.op = some c.k
  · have hke : kindE c.k s m = some (v, m') := by
      revert h
      unfold compE at hee
      split at hee
      all_goals first
        | (simp only [Option.map_eq_some_iff] at hee; obtain ⟨x', hx, he⟩ := hee; rw [← he]; exact id)
        | (repeat' split at hee
           all_goals first
             | (simp only [Option.map_eq_some_iff] at hee; obtain ⟨x', hx, he⟩ := hee; rw [← he]; exact id)
             | (simp only [Option.some.injEq] at hee; rw [← hee]; exact id)
             | cases hee)
    exact hfin (ext_sound hee hs hg hke)
  by_cases hmm : ∃ k0 mo xs, compK P ((o.dst.map own).getD false) (exT own o.dst) o.type o.op = some k0 ∧ memOfU (exU own o.dst) k0 = some (mo, xs) ∧ c.k = .mem mo xs
  · obtain ⟨k0, mo, xs, h1, h2, h3⟩ := hmm
    rw [h3] at h
    exact hfin (mem_soundU h1 h2 hs hg h)
  obtain ⟨ck, e2, h⟩ : ∃ ck, compK P ((o.dst.map own).getD false) (exT own o.dst) o.type o.op = some ck ∧ kindR false P Y ck s m v m' := by
    rcases e2 with e2 | e | ⟨x, z, e2, e5⟩ | ⟨f, xs, e2, e5⟩ | e2 | e2
    · exact ⟨_, e2, h⟩
    · rw [e] at h
      unfold kindR at h
      simp [kindE] at h
    · rw [e5] at h
      exact ⟨_, e2, kindE_lde h⟩
    · rw [e5] at h
      exact ⟨_, e2, CallG.toR (q := true) h⟩
    · exact absurd e2 hmm
    · exact absurd e2 hee
  have hcall : ∀ {f : FuncId} {vals : Array Value}, (execOp a.eval o).run P w = .ok (.enter f vals) w → CallOk P M w B I0 w0 f vals v m' → o.wpIn (fen rd) N P a w K Q := by
    intro f vals hr hcl
    refine ⟨fun _ _ => trivial, ?_⟩
    rw [hsem, hr, Oper.uponIn_enter]
    refine ⟨fun h => absurd h (by simp [fen, Fence.wide]), ?_⟩
    refine CallsIn.mono (F := fen rd) (callsIn_wide.2 hcl) fun e w' ⟨x, M', he, hE, hg', hx⟩ => ?_
    subst he
    have := hk _ _ (AT.next (d := c.d) hE0 hs ha hE hg' hx (by rw [e1]; exact e4))
    rw [e1] at this
    exact this
  have hval : ∀ {x : Value}, (execOp a.eval o).run P w = .ok (.value x) w → m' = m → Rep M w v x → o.wpIn (fen rd) N P a w K Q := by
    intro x hr e hx
    refine ⟨fun _ _ => trivial, ?_⟩
    rw [hsem, hr, Oper.uponIn_value]
    have := hk _ _ (AT.next (d := c.d) hE0 hs ha (Ext.refl M w) (by rw [e]; exact hg) hx (by rw [e1]; exact e4))
    rw [e1] at this
    exact this
  rcases kindR_cases h (compK_noq e2) with ⟨f, args, ek⟩ | ⟨x, args, ek⟩ | hke
  · rw [ek] at h e2
    obtain ⟨as, tys, ho, hx⟩ := compK_call e2
    have hr := rep_args hs hx
    rcases CallR.ok (vals := as.map a.eval ++ #[]) h (hY.later hE0) hg (by simpa using hr) with ⟨h1, h2⟩ | ⟨rfl, x, h1, h2⟩
    · exact hcall (enter_of ho (by rfl) h1) h2
    · exact hval (ext_of ho (by rfl) h1) rfl h2
  · rw [ek] at h e2
    obtain ⟨t, as, tys, rfl, ho, hx⟩ := compK_callv e2
    have hr := rep_args hs hx
    have hv := hs.2 t
    rcases h with ⟨f, cap, hf, hcr⟩ | ⟨_, b, hf, hyr⟩
    case inr =>
      simp only [X.ev] at hf
      rw [hf] at hv
      obtain ⟨g, hv, hβ⟩ := hv
      obtain ⟨fn, tm, asn, bd, hrun, hrd⟩ := hY b _ _ _ _ hyr B I0 w0 M w (as.map a.eval) hE0 hg (by simpa using hr) g hβ (N - 1)
      have hex : (execOp a.eval o).run P w = .ok (.round g fn tm asn bd) w := by
        have hv' : a.eval (.tmp t) = .func (.yield g) #[] #[] := hv
        unfold execOp
        rw [ho]
        simp only [resolve, hv', Deferred.ofValue]
        simp [invoke, hrun]
      refine ⟨fun _ _ => trivial, ?_⟩
      rw [hsem, hex, Oper.uponIn_round]
      refine ⟨fun h => absurd h (by simp [fen, Fence.wide]), ?_⟩
      refine RoundIn.mono (F := fen rd) hrd fun e w' ⟨x, M', he, hE, hg', hx⟩ => ?_
      subst he
      have := hk _ _ (AT.next (d := c.d) hE0 hs ha hE hg' hx (by rw [e1]; exact e4))
      rw [e1] at this
      exact this
    simp only [X.ev] at hf
    rw [hf] at hv
    obtain ⟨vs, hv, hrc⟩ := hv
    rcases CallR.ok (vals := as.map a.eval ++ vs) hcr (hY.later hE0) hg (by simpa using RepL.append hr hrc) with ⟨h1, h2⟩ | ⟨rfl, x, h1, h2⟩
    · exact hcall (enter_of ho (by simpa [Act.eval] using hv) h1) h2
    · exact hval (ext_of ho (by simpa [Act.eval] using hv) h1) rfl h2
  · exact hfin (kind_sound e2 hs hg hke)

theorem step_sound {c : O} {K : Act → World → Prop} {Q : Exit → Act → World → Prop} (hc : compOp P n own ops o = some c) {q : Bool} (h : stepR q P Y c s m v m') (hat : AT B I0 w0 M0 wst n s m a w) (hY : YOk P Y M0 wst)
    (hk : ∀ a' w', AT B I0 w0 M0 wst n (put c.d v s) m' a' w' → K a' w') :
    if Region.wanted o (yielded ops a.tmps) then o.wpIn (fen rd) N P a w K Q else (∀ f, o.about P w a.eval = some f → (fen rd).fn f) ∧ K (a.put o.dst undef) w := by
  obtain ⟨e1, e2, e3, e4⟩ := compOp_iff hc
  replace h := h.toR
  unfold stepR at h
  unfold guardO at e3
  split at h
  · rename_i hgn
    have : o.guard = none := by
      split at e3
      · assumption
      · rename_i g want hgd
        rw [hgn] at e3
        repeat' split at e3
        all_goals cases e3
    have hw : Region.wanted o (yielded ops a.tmps) = true := by simp [Region.wanted, this]
    rw [if_pos hw]
    exact kind_step hc h hat hY hk
  · rename_i d want hgn
    rw [hgn] at e3
    obtain ⟨g, hgd, hdst, hdn⟩ : ∃ g, o.guard = some (g, want) ∧ (ops[g]?).bind (·.dst) = some d ∧ d < n := by
      split at e3
      · cases e3
      · rename_i g want' hgd
        split at e3
        · rename_i d' hd'
          split at e3
          · cases e3; exact ⟨g, hgd, hd', by assumption⟩
          · cases e3
        · cases e3
    have hat' := hat
    obtain ⟨M, hE0, hg, hs, ha⟩ := hat
    have hlt : d < a.tmps.size := by rw [hs.1]; exact hdn
    have hget : a.tmps[d]? = some (a.tmps.getD d undef) := by simp [hlt]
    have hy : yielded ops a.tmps g = match a.tmps.getD d undef with | .bool b => some b | _ => none := by
      unfold yielded
      rw [hdst, Option.bind_some, hget]
      generalize a.tmps.getD d undef = y
      cases y <;> rfl
    have hrd := hs.2 d
    rcases h with ⟨hsd, hkr⟩ | ⟨hsd, rfl, rfl⟩
    · rw [hsd] at hrd
      obtain ⟨hrd, _⟩ := hrd
      have hw : Region.wanted o (yielded ops a.tmps) = true := by simp only [Region.wanted, hgd, hy, hrd]; simp
      rw [if_pos hw]
      exact kind_step hc hkr hat' hY hk
    · have hw : Region.wanted o (yielded ops a.tmps) = false := by
        rcases hsd with hsd | hsd
        · rw [hsd] at hrd
          obtain ⟨hrd, _⟩ := hrd
          simp only [Region.wanted, hgd, hy, hrd]
          cases want <;> simp
        · rw [hsd] at hrd
          obtain ⟨vs, hrd, hvs⟩ := hrd
          simp only [Region.wanted, hgd, hy, hrd]
          rfl
      rw [hw]
      simp only [Bool.false_eq_true, if_false]
      have := hk _ _ (AT.next (d := c.d) hE0 hs ha (Ext.refl _ _) hg rep_undef (by rw [e1]; exact e4))
      rw [e1] at this
      exact ⟨fun _ _ => trivial, this⟩
end

/-- The state may be said so as well: of whatever world it is true. -/
def Wkn (s : Nat → V) (m : Mem) (s' : Nat → V) (m' : Mem) : Prop :=
  ∀ (B : Nat) (I0 : Nat → Nat → Prop) (w0 : World) (M0 : Mp) (wst : World) (n : Nat) (a : Act) (w : World), AT B I0 w0 M0 wst n s m a w → AT B I0 w0 M0 wst n s' m' a w
theorem Wkn.refl (s : Nat → V) (m : Mem) : Wkn s m s m := fun _ _ _ _ _ _ _ _ h => h
theorem Wkn.trans {s s1 s2 : Nat → V} {m m1 m2 : Mem} (h : Wkn s m s1 m1) (k : Wkn s1 m1 s2 m2) : Wkn s m s2 m2 := fun B I0 w0 M0 wst n a w x => k B I0 w0 M0 wst n a w (h B I0 w0 M0 wst n a w x)
def IW (I : (Nat → V) → Mem → Prop) (s : Nat → V) (m : Mem) : Prop := ∃ s0 m0, Wkn s m s0 m0 ∧ I s0 m0
theorem IW.of {I : (Nat → V) → Mem → Prop} {s : Nat → V} {m : Mem} (h : I s m) : IW I s m := ⟨s, m, Wkn.refl s m, h⟩
/-- In some way the state may be said so that it holds: of each world in a way of its own. -/
def IW2 (I : (Nat → V) → Mem → Prop) (s : Nat → V) (m : Mem) : Prop :=
  ∀ (B : Nat) (I0 : Nat → Nat → Prop) (w0 : World) (M0 : Mp) (wst : World) (n : Nat) (a : Act) (w : World), AT B I0 w0 M0 wst n s m a w → ∃ s0 m0, I s0 m0 ∧ AT B I0 w0 M0 wst n s0 m0 a w
theorem IW2.of {I : (Nat → V) → Mem → Prop} {s : Nat → V} {m : Mem} (h : I s m) : IW2 I s m := fun _ _ _ _ _ _ _ _ hat => ⟨s, m, h, hat⟩
theorem IW.two {I : (Nat → V) → Mem → Prop} {s : Nat → V} {m : Mem} (h : IW I s m) : IW2 I s m := fun B I0 w0 M0 wst n a w hat => by
  obtain ⟨s0, m0, h1, h2⟩ := h
  exact ⟨s0, m0, h2, h1 B I0 w0 M0 wst n a w hat⟩
theorem IW2.mono {I J : (Nat → V) → Mem → Prop} (h : ∀ s m, I s m → J s m) {s : Nat → V} {m : Mem} (k : IW2 I s m) : IW2 J s m := fun B I0 w0 M0 wst n a w hat => by
  obtain ⟨s0, m0, h1, h2⟩ := k B I0 w0 M0 wst n a w hat
  exact ⟨s0, m0, h s0 m0 h1, h2⟩
theorem IW2.join {I : (Nat → V) → Mem → Prop} {s : Nat → V} {m : Mem} (k : IW2 (IW2 I) s m) : IW2 I s m := fun B I0 w0 M0 wst n a w hat => by
  obtain ⟨s0, m0, h1, h2⟩ := k B I0 w0 M0 wst n a w hat
  exact h1 B I0 w0 M0 wst n a w h2
theorem IW2.wk {I : (Nat → V) → Mem → Prop} {s s' : Nat → V} {m m' : Mem} (h : Wkn s m s' m') (k : IW2 I s' m') : IW2 I s m := fun B I0 w0 M0 wst n a w hat => k B I0 w0 M0 wst n a w (h B I0 w0 M0 wst n a w hat)
/-- A slot says less. -/
theorem Wkn.slot {s : Nat → V} {m : Mem} {d : Nat} {v : V} (h : ∀ (M : Mp) (w : World) (x : Value), Rep M w (s d) x → Rep M w v x) : Wkn s m (put (some d) v s) m := by
  intro B I0 w0 M0 wst n a w ⟨M, h1, h2, h3, h4⟩
  refine ⟨M, h1, h2, ⟨h3.1, fun t => ?_⟩, h4⟩
  show Rep M w (if t = d then v else s t) _
  split
  · rename_i e; subst e; exact h M w _ (h3.2 t)
  · exact h3.2 t
/-- A slice that is none is a row that is not there yet. -/
theorem Wkn.row {s : Nat → V} {m : Mem} (d : Nat) (e : TypeId) (sz : Nat) (h : s d = .val (.slice none 0 0)) : Wkn s m (put (some d) (.row m.tips.length sz []) s) { m with tips := m.tips ++ [(e, sz, 0)] } := by
  intro B I0 w0 M0 wst n a w ⟨M, h1, h2, h3, h4⟩
  have hE := Mp.addN_ext M w
  have h3' := h3.mono hE
  refine ⟨M.addN, h1.trans hE, h2.addNil e sz, ⟨h3.1, fun t => ?_⟩, h4⟩
  show Rep M.addN w (if t = d then _ else s t) _
  split
  · rename_i e1
    subst e1
    have := h3.2 t
    rw [h] at this
    exact ⟨[], by simp [Mp.addN, ← h2.lγ], .inl ⟨rfl, this.1⟩⟩
  · exact h3'.2 t
end Go.Av

namespace Go.Av
open Go.RowKit

mutual
/-- It speaks of the first k boxes and the first j rows alone. -/
def V.under (k j : Nat) : V → Bool
  | .val _ => true
  | .agg l => underL k j l
  | .lit _ xs => underX k j xs
  | .full _ xs => underX k j xs
  | .row t _ xs => decide (t < j) && underX k j xs
  | .ptr b _ => decide (b < k)
  | .yld b => decide (b < k)
  | .ref _ b => decide (b < k)
  | .emp _ | .any | .anyc => true
  | .eptr cs => underL k j cs
  | .func _ cap => underL k j cap
  | .iface _ v => v.under k j
  | .tuple l => underL k j l
  | .alts _ => true
  | .buf _ _ _ _ b => decide (b < k)
def underL (k j : Nat) : List V → Bool
  | [] => true
  | v :: l => v.under k j && underL k j l
def underX (k j : Nat) : List (List V) → Bool
  | [] => true
  | e :: r => underL k j e && underX k j r
end

def Mp.cut (M : Mp) (k j : Nat) : Mp := { β := M.β.take k, γ := M.γ.take j, I := M.I, κ := fun i => if i < k then M.κ i else none, ζ := M.ζ }

mutual
theorem Rep.cut {M : Mp} {w : World} {k j : Nat} : ∀ (v : V) (x : Value), v.under k j = true → Rep M w v x → Rep (M.cut k j) w v x
  | .val _, _, _, h => h
  | .agg l, x, hc, h => by
    obtain ⟨vs, rfl, h⟩ := h
    exact ⟨vs, rfl, RepL.cut l _ (by simpa [V.under] using hc) h⟩
  | .lit sz xs, x, hc, h => by
    exact h.imp id fun ⟨ad, c, h0, h1, h2, h3, h4⟩ => ⟨ad, c, h0, h1, h2, h3, RepX.cut xs _ _ (by simpa [V.under] using hc) h4⟩
  | .full sz xs, x, hc, h => by
    exact h.imp id fun ⟨ad, h0, h2, h3, h4⟩ => ⟨ad, h0, h2, h3, RepX.cut xs _ _ (by simpa [V.under] using hc) h4⟩
  | .emp _, _, _, h => h
  | .any, _, _, _ => trivial
  | .anyc, _, _, h => h
  | .row t sz xs, x, hc, h => by
    obtain ⟨G, h4, h⟩ := h
    simp only [V.under, Bool.and_eq_true, decide_eq_true_eq] at hc
    refine ⟨G, ?_, h.imp id fun ⟨g, c, h0, h1, h2, h3, h5⟩ => ⟨g, c, h0, h1, h2, RepX.cut xs _ _ hc.2 h3, h5⟩⟩
    show (M.γ.take j)[t]? = _
    rw [List.getElem?_take, if_pos hc.1]
    exact h4
  | .ptr b off, x, hc, h => by
    obtain ⟨g, rfl, h⟩ := h
    simp only [V.under, decide_eq_true_eq] at hc
    refine ⟨g, rfl, ?_⟩
    show (M.β.take k)[b]? = _
    rw [List.getElem?_take, if_pos hc]
    exact h
  | .yld b, x, hc, h => by
    obtain ⟨g, rfl, h⟩ := h
    simp only [V.under, decide_eq_true_eq] at hc
    refine ⟨g, rfl, ?_⟩
    show (M.β.take k)[b]? = _
    rw [List.getElem?_take, if_pos hc]
    exact h
  | .ref q b, x, hc, h => by
    obtain ⟨g, c, rfl, h0, h⟩ := h
    simp only [V.under, decide_eq_true_eq] at hc
    refine ⟨g, c, rfl, h0, ?_⟩
    show (M.β.take k)[b]? = _
    rw [List.getElem?_take, if_pos hc]
    exact h
  | .eptr cs, x, hc, h => by
    obtain ⟨ad, rfl, h1, h2⟩ := h
    exact ⟨ad, rfl, h1, RepC.cut cs _ _ (by simpa [V.under] using hc) h2⟩
  | .func f cap, x, hc, h => by
    obtain ⟨vs, rfl, h⟩ := h
    exact ⟨vs, rfl, RepL.cut cap _ (by simpa [V.under] using hc) h⟩
  | .iface t v, x, hc, h => by
    obtain ⟨y, rfl, h⟩ := h
    exact ⟨y, rfl, Rep.cut v y (by simpa [V.under] using hc) h⟩
  | .tuple l, x, hc, h => by
    obtain ⟨vs, rfl, h⟩ := h
    exact ⟨vs, rfl, RepL.cut l _ (by simpa [V.under] using hc) h⟩
  | .buf a b c d e, x, hc, h => by
    obtain ⟨g, q, rfl, h1, h2, h5, h3, h4⟩ := h
    simp only [V.under, decide_eq_true_eq] at hc
    refine ⟨g, q, rfl, h1, h2, h5, ?_, h4⟩
    show (M.β.take k)[e]? = _
    rw [List.getElem?_take, if_pos hc]
    exact h3
  | .alts l, x, _, h => ⟨h.1, RepA.clean (M := M) (M' := M.cut k j) (fun _ _ h => h) l x h.1 h.2⟩
theorem RepL.cut {M : Mp} {w : World} {k j : Nat} : ∀ (l : List V) (m : List Value), underL k j l = true → RepL M w l m → RepL (M.cut k j) w l m
  | [], _, _, h => h
  | v :: l, m, hc, h => by
    obtain ⟨x, r, rfl, h1, h2⟩ := h
    simp only [underL, Bool.and_eq_true] at hc
    exact ⟨x, r, rfl, Rep.cut v x hc.1 h1, RepL.cut l r hc.2 h2⟩
theorem RepC.cut {M : Mp} {w : World} {k j : Nat} : ∀ (l : List V) (b o : Nat), underL k j l = true → RepC M w l b o → RepC (M.cut k j) w l b o
  | [], _, _, _, _ => trivial
  | v :: l, b, o, hc, h => by
    obtain ⟨⟨x, h1, h2, h3, h4⟩, h5⟩ := h
    simp only [underL, Bool.and_eq_true] at hc
    exact ⟨⟨x, h1, h2, h3, Rep.cut v x hc.1 h4⟩, RepC.cut l b (o + 1) hc.2 h5⟩
theorem RepX.cut {M : Mp} {w : World} {k j : Nat} : ∀ (l : List (List V)) (b o : Nat), underX k j l = true → RepX M w l b o → RepX (M.cut k j) w l b o
  | [], _, _, _, _ => trivial
  | e :: r, b, o, hc, h => by
    simp only [underX, Bool.and_eq_true] at hc
    exact ⟨RepC.cut e b o hc.1 h.1, RepX.cut r b (o + e.length) hc.2 h.2⟩
end

section
variable {w w0 : World} {M : Mp} {m : Mem} {B : Nat} {I0 : Nat → Nat → Prop}
theorem Mp.cut_ext (M : Mp) (k j : Nat) {M0 : Mp} {w w' : World} (hE : Ext M0 M w w') (hk : M0.β.length ≤ k) (hj : M0.γ.length ≤ j) : Ext M0 (M.cut k j) w w' where
  β b g h := by
    have := (List.getElem?_eq_some_iff.1 h).1
    show (M.β.take k)[b]? = _
    rw [List.getElem?_take, if_pos (by omega)]
    exact hE.β b g h
  γ t G h := by
    have := (List.getElem?_eq_some_iff.1 h).1
    obtain ⟨G', h1, h2⟩ := hE.γ t G h
    refine ⟨G', ?_, h2⟩
    show (M.γ.take j)[t]? = _
    rw [List.getElem?_take, if_pos (by omega)]
    exact h1
  I := hE.I
  κ i hi := by
    show (if i < k then M.κ i else none) = _
    rw [if_pos (by omega)]
    exact hE.κ i hi
  ζ := hE.ζ

theorem Good.cut (h : Good B I0 w0 M m w) {k j : Nat} (hb : underX k j (m.boxes.take k) = true) : Good B I0 w0 (M.cut k j) ⟨m.boxes.take k, m.tips.take j⟩ w where
  below := h.below
  sizeB := h.sizeB
  i0 := h.i0
  i1 := h.i1
  ilt := h.ilt
  lβ := by
    show (M.β.take k).length = (m.boxes.take k).length
    rw [List.length_take, List.length_take, h.lβ]
  nd i j' g h1 h2 := by
    have h1' : (M.β.take k)[i]? = some g := h1
    have h2' : (M.β.take k)[j']? = some g := h2
    rw [List.getElem?_take] at h1' h2'
    split at h1'
    · split at h2'
      · rename_i k1 k2
        show (m.boxes.take k)[i]? = _ ∨ (m.boxes.take k)[j']? = _ ∨ _
        rw [List.getElem?_take, List.getElem?_take, if_pos k1, if_pos k2]
        exact h.nd i j' g h1' h2'
      · cases h2'
    · cases h1'
  iβ b o hi i hb := by
    have hb' : (M.β.take k)[i]? = some b := hb
    show (m.boxes.take k)[i]? = _
    rw [List.getElem?_take] at hb' ⊢
    split at hb'
    · rename_i hlt
      rw [if_pos hlt]
      exact h.iβ b o hi i hb'
    · cases hb'
  box i g cs h1 h2 := by
    have h1' : (M.β.take k)[i]? = some g := h1
    have h2' : (m.boxes.take k)[i]? = some cs := h2
    have hu : underL k j cs = true := by
      have : ∀ {l : List (List V)} {i : Nat}, underX k j l = true → l[i]? = some cs → underL k j cs = true := by
        intro l
        induction l with
        | nil => intro i _ h; simp at h
        | cons e r ih =>
          intro i h h'
          simp only [underX, Bool.and_eq_true] at h
          cases i with
          | zero => simp only [List.getElem?_cons_zero, Option.some.injEq] at h'; subst h'; exact h.1
          | succ i => exact ih h.2 (by simpa using h')
      exact this hb h2'
    rw [List.getElem?_take] at h1' h2'
    split at h1'
    · rename_i hlt
      rw [if_pos hlt] at h2'
      obtain ⟨hB, ob, hh, hr⟩ := h.box i g cs h1' h2'
      exact ⟨hB, ob, hh, by
        unfold BoxRep
        rw [show (M.cut k j).κ i = M.κ i from if_pos (by assumption)]
        exact hr.imp (fun ⟨k0, vs, T, k1, kl, k2, k3⟩ => ⟨k0, vs, T, k1, kl, RepL.cut _ _ hu k2, k3⟩) (Or.imp id (Or.imp id (Or.imp (fun ⟨k0, es, c, k1, k9, k2⟩ => ⟨k0, es, c, k1, k9, RepL.cut _ _ hu k2⟩) id)))⟩
    · cases h1'
  ζb i g cs h1 h2 h3 := by
    have h1' : (M.β.take k)[i]? = some g := h1
    have h2' : (m.boxes.take k)[i]? = some cs := h2
    rw [List.getElem?_take] at h1' h2'
    split at h1'
    · rw [if_pos (by assumption)] at h2'
      exact h.ζb i g cs h1' h2' h3
    · cases h1'
  κlt i fam hf := by
    have hf' : (if i < k then M.κ i else none) = some fam := hf
    split at hf'
    · have := h.κlt i fam hf'
      show i < (M.β.take k).length
      rw [List.length_take]
      omega
    · cases hf'
  lγ := by
    show (M.γ.take j).length = (m.tips.take j).length
    rw [List.length_take, List.length_take, h.lγ]
  row t G e sz n h1 h2 := by
    have h1' : (M.γ.take j)[t]? = some G := h1
    have h2' : (m.tips.take j)[t]? = some (e, sz, n) := h2
    rw [List.getElem?_take] at h1' h2'
    split at h1'
    · rename_i hlt
      rw [if_pos hlt] at h2'
      exact h.row t G e sz n h1' h2'
    · cases h1'
  gen t G x h1 hx := by
    have h1' : (M.γ.take j)[t]? = some G := h1
    rw [List.getElem?_take] at h1'
    split at h1'
    · obtain ⟨k1, k2, k3⟩ := h.gen t G x h1' hx
      exact ⟨k1, k2, fun hm => k3 (List.mem_of_mem_take hm)⟩
    · cases h1'
  sep t t' G G' x x' h1 h2 hx hx' he := by
    have h1' : (M.γ.take j)[t]? = some G := h1
    have h2' : (M.γ.take j)[t']? = some G' := h2
    rw [List.getElem?_take] at h1' h2'
    split at h1'
    · split at h2'
      · exact h.sep t t' G G' x x' h1' h2' hx hx' he
      · cases h2'
    · cases h1'

end
/-- What is left behind a round: all, or what was there ahead of it. -/
def CutM (m0 m m2 : Mem) : Prop := m2 = m ∨ (underX m0.boxes.length m0.tips.length (m.boxes.take m0.boxes.length) = true ∧ m2 = ⟨m.boxes.take m0.boxes.length, m.tips.take m0.tips.length⟩)
end Go.Av

namespace Go.Av
open Go.RowKit

def opsWp (q : Bool) (P : Program) (Y : YRel) : List O → (Nat → V) → Mem → ((Nat → V) → Mem → Prop) → Prop
  | [], s, m, K => K s m
  | o :: r, s, m, K => ∃ v m', stepR q P Y o s m v m' ∧ opsWp q P Y r (put o.d v s) m' K

/-- An append that may find room or not. -/
def apK (o : O) (s : Nat → V) (m : Mem) (Φ : V → Mem → Prop) : Prop := match o with
  | ⟨_, none, .mem (.apb _ sz bytes) [x, y]⟩ => apcW sz bytes (x.ev s) (y.ev s) m Φ
  | _ => False
theorem apuW_mono {sz bytes : Nat} {u : V} {ys : List (List V)} {m : Mem} {F F' : V → Mem → Prop} (hf : ∀ v m, F v m → F' v m) (h : apuW sz bytes u ys m F) : apuW sz bytes u ys m F' := by
  unfold apuW at h ⊢
  split at h
  · exact ⟨h.1, hf _ _ h.2⟩
  · exact ⟨h.1, hf _ _ h.2⟩
  · split at h
    · exact ⟨h.1, hf _ _ h.2⟩
    · exact h
  · exact h
theorem apcW_mono {sz bytes : Nat} {u v : V} {m : Mem} {F F' : V → Mem → Prop} (hf : ∀ v m, F v m → F' v m) (h : apcW sz bytes u v m F) : apcW sz bytes u v m F' := by
  unfold apcW at h ⊢
  split at h
  · exact ⟨h.1, fun e => ⟨(h.2.1 e).1, hf _ _ (h.2.1 e).2⟩, fun e => apuW_mono hf (h.2.2 e)⟩
  · exact h
theorem apK_mono {o : O} {s : Nat → V} {m : Mem} {F F' : V → Mem → Prop} (hf : ∀ v m, F v m → F' v m) (h : apK o s m F) : apK o s m F' := by
  unfold apK at h ⊢
  split at h
  · exact apcW_mono hf h
  · exact h
/-- In the order of the text: an answer may be one of some, each by itself. -/
def opsWpS (P : Program) (Y : YRel) : List O → (Nat → V) → Mem → ((Nat → V) → Mem → Prop) → Prop
  | [], s, m, K => K s m
  | o :: r, s, m, K => (∃ v m', stepR false P Y o s m v m' ∧ (opsWpS P Y r (put o.d v s) m' K ∨ ∃ d l, o.d = some d ∧ v = .alts l ∧ ∀ u ∈ l, opsWpS P Y r (put o.d u s) m' K)) ∨ apK o s m fun v m' => opsWpS P Y r (put o.d v s) m' K
theorem opsWpS_of {P : Program} {Y : YRel} {K K' : (Nat → V) → Mem → Prop} (hk : ∀ s m, K s m → K' s m) : ∀ (l : List O) (s : Nat → V) (m : Mem), opsWp false P Y l s m K → opsWpS P Y l s m K'
  | [], s, m, h => hk s m h
  | _ :: r, _, _, ⟨v, m', h1, h2⟩ => .inl ⟨v, m', h1, .inl (opsWpS_of hk r _ _ h2)⟩
theorem opsWpS_mono {P : Program} {Y : YRel} {K K' : (Nat → V) → Mem → Prop} (hk : ∀ s m, K s m → K' s m) : ∀ (l : List O) (s : Nat → V) (m : Mem), opsWpS P Y l s m K → opsWpS P Y l s m K'
  | [], s, m, h => hk s m h
  | _ :: r, _, _, h => h.imp (fun ⟨v, m', h1, h2⟩ => ⟨v, m', h1, h2.imp (opsWpS_mono hk r _ _) fun ⟨d, l, k1, k2, k3⟩ => ⟨d, l, k1, k2, fun u hu => opsWpS_mono hk r _ _ (k3 u hu)⟩⟩) (apK_mono fun _ _ => opsWpS_mono hk r _ _)
theorem IW.mono {I J : (Nat → V) → Mem → Prop} (h : ∀ s m, I s m → J s m) {s : Nat → V} {m : Mem} (k : IW I s m) : IW J s m := by
  obtain ⟨s0, m0, h1, h2⟩ := k
  exact ⟨s0, m0, h1, h s0 m0 h2⟩
theorem AT.alts {B : Nat} {I0 : Nat → Nat → Prop} {w0 wst w : World} {M0 : Mp} {n : Nat} {s : Nat → V} {m : Mem} {a : Act} {d : Nat} {l : List V} (h : AT B I0 w0 M0 wst n (put (some d) (.alts l) s) m a w) : ∃ u ∈ l, AT B I0 w0 M0 wst n (put (some d) u s) m a w := by
  obtain ⟨M, h1, h2, h3, h4⟩ := h
  have hd := h3.2 d
  have e : put (some d) (.alts l) s d = .alts l := if_pos rfl
  rw [e] at hd
  obtain ⟨u, hu, hr⟩ := repA_iff.1 hd.2
  refine ⟨u, hu, M, h1, h2, ⟨h3.1, fun t => ?_⟩, h4⟩
  show Rep M w (if t = d then u else s t) _
  split
  · rename_i e; subst e; exact hr
  · rename_i e
    have := h3.2 t
    rwa [show put (some d) (.alts l) s t = s t from if_neg e] at this

inductive C where
  | skip
  | ret
  | exit (id : Nat)
  | goto (l : Nat)
  | ops (l : List O)
  | dops (q : Bool) (sp : List (Nat × Nat)) (l : List O)
  | seq (a b : C)
  | cond (x : X) (a b : C)
  | block (id : Nat) (c : C)
  | loop (c : C)
  | scope (c : C)
  | label (l : Nat)
  | scopeJ (c : C) (l : Nat) (r : C)
  | rangeF (inr : Bool) (x : X) (ps : List Nat) (a b : C)
  | dead

def putAll : List Nat → List V → (Nat → V) → Nat → V
  | p :: ps, v :: vs, s => putAll ps vs (put (some p) v s)
  | _, _, s => s
/-- How a round is left, as the loop keeps it. -/
def St.of : Exit → Option St
  | .normal => some .ready
  | .exit id => some (.exit id)
  | .goto l => some (.goto l)
  | .ret => some .ret
  | _ => none
def St.out : St → Exit
  | .exit id => .exit id
  | .goto l => .goto l
  | .ret => .ret
  | _ => .normal
def St.cont : St → Bool
  | .ready => true
  | _ => false
/-- One more 'yield'. -/
def addY (Y : YRel) (L : Nat) (Rd : List V → Mem → V → Mem → Prop) : YRel := fun b args m v m' => Y b args m v m' ∨ (b = L ∧ Rd args m v m')
/-- Where the loop's record lies. -/
def loopAt (inr : Bool) (m : Mem) : Nat := m.boxes.length + (if inr = true then 0 else 1)
def loopMem (inr : Bool) (m : Mem) : Mem := { m with boxes := m.boxes ++ (if inr = true then [] else [[St.ready.v]]) ++ [[St.ready.v]] }
/-- Two pointers are of two boxes. -/
def sepV (u v : V) : Prop := ∀ b o b' o', u = .ptr b o → v = .ptr b' o' → b ≠ b'
def sepAll (s : Nat → V) : List (Nat × Nat) → Prop
  | [] => True
  | p :: r => sepV (s p.1) (s p.2) ∧ sepAll s r

def vwp (P : Program) (Y : YRel) : C → (Nat → V) → Mem → (Exit → (Nat → V) → Mem → Prop) → Prop
  | .skip, s, m, Q => Q .normal s m
  | .ret, s, m, Q => Q .ret s m
  | .exit id, s, m, Q => Q (.exit id) s m
  | .goto l, s, m, Q => Q (.goto l) s m
  | .ops l, s, m, Q => opsWpS P Y l s m (IW2 (Q .normal))
  | .dops q sp l, s, m, Q => opsWp q P Y l s m fun s' m' => sepAll s' sp ∧ Q .normal s' m'
  | .seq a b, s, m, Q => vwp P Y a s m fun e s' m' => match e with
    | .normal => vwp P Y b s' m' Q
    | e => Q e s' m'
  | .cond x a b, s, m, Q => ∃ t, x.ev s = .val (.bool t) ∧ (if t = true then vwp P Y a s m Q else vwp P Y b s m Q)
  | .block id c, s, m, Q => vwp P Y c s m fun e s' m' => match e with
    | .exit i => if i = id then Q .normal s' m' else Q (.exit i) s' m'
    | e => Q e s' m'
  | .loop c, s, m, Q => ∃ I : Nat → (Nat → V) → Mem → Prop, (∃ k, IW (I k) s m) ∧ ∀ k s1 m1, I k s1 m1 → vwp P Y c s1 m1 fun e s' m' => match e with
    | .normal => ∃ j, j < k ∧ IW (I j) s' m'
    | e => Q e s' m'
  | .scope c, s, m, Q => vwp P Y c s m fun e s' m' => match e with
    | .goto _ => False
    | e => Q e s' m'
  | .label _, s, m, Q => Q .normal s m
  | .scopeJ c l r, s, m, Q => ∃ J : Nat → (Nat → V) → Mem → Prop, (vwp P Y c s m fun e s' m' => match e with
    | .goto l' => l' = l ∧ ∃ k, IW (J k) s' m'
    | e => Q e s' m') ∧ ∀ k s1 m1, J k s1 m1 → vwp P Y r s1 m1 fun e s' m' => match e with
      | .goto l' => l' = l ∧ ∃ j, j < k ∧ IW (J j) s' m'
      | e => Q e s' m'
  | .rangeF inr x ps a b, s, m, Q => ∃ (f : FuncId) (cap : List V) (v : V) (mE : Mem) (st : St), x.ev s = .func f cap ∧
      LocY P (addY Y (loopAt inr m) fun args m1 v1 m2 => args.length = ps.length ∧ vwp P Y a (putAll ps args s) m1 fun e s1 m1' => e = .normal ∧ m1'.boxes[loopAt inr m]? = some [St.ready.v] ∧
        vwp P Y b s1 { m1' with boxes := m1'.boxes.set (loopAt inr m) [St.busy.v] } fun e _ m2' => m2'.boxes[loopAt inr m]? = some [St.busy.v] ∧
          ∃ st : St, St.of e = some st ∧ v1 = .val (.bool st.cont) ∧ CutM m1 { m2' with boxes := m2'.boxes.set (loopAt inr m) [st.v] } m2) f (.yld (loopAt inr m) :: cap) (loopMem inr m) v mE ∧
      mE.boxes[loopAt inr m]? = some [st.v] ∧ st ≠ .busy ∧ Q st.out s mE
  | .dead, _, _, _ => False

theorem opsWp_mono {q : Bool} {P : Program} {Y : YRel} {K K' : (Nat → V) → Mem → Prop} (hk : ∀ s m, K s m → K' s m) : ∀ (l : List O) (s : Nat → V) (m : Mem), opsWp q P Y l s m K → opsWp q P Y l s m K'
  | [], s, m, h => hk s m h
  | _ :: r, _, _, ⟨v, m', h1, h2⟩ => ⟨v, m', h1, opsWp_mono hk r _ _ h2⟩
theorem vwp_mono {P : Program} {Y : YRel} : ∀ (c : C) {Q Q' : Exit → (Nat → V) → Mem → Prop} (s : Nat → V) (m : Mem), (∀ e s m, Q e s m → Q' e s m) → vwp P Y c s m Q → vwp P Y c s m Q'
  | .skip, _, _, s, m, hq, h => hq _ _ _ h
  | .ret, _, _, s, m, hq, h => hq _ _ _ h
  | .exit id, _, _, s, m, hq, h => hq _ _ _ h
  | .goto l, _, _, s, m, hq, h => hq _ _ _ h
  | .ops l, _, _, s, m, hq, h => opsWpS_mono (fun _ _ h => h.mono fun _ _ h => hq _ _ _ h) l s m h
  | .dops q sp l, _, _, s, m, hq, h => opsWp_mono (fun _ _ h => ⟨h.1, hq _ _ _ h.2⟩) l s m h
  | .seq a b, _, _, s, m, hq, h => vwp_mono a s m (fun e s' m' h' => by
      cases e with
      | normal => exact vwp_mono b s' m' hq h'
      | _ => exact hq _ _ _ h') h
  | .cond x a b, _, _, s, m, hq, h => by
      obtain ⟨t, h1, h2⟩ := h
      refine ⟨t, h1, ?_⟩
      cases t
      · exact vwp_mono b s m hq h2
      · exact vwp_mono a s m hq h2
  | .block id c, _, _, s, m, hq, h => vwp_mono c s m (fun e s' m' h' => by
      cases e with
      | exit i =>
        by_cases e : i = id
        · simp only [e, if_true] at h' ⊢; exact hq _ _ _ h'
        · simp only [e, if_false] at h' ⊢; exact hq _ _ _ h'
      | _ => exact hq _ _ _ h') h
  | .loop c, _, _, s, m, hq, h => by
      obtain ⟨I, h1, h2⟩ := h
      refine ⟨I, h1, fun k s1 m1 hi => vwp_mono c s1 m1 (fun e s' m' h' => ?_) (h2 k s1 m1 hi)⟩
      cases e with
      | normal => exact h'
      | _ => exact hq _ _ _ h'
  | .scope c, _, _, s, m, hq, h => vwp_mono c s m (fun e s' m' h' => by
      cases e with
      | goto l => exact h'
      | _ => exact hq _ _ _ h') h
  | .label l, _, _, s, m, hq, h => hq _ _ _ h
  | .scopeJ c l r, _, _, s, m, hq, h => by
      obtain ⟨J, h1, h2⟩ := h
      refine ⟨J, vwp_mono c s m (fun e s' m' h' => ?_) h1, fun k s1 m1 hj => vwp_mono r s1 m1 (fun e s' m' h' => ?_) (h2 k s1 m1 hj)⟩
      · cases e with
        | goto l => exact h'
        | _ => exact hq _ _ _ h'
      · cases e with
        | goto l => exact h'
        | _ => exact hq _ _ _ h'
  | .rangeF inr x ps a b, _, _, s, m, hq, h => by
      obtain ⟨f, cap, v, mE, st, h1, h2, h3, h4, h5⟩ := h
      exact ⟨f, cap, v, mE, st, h1, h2, h3, h4, hq _ _ _ h5⟩
  | .dead, _, _, _, _, _, h => h.elim

section
variable {P : Program} {a : Act} {w wst : World} {M M0 : Mp} {m : Mem} {n : Nat} {s : Nat → V} {B : Nat} {I0 : Nat → Nat → Prop} {w0 : World} {own : Nat → Bool} {Y : YRel} {rd : Option Nat} {N : Nat}

/-- The concrete claim. -/
def Up (B : Nat) (I0 : Nat → Nat → Prop) (w0 : World) (M0 : Mp) (wst : World) (n : Nat) (Q : Exit → (Nat → V) → Mem → Prop) (e : Exit) (a : Act) (w : World) : Prop :=
  ∃ s m, AT B I0 w0 M0 wst n s m a w ∧ Q e s m

theorem ap_step {o : Oper} {ops : Array Oper} {c : O} {K : Act → World → Prop} {Q : Exit → Act → World → Prop} {Φ : V → Mem → Prop} (hc : compOp P n own ops o = some c) (hat : AT B I0 w0 M0 wst n s m a w) (h : apK c s m Φ)
    (hk : ∀ v m' a' w', Φ v m' → AT B I0 w0 M0 wst n (put c.d v s) m' a' w' → K a' w') :
    if Region.wanted o (yielded ops a.tmps) then o.wpIn (fen rd) N P a w K Q else (∀ f, o.about P w a.eval = some f → (fen rd).fn f) ∧ K (a.put o.dst undef) w := by
  obtain ⟨e1, e2, e3, e4⟩ := compOp_iff hc
  unfold apK at h
  split at h
  case h_2 => exact h.elim
  rename_i d e sz bytes x y
  have hgd : o.guard = none := by
    unfold guardO at e3
    split at e3
    · assumption
    · repeat' split at e3
      all_goals cases e3
  have hw : Region.wanted o (yielded ops a.tmps) = true := by simp [Region.wanted, hgd]
  rw [if_pos hw]
  obtain ⟨k0, hk0, hm0⟩ : ∃ k0, compK P ((o.dst.map own).getD false) (exT own o.dst) o.type o.op = some k0 ∧ memOf k0 = some (.apb e sz bytes, [x, y]) := by
    rcases e2 with e2 | e2 | ⟨x1, z1, _, e2⟩ | ⟨f1, xs1, _, e2⟩ | ⟨k0, mo, xs, e2, e5, e6⟩ | e2
    · exact absurd e2 compK_noap
    · cases e2
    · cases e2
    · cases e2
    · cases e6
      refine ⟨k0, e2, ?_⟩
      unfold memOfU at e5
      split at e5
      · unfold memOf2 at e5
        split at e5 <;> cases e5
      · exact e5
    · exact absurd e2 compE_noap
  obtain ⟨M, hE0, hg, hs, ha⟩ := hat
  cases k0 <;> try simp only [memOf, Option.some.injEq, Prod.mk.injEq, reduceCtorEq, Mo.apb.injEq, false_and] at hm0
  case app x1 y1 e5 sz5 by5 ow5 =>
    obtain ⟨⟨rfl, rfl, rfl⟩, hl⟩ := hm0
    simp only [List.cons.injEq, and_true] at hl
    obtain ⟨rfl, rfl⟩ := hl
    obtain ⟨T, x0, y0, i, z0, ho, hT, hi, hz, hzs, hb0, hx, hy, rfl, rfl⟩ := inv_app hk0
    obtain ⟨v, m', hΦ, x, w', M', hrun, hE, hg', hx'⟩ := sound_apc ho hT hi hz hzs hb0 hx hy hs hg h
    have hn := hk v m' _ _ hΦ (AT.next (d := d) hE0 hs ha hE hg' hx' (by have : d = o.dst := e1; rw [this]; exact e4))
    have e1' : d = o.dst := e1
    rw [e1'] at hn
    have hsem : o.semAt (fen rd).round a.eval = execOp a.eval o := Oper.semAt_eq _ _ _ (by
      intro c1 hc1
      rw [hc1] at ho
      cases ho)
    refine ⟨fun _ _ => trivial, ?_⟩
    rcases hrun with hrun | ⟨rfl, hrun⟩
    · rw [hsem, hrun, Oper.uponIn_value]; exact hn
    · rw [hsem, hrun, Oper.uponIn_skip]; exact hn
  case mkl e5 sz5 l5 ow5 => cases l5 <;> simp at hm0
theorem ops_sound (hY : YOk P Y M0 wst) {ops : Array Oper} {Q : Exit → Act → World → Prop} {K : (Nat → V) → Mem → Prop} (hK : ∀ s m a w, AT B I0 w0 M0 wst n s m a w → K s m → Q .normal a w) :
    ∀ (L : List O) (i : Nat) (s : Nat → V) (m : Mem) (a : Act) (w : World), (ops.toList.drop i).mapM (compOp P n own ops) = some L → AT B I0 w0 M0 wst n s m a w → opsWpS P Y L s m K →
      wpOpsIn (fen rd) N P ops Q (List.range' i L.length) a w
  | [], i, s, m, a, w, hc, hat, h => hK s m a w hat h
  | o :: L, i, s, m, a, w, hc, hat, h => by
    cases hd : ops.toList.drop i with
    | nil => rw [hd] at hc; simp at hc
    | cons c r =>
      rw [hd] at hc
      simp only [List.mapM_cons, Option.pure_def, Option.bind_eq_bind, Option.bind_eq_some_iff] at hc
      obtain ⟨o', ho, L', hL, e⟩ := hc
      cases e
      have hi : ops[i]? = some c := by
        have : ops.toList[i]? = some c := by
          have h0 : (ops.toList.drop i)[0]? = some c := by rw [hd]; rfl
          simpa using h0
        simpa using this
      have hr : ops.toList.drop (i + 1) = r := by
        rw [← List.drop_drop, hd]; rfl
      show wpOpsIn (fen rd) N P ops Q (i :: List.range' (i + 1) L.length) a w
      simp only [wpOpsIn, hi]
      rcases h with ⟨v, m', h1, h2⟩ | h
      case inr =>
        exact ap_step ho hat h fun v m' a' w' h2 hat' => ops_sound hY hK L (i + 1) _ _ a' w' (by rw [hr]; exact hL) hat' h2
      refine step_sound ho h1 hat hY fun a' w' hat' => ?_
      rcases h2 with h2 | ⟨d, l, k1, k2, k3⟩
      · exact ops_sound hY hK L (i + 1) _ _ a' w' (by rw [hr]; exact hL) hat' h2
      · subst k2
        rw [k1] at hat' k3
        obtain ⟨u, hu, hat2⟩ := hat'.alts
        exact ops_sound hY hK L (i + 1) _ _ a' w' (by rw [hr]; exact hL) hat2 (k3 u hu)

/-- A loop: what holds at each round, by a number that falls. -/
theorem wp_loop_by {F : Fence} {c : Code} {Q : Exit → Act → World → Prop} (I : Nat → Act → World → Prop)
    (round : ∀ k a w, I k a w → c.wpIn F N P (Exit.then (fun a' w' => ∃ j, j < k ∧ I j a' w') Q) a w) {a : Act} {w : World} {k : Nat} (h0 : I k a w) : (Code.loop c).wpIn F N P Q a w := by
  intro b ks cs hro hb hr
  have key : ∀ j a w, I j a w → ∃ e a' w', Q e a' w' ∧ ArrivesIn (Machine.fenced P F) P (lone (b.atR a (.code c :: .inLoop c :: ks)) cs w) b ks cs e a' w' := by
    intro j
    induction j using Nat.strongRecOn with
    | _ j ih =>
      intro a w hI
      obtain ⟨e, a1, w1, hq, harr⟩ := round j a w hI b (.inLoop c :: ks) cs hro hb hr
      cases e with
      | normal =>
        obtain ⟨i, hj, hI1⟩ := hq
        obtain ⟨e2, a2, w2, hq2, harr2⟩ := ih i hj a1 w1 hI1
        exact ⟨e2, a2, w2, hq2, .of_steps (StepsIn.trans harr (.one (fenced_calm hb hr rfl) stepR_inLoop)) harr2⟩
      | _ => exact ⟨_, a1, w1, hq, .pass (x := .inLoop c) rfl (fun _ _ => .inl (by simp)) harr⟩
  obtain ⟨e, a', w', hq, harr⟩ := key k a w h0
  exact ⟨e, a', w', hq, .of_steps (.one (fenced_calm hb hr rfl) stepR_loop) harr⟩
end
end Go.Av
