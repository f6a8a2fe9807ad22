/-
  AvK: From the model's operations to the compact ones: each is sound.
  AvL: Clean values; what a call promises: on clean values, or on the memory that is there.
  AvM: One operation, with its guard, or a call: what it answers, and that this is sound.
  AvW: Objects in boxes: a new one, another state, another family.
  AvMe: Slices that are written: they lie in boxes; and that these operations are sound.
  AvN: A step of a region is sound.
  AvZ: Boxes and rows that are not needed any more are dropped.
  AvO: Code: its compact form, and what is to be shown of it.
  AvP: What an operation looks at; in which order operations may run.
  AvQ: A region that draws its order: its canonical order says it all.
-/
import Derived.Test.YthjmodhemglgbaaCA
import Derived.OrdersIn
import Derived.RangeFuncNested
set_option linter.unusedSimpArgs false
set_option linter.unusedVariables false

namespace Go.Av
open Go.RowKit

def isNilConst : Operand → Bool
  | .const (.slice none 0 0) => true
  | _ => false
def isNilCells : List Value → Bool
  | [.slice none 0 0] => true
  | _ => false
theorem isNilCells_eq {l : List Value} (h : isNilCells l = true) : l = [.slice none 0 0] := by
  unfold isNilCells at h
  split at h
  · rfl
  · cases h
theorem isNilConst_eq {x : Operand} (h : isNilConst x = true) : x = .const (.slice none 0 0) := by
  unfold isNilConst at h
  split at h
  · rfl
  · cases h

/-- A nil of a slice's type. -/
def nilT (P : Program) (ty : TypeId) (own : Bool) : Option K := match P.underlying ty with
  | some (.slice e) => match P.info? e with
    | some i => some (.nil e i.size own)
    | none => none
  | _ => none
/-- Zero values of slices as they are. -/
def exT (own : Nat → Bool) (d : Option Nat) : Bool := match d with
  | some d => !own (d + 2097152)
  | none => false
/-- The compact form of an operation; none: it has none. 'own': a new slice is a row of its own. -/
def compK (P : Program) (own ex : Bool) (ty : TypeId) (op : Op) : Option K :=
  match op with
  | .move x | .assign x => match (if isNilConst x = true then nilT P ty own else none) with
    | some k => some k
    | none => (compX x).map .mov
  | .pick c x y => match compX c, compX x, compX y with
    | some c', some x', some y' => some (.pick c' x' y')
    | _, _, _ => none
  | .binOp op t x y _ => match compX x, compX y with
    | some x', some y' => match P.underlying t with
      | some .bool => match op with
        | .eql => some (.beq false x' y')
        | .neq => some (.beq true x' y')
        | _ => none
      | some (.slice _) => if isNilConst y = true then (match op with
        | .eql => some (.snil false x')
        | .neq => some (.snil true x')
        | _ => none) else none
      | some (.struct _) => match eqK P t, op with
        | some ks, .eql => some (.mem (.aeq false ks) [x', y'])
        | some ks, .neq => some (.mem (.aeq true ks) [x', y'])
        | _, _ => none
      | _ => some (.bin op x' y')
    | _, _ => none
  | .unOp op _ x => match op with
    | .not => (compX x).map (.un .not)
    | .neg => (compX x).map (.un .neg)
    | _ => none
  | .convert src dst x => match compX x, P.underlying src, P.underlying dst with
    | some x', some _, some (.int k) => some (.conv k x')
    | some x', some (.slice e), some .string => match P.underlying e with
      | some (.int .u8) => some (.b2s x')
      | _ => none
    | _, _, _ => none
  | .extract x i => (compX x).map (.ext · i)
  | .fieldAddr T x f => match compX x, P.underlying T with
    | some x', some (.struct fs) => match fs[f]? with
      | some fd => match P.info? fd.type with
        | some i => if i.size = 0 then none else some (.fad x' fd.offset)
        | none => none
      | none => none
    | _, _ => none
  | .load T x => match compX x, P.underlying T, P.info? T with
    | some x', some _, some i => some (.ld x' (if aggT P T = true then some i.size else none))
    | _, _, _ => none
  | .store T x y => match compX x, compX y, P.info? T with
    | some x', some y', some i => some (.st x' i.size y')
    | _, _, _ => none
  | .indexAddr T x y => match compX x, compX y, P.underlying T with
    | some x', some y', some (.slice e) => (P.info? e).map fun i => .ixs x' y' i.size
    | some x', some y', some (.array n e) => (P.info? e).map fun i => .ixa x' y' n i.size
    | _, _, _ => none
  | .field T x f => match compX x, P.underlying T with
    | some x', some (.struct fs) => match fs[f]? with
      | some fd => match P.underlying fd.type, P.info? fd.type with
        | some _, some i => some (.fld x' fd.offset (if aggT P fd.type = true then some i.size else none))
        | _, _ => none
      | none => none
    | _, _ => none
  | .slice T x lo hi mx => match compX x, compO lo, compO hi, compO mx, P.underlying T with
    | some x', some lo', some hi', some mx', some (.slice e) => match P.info? e with
      | some i => if mx.isSome = true ∧ hi.isSome = false then none else some (.slc x' lo' hi' mx' i.size)
      | none => none
    | _, _, _, _, _ => none
  | .box _ x => (compX x).map .box
  | .alloc T => match P.info? T with
    | some i => match i.zero with
      | some z => match (if own = true then P.underlying T else none) with
        | some (.slice e) => match P.info? e with
          | some ie => if isNilCells z.cells.toList = true then some (.alr e ie.size) else none
          | none => none
        | _ => if z.cells.toList.all plain = true then some (.alc (mkZ z.cells.toList (if ex = true then [] else cellTs P 8 T))) else none
      | none => none
    | none => none
  | .build T parts => match placeOf P T with
    | some (z, pl) => if z.all plain = true then (compParts pl parts.toList).map (.bld (mkZ z (if ex = true then [] else cellTs P 8 T))) else none
    | none => none
  | .buildSlice T len parts => match P.underlying T, compXs (parts.toList.map (·.2)) with
    | some (.slice e), some xs => match P.info? e with
      | some i => match i.zero with
        | some _ => if 0 < i.size ∧ parts.toList.map (·.1) = List.range' 0 len ∧ len * i.size ≤ 2 ^ 24 then some (.mkl e i.size xs own) else none
        | none => none
      | none => none
    | _, _ => none
  | .makeSlice T x y => match compX x, compX y, P.underlying T with
    | some x', some y', some (.slice e) => match P.info? e with
      | some i => match i.zero with
        | some z => if z.cells.size = i.size ∧ 0 < i.size ∧ 0 < i.bytes ∧ z.cells.toList.all plain = true then some (.mks x' y' e i.size i.bytes (mkZ z.cells.toList (cellTs P 8 e)) own) else none
        | none => none
      | none => none
    | _, _, _ => none
  | .makeFunc (.func f) first caps => if first.isEmpty = true then (compXs caps.toList).map (.mkf f) else none
  | .call { callee := .builtin b, args := args, argTypes := tys } => match b, args.toList, tys.toList with
    | .len, [x], [T] => match compX x, P.underlying T with
      | some x', some (.slice _) => some (.len x')
      | some x', some .string => some (.slen x')
      | _, _ => none
    | .append, [x, y], [t, t'] => match compX x, compX y, P.underlying t with
      | some x', some y', some (.slice e) => match P.info? e with
        | some i => match i.zero with
          | some z => if t = t' ∧ z.cells.size = i.size ∧ 0 < i.bytes then some (.app x' y' e i.size i.bytes own) else none
          | none => none
        | none => none
      | _, _, _ => none
    | .max, [x, y], _ => match compX x, compX y with
      | some x', some y' => some (.mm true x' y')
      | _, _ => none
    | .min, [x, y], _ => match compX x, compX y with
      | some x', some y' => some (.mm false x' y')
      | _, _ => none
    | _, _, _ => none
  | .call { callee := .value (.func f), args := args, argTypes := _ } => (compXs args.toList).map (.call f)
  | .call { callee := .value (.tmp t), args := args, argTypes := _ } => (compXs args.toList).map (.callv (.t t))
  | .index T x y => match compX x, compX y, P.underlying T with
    | some x', some y', some .string => some (.sidx x' y')
    | _, _, _ => none
  | .range T x => match compX x, P.underlying T with
    | some x', some .string => some (.srg x')
    | _, _ => none
  | .next x true => (compX x).map .snx
  | .makeMap _ none => some .mkm
  | .mapUpdate T x k y => match P.underlying T, compX x, compX k, compX y with
    | some (.map kt _), some x', some k', some y' => match P.underlying kt with
      | some (.int .i64) => some (.mup x' k' y')
      | _ => none
    | _, _, _, _ => none
  | .lookup T x k ok => match P.underlying T, compX x, compX k with
    | some (.map kt et), some x', some k' => match P.underlying kt, P.info? et with
      | some (.int .i64), some i => match i.zero with
        | some z => if z.cells.toList.all plain = true then some (.mlk x' k' (zV z (cellTs P 8 et)) ok) else none
        | none => none
      | _, _ => none
    | _, _, _ => none
  | _ => none

def K.isCall : K → Bool
  | .call _ _ | .callq _ _ | .callv _ _ | .callf _ _ _ | .callr _ _ => true
  | _ => false

section
variable {P : Program} {o : Oper} {a : Act} {w w' : World} {M : Mp} {m : Mem} {n : Nat} {s : Nat → V} {B : Nat} {I0 : Nat → Nat → Prop} {w0 : World}

theorem sound_lens {T e : TypeId} {x : Operand} {x' : X} {v : V} {m' : Mem} (ho : o.op = .call { callee := .builtin .len, args := #[x], argTypes := #[T] }) (hT : P.underlying T = some (.slice e))
    (hx : compX x = some x') (hs : Slots M w n s a) (hg : Good B I0 w0 M m w) (h : kindE (.len x') s m = some (v, m')) : Sound P o a w M B I0 w0 v m' := by
  have k1 := comp_ev hx hs
  simp only [kindE] at h
  have hrun : ∀ (b : Option Addr) (q c : Nat), a.eval x = .slice b q c → (execOp a.eval o).run P w = .ok (.value (.int .i64 q)) w := fun b q c hv => by
    unfold execOp
    rw [ho]
    simp [resolve, invoke, builtin, hv, Builtin.len_, run_underlying hT, goInt]
  split at h
  · rename_i sz xs e1
    cases h
    rcases elems_rep k1 e1 with ⟨rfl, k1⟩ | ⟨ad, c, k1, _⟩
    · exact sound_same hg (hrun _ _ _ k1) ⟨rfl, rfl⟩
    · exact sound_same hg (hrun _ _ _ k1) ⟨rfl, rfl⟩
  · split at h
    · rename_i e1
      rw [e1] at k1
      cases h
      exact sound_same hg (hrun _ _ _ k1.1) ⟨rfl, rfl⟩
    · cases h

theorem sound_slen {T : TypeId} {x : Operand} {x' : X} {v : V} {m' : Mem} (ho : o.op = .call { callee := .builtin .len, args := #[x], argTypes := #[T] }) (hT : P.underlying T = some .string)
    (hx : compX x = some x') (hs : Slots M w n s a) (hg : Good B I0 w0 M m w) (h : kindE (.slen x') s m = some (v, m')) : Sound P o a w M B I0 w0 v m' := by
  have k1 := comp_ev hx hs
  simp only [kindE] at h
  split at h
  · rename_i b e1
    rw [e1] at k1
    obtain ⟨k1, _⟩ := k1
    cases h
    refine sound_same hg (x := .int .i64 b.size) ?_ ⟨rfl, rfl⟩
    unfold execOp
    rw [ho]
    simp [resolve, invoke, builtin, k1, Builtin.len_, run_underlying hT, goInt]
  · cases h

theorem kind_sound {own ex : Bool} {k : K} {v : V} {m' : Mem} {ty : TypeId} (hc : compK P own ex ty o.op = some k) (hs : Slots M w n s a) (hg : Good B I0 w0 M m w) (h : kindE k s m = some (v, m')) : Sound P o a w M B I0 w0 v m' := by
  generalize hop : o.op = op at hc
  unfold compK at hc
  split at hc
  case h_1 x =>
    split at hc
    · rename_i k' e
      cases hc
      split at e
      · rename_i hn
        have hx := isNilConst_eq hn
        subst hx
        unfold nilT at e
        split at e
        · split at e <;> cases e
          rename_i ie _
          simp only [kindE] at h
          obtain ⟨rfl, rfl⟩ : (newV own m _ ie.size []).1 = v ∧ (newV own m _ ie.size []).2 = m' := by rw [Option.some.inj h]; exact ⟨rfl, rfl⟩
          exact sound_nil own (.inl hop) hg
        · cases e
      · cases e
    · simp only [Option.map_eq_some_iff] at hc
      obtain ⟨x', hx, rfl⟩ := hc
      simp only [kindE, Option.some.injEq, Prod.mk.injEq] at h
      obtain ⟨rfl, rfl⟩ := h
      exact sound_mov (.inl hop) hx hs hg
  case h_2 x =>
    split at hc
    · rename_i k' e
      cases hc
      split at e
      · rename_i hn
        have hx := isNilConst_eq hn
        subst hx
        unfold nilT at e
        split at e
        · split at e <;> cases e
          rename_i ie _
          simp only [kindE] at h
          obtain ⟨rfl, rfl⟩ : (newV own m _ ie.size []).1 = v ∧ (newV own m _ ie.size []).2 = m' := by rw [Option.some.inj h]; exact ⟨rfl, rfl⟩
          exact sound_nil own (.inr hop) hg
        · cases e
      · cases e
    · simp only [Option.map_eq_some_iff] at hc
      obtain ⟨x', hx, rfl⟩ := hc
      simp only [kindE, Option.some.injEq, Prod.mk.injEq] at h
      obtain ⟨rfl, rfl⟩ := h
      exact sound_mov (.inr hop) hx hs hg
  case h_3 c x y =>
    split at hc <;> cases hc
    rename_i c' x' y' h1 h2 h3
    simp only [kindE] at h
    split at h <;> cases h
    rename_i t ht
    exact sound_pick hop h1 h2 h3 hs hg ht
  case h_4 bop t x y ty =>
    split at hc
    · rename_i x' y' h1 h2
      split at hc
      · rename_i ht
        split at hc <;> cases hc
        · simp only [kindE] at h
          split at h <;> cases h
          rename_i p q e1 e2
          exact sound_beq (ne := false) hop rfl ht h1 h2 hs hg e1 e2
        · simp only [kindE] at h
          split at h <;> cases h
          rename_i p q e1 e2
          exact sound_beq (ne := true) hop rfl ht h1 h2 hs hg e1 e2
      · rename_i e ht
        split at hc
        · rename_i hn
          have hy := isNilConst_eq hn
          subst hy
          split at hc <;> cases hc
          · simp only [kindE] at h
            split at h <;> cases h <;> exact sound_snil (ne := false) hop rfl ht h1 hs hg (by simp_all)
          · simp only [kindE] at h
            split at h <;> cases h <;> exact sound_snil (ne := true) hop rfl ht h1 hs hg (by simp_all)
        · cases hc
      · split at hc <;> cases hc
        · rename_i hk
          simp only [kindE, memE, List.map_cons, List.map_nil] at h
          split at h
          · rename_i l1 l2 e1
            simp only [List.cons.injEq, and_true] at e1
            split at h <;> cases h
            rename_i p q e2 e3
            exact sound_aeq (ne := false) hop rfl hk h1 h2 hs hg e1.1 e1.2 e2 e3
          · cases h
        · rename_i hk
          simp only [kindE, memE, List.map_cons, List.map_nil] at h
          split at h
          · rename_i l1 l2 e1
            simp only [List.cons.injEq, and_true] at e1
            split at h <;> cases h
            rename_i p q e2 e3
            exact sound_aeq (ne := true) hop rfl hk h1 h2 hs hg e1.1 e1.2 e2 e3
          · cases h
      · cases hc
        simp only [kindE, Option.map_eq_some_iff, Prod.mk.injEq] at h
        obtain ⟨r, hr, rfl, rfl⟩ := h
        exact sound_bin hop h1 h2 hs hg hr
    · cases hc
  case h_5 uop t x =>
    split at hc
    · simp only [Option.map_eq_some_iff] at hc
      obtain ⟨x', hx, rfl⟩ := hc
      simp only [kindE] at h
      split at h <;> cases h
      · rename_i p e; exact sound_not hop hx hs hg e
      · rename_i e1 e2; cases e1
    · simp only [Option.map_eq_some_iff] at hc
      obtain ⟨x', hx, rfl⟩ := hc
      simp only [kindE] at h
      split at h <;> cases h
      · rename_i e1 e2; cases e1
      · rename_i k q e; exact sound_neg hop hx hs hg e
    · cases hc
  case h_6 src dst x =>
    split at hc
    · cases hc
      rename_i x' d k h1 h2 h3
      simp only [kindE, Option.map_eq_some_iff] at h
      obtain ⟨r, h, e⟩ := h
      cases e
      exact sound_conv hop (by rw [h2]; rfl) h3 h1 hs hg h
    · rename_i x' e h1 h2 h3
      split at hc <;> cases hc
      rename_i h4
      exact sound_b2s hop h2 h3 h4 h1 hs hg h
    · cases hc
  case h_7 x i =>
    simp only [Option.map_eq_some_iff] at hc
    obtain ⟨x', hx, rfl⟩ := hc
    simp only [kindE] at h
    split at h
    · rename_i l e
      simp only [Option.map_eq_some_iff, Prod.mk.injEq] at h
      obtain ⟨r, hr, rfl, rfl⟩ := h
      exact sound_ext hop hx hs hg e hr
    · cases h
  case h_8 T x f =>
    split at hc
    · rename_i x' fs h1 h2
      split at hc
      · rename_i fd hf
        split at hc
        · rename_i i hi
          split at hc <;> cases hc
          rename_i h0
          simp only [kindE] at h
          split at h <;> cases h <;> exact sound_fad hop h2 hf hi h0 h1 hs hg (by simp_all)
        · cases hc
      · cases hc
    · cases hc
  case h_9 T x =>
    split at hc
    · cases hc
      rename_i x' d i h1 h2 h3
      cases hagg : aggT P T with
      | false =>
        simp only [hagg, kindE] at h
        split at h
        · rename_i cs e1 e2
          simp only [Option.map_eq_some_iff, Prod.mk.injEq] at h
          obtain ⟨r, hr, rfl, rfl⟩ := h
          exact sound_ld1 hop h2 hagg h1 hs hg e1 hr
        · rename_i e2; simp at e2
        · cases h
      | true =>
        simp only [hagg, kindE, if_true] at h
        split at h
        · rename_i e2; simp at e2
        · rename_i cs k e1 e2
          cases e2
          split at h <;> cases h
          rename_i hle
          exact sound_ldn hop h2 hagg h3 h1 hs hg e1 hle
        · cases h
    · cases hc
  case h_10 T x y =>
    split at hc
    · cases hc
      rename_i x' y' i h1 h2 h3
      simp only [kindE] at h
      split at h
      · rename_i b q e1
        split at h
        · rename_i cs e2
          split at h <;> cases h
          rename_i hcond
          exact sound_st hop h3 h1 h2 hs hg e1 e2 hcond.1 hcond.2.1 hcond.2.2.1 hcond.2.2.2
        · cases h
      · cases h
    · cases hc
  case h_11 T x y =>
    split at hc
    · rename_i x' y' e h1 h2 h3
      simp only [Option.map_eq_some_iff] at hc
      obtain ⟨i, hi, rfl⟩ := hc
      simp only [kindE] at h
      split at h
      · rename_i sz' xs k q e1 e2
        split at h
        · rename_i hcond
          obtain ⟨rfl, h0⟩ := hcond
          simp only [Option.map_eq_some_iff, Prod.mk.injEq] at h
          obtain ⟨cs, hcs, rfl, rfl⟩ := h
          exact sound_ixs hop h3 hi h1 h2 hs hg e1 e2 h0 hcs
        · cases h
      · cases h
    · rename_i x' y' len e h1 h2 h3
      simp only [Option.map_eq_some_iff] at hc
      obtain ⟨i, hi, rfl⟩ := hc
      simp only [kindE] at h
      split at h
      · rename_i b off k q e1 e2
        split at h <;> cases h
        rename_i hcond
        exact sound_ixa hop h3 hi h1 h2 hs hg e1 e2 hcond.1 hcond.2
      · cases h
    · cases hc
  case h_12 T x f =>
    split at hc
    · rename_i x' fs h1 h2
      split at hc
      · rename_i fd hf
        split at hc
        · cases hc
          rename_i d i hd hi
          cases hagg : aggT P fd.type with
          | false =>
            simp only [hagg, kindE] at h
            split at h
            · rename_i l e1 e2
              simp only [Option.map_eq_some_iff, Prod.mk.injEq] at h
              obtain ⟨r, hr, rfl, rfl⟩ := h
              exact sound_fld1 hop h2 hf hd hagg h1 hs hg e1 hr
            · rename_i e2; simp at e2
            · cases h
          | true =>
            simp only [hagg, kindE, if_true] at h
            split at h
            · rename_i e2; simp at e2
            · rename_i l k e1 e2
              cases e2
              split at h <;> cases h
              rename_i hle
              exact sound_fldn hop h2 hf hd hagg hi h1 hs hg e1 hle
            · cases h
        · cases hc
      · cases hc
    · cases hc
  case h_13 T x lo hi mx =>
    split at hc
    · rename_i x' lo' hi' mx' e h1 h2 h3 h4 h5
      split at hc
      · rename_i i h6
        split at hc <;> cases hc
        rename_i hm
        exact sound_slc hop h5 h6 h1 h2 h3 h4 (fun hmx => by
          cases hh : hi with
          | none => exact absurd ⟨hmx, by simp [hh]⟩ hm
          | some _ => rfl) hs hg h
      · cases hc
    · cases hc
  case h_14 T x =>
    simp only [Option.map_eq_some_iff] at hc
    obtain ⟨x', hx, rfl⟩ := hc
    simp only [kindE] at h
    split at h <;> cases h
    rename_i h1
    exact sound_box hop hx hs hg h1
  case h_15 T =>
    split at hc
    · rename_i i hi
      split at hc
      · rename_i z hz
        split at hc
        · split at hc
          · split at hc <;> cases hc
            rename_i hp
            simp only [kindE, Option.some.injEq, Prod.mk.injEq] at h
            obtain ⟨rfl, rfl⟩ := h
            exact sound_alr hop hi hz (isNilCells_eq hp) hg
          · cases hc
        · split at hc <;> cases hc
          rename_i hp
          simp only [kindE, Option.some.injEq, Prod.mk.injEq] at h
          obtain ⟨rfl, rfl⟩ := h
          exact sound_alc _ hop hi hz hp hg
      · cases hc
    · cases hc
  case h_16 T parts =>
    split at hc
    · rename_i z pl hT
      split at hc
      · rename_i hz
        simp only [Option.map_eq_some_iff] at hc
        obtain ⟨ps, hps, rfl⟩ := hc
        simp only [kindE] at h
        split at h
        · rename_i hps2
          simp only [Option.map_eq_some_iff, Prod.mk.injEq] at h
          obtain ⟨r, hr, rfl, rfl⟩ := h
          exact sound_bld _ hop hT hz hps hs hg hr (fun p hp => one_tuple (List.all_eq_true.1 hps2 p hp))
        · cases h
      · cases hc
    · cases hc
  case h_17 T len parts =>
    split at hc
    · rename_i e xs h1 h2
      split at hc
      · rename_i i hi
        split at hc
        · rename_i z hz
          split at hc <;> cases hc
          rename_i hcond
          simp only [kindE] at h
          split at h
          · rename_i hall
            obtain ⟨rfl, rfl⟩ : (newV own m e i.size (xs.map fun x => (x.ev s).cells)).1 = v ∧ (newV own m e i.size (xs.map fun x => (x.ev s).cells)).2 = m' := by rw [Option.some.inj h]; exact ⟨rfl, rfl⟩
            exact sound_mkl own hop h1 hi hz hcond.1 hcond.2.1 hcond.2.2 h2 hs hg hall
          · cases h
        · cases hc
      · cases hc
    · cases hc
  case h_18 T x y =>
    split at hc
    · rename_i x' y' e h1 h2 h3
      split at hc
      · rename_i i hi
        split at hc
        · rename_i z hz
          split at hc <;> cases hc
          rename_i hcond
          simp only [kindE] at h
          split at h
          · rename_i p q e1 e2
            split at h
            · rename_i hq
              obtain ⟨rfl, q0, qb⟩ := hq
              obtain ⟨rfl, rfl⟩ : (newV own m e i.size (List.replicate p.toNat (mkZ z.cells.toList (cellTs P 8 e)))).1 = v ∧ (newV own m e i.size (List.replicate p.toNat (mkZ z.cells.toList (cellTs P 8 e)))).2 = m' := by rw [Option.some.inj h]; exact ⟨rfl, rfl⟩
              have hp : p ≤ 140737488355328 := Int.le_trans (Int.le_trans (by rw [Int.mul_one]; exact Int.le_refl _) (Int.mul_le_mul_of_nonneg_left (show (1 : Int) ≤ i.bytes by have := hcond.2.2.1; omega) q0)) qb
              exact sound_mks own _ hop h3 hi hz hcond.1 hcond.2.1 hcond.2.2.2 h1 h2 hs hg e1 e2 q0 qb (by omega)
            · cases h
          · cases h
        · cases hc
      · cases hc
    · cases hc
  case h_19 f first caps =>
    split at hc
    · rename_i hfe
      have hf0 : first = #[] := by simpa using hfe
      subst hf0
      simp only [Option.map_eq_some_iff] at hc
      obtain ⟨caps', hcs, rfl⟩ := hc
      simp only [kindE, Option.some.injEq, Prod.mk.injEq] at h
      obtain ⟨rfl, rfl⟩ := h
      exact sound_mkf hop hcs hs hg
    · cases hc
  case h_20 b args tys =>
    split at hc
    · rename_i x T ea et
      obtain rfl : args = #[x] := by apply Array.ext'; simpa using ea
      obtain rfl : tys = #[T] := by apply Array.ext'; simpa using et
      split at hc <;> cases hc
      · rename_i x' e h1 h2
        exact sound_lens hop h2 h1 hs hg h
      · rename_i x' h1 h2
        exact sound_slen hop h2 h1 hs hg h
    · rename_i x y t t' ea et
      obtain rfl : args = #[x, y] := by apply Array.ext'; simpa using ea
      obtain rfl : tys = #[t, t'] := by apply Array.ext'; simpa using et
      split at hc
      · rename_i x' y' e h1 h2 h3
        split at hc
        · rename_i i hi
          split at hc
          · rename_i z hz
            split at hc <;> cases hc
            rename_i hcond
            obtain ⟨rfl, hzs, hb0⟩ := hcond
            exact sound_app own hop h3 hi hz hzs hb0 h1 h2 hs hg h
          · cases hc
        · cases hc
      · cases hc
    · rename_i x y ea
      obtain rfl : args = #[x, y] := by apply Array.ext'; simpa using ea
      split at hc <;> cases hc
      rename_i x' y' h1 h2
      simp only [kindE] at h
      split at h <;> cases h
      rename_i k p k' q e1 e2
      exact sound_mm (mx := true) hop h1 h2 hs hg e1 e2
    · rename_i x y ea
      obtain rfl : args = #[x, y] := by apply Array.ext'; simpa using ea
      split at hc <;> cases hc
      rename_i x' y' h1 h2
      simp only [kindE] at h
      split at h <;> cases h
      rename_i k p k' q e1 e2
      exact sound_mm (mx := false) hop h1 h2 hs hg e1 e2
    · cases hc
  case h_21 f args tys =>
    simp only [Option.map_eq_some_iff] at hc
    obtain ⟨as, _, rfl⟩ := hc
    simp [kindE] at h
  case h_22 t args tys =>
    simp only [Option.map_eq_some_iff] at hc
    obtain ⟨as, _, rfl⟩ := hc
    simp [kindE] at h
  case h_23 T x y =>
    split at hc <;> cases hc
    rename_i x' y' h1 h2 hT
    simp only [kindE] at h
    split at h
    · rename_i str k q e1 e2
      split at h
      · rename_i h0
        simp only [Option.map_eq_some_iff, Prod.mk.injEq] at h
        obtain ⟨c, hcc, rfl, rfl⟩ := h
        exact sound_sidx hop hT h1 h2 hs hg e1 e2 h0 hcc
      · cases h
    · cases h
  case h_24 T x =>
    split at hc <;> cases hc
    rename_i x' h1 hT
    simp only [kindE] at h
    split at h <;> cases h
    rename_i str e1
    exact sound_srg hop hT h1 hs hg e1
  case h_25 x =>
    simp only [Option.map_eq_some_iff] at hc
    obtain ⟨x', h1, rfl⟩ := hc
    simp only [kindE] at h
    split at h
    · rename_i b e1
      split at h
      · rename_i str pos e2
        split at h
        · rename_i hp
          cases h
          exact sound_snx hop h1 hs hg e1 e2 hp
        · rename_i hp
          cases h
          exact sound_snx_over hop h1 hs hg e1 e2 hp
      · cases h
    · cases h
  case h_26 T =>
    cases hc
    simp only [kindE, Option.some.injEq, Prod.mk.injEq] at h
    obtain ⟨rfl, rfl⟩ := h
    exact sound_mkm hop hg
  case h_27 T x k y =>
    split at hc
    · rename_i kt et x' k' y' hT h1 h2 h3
      split at hc
      · rename_i hk
        cases hc
        simp only [kindE] at h
        split at h
        · rename_i b q e1 e2
          simp only [Option.map_eq_some_iff, Option.bind_eq_some_iff, Prod.mk.injEq] at h
          obtain ⟨kvs, ⟨cs, hb, hc⟩, rfl, rfl⟩ := h
          exact sound_mup (.inl hop) hT hk h1 h2 h3 hs hg e1 e2 hb hc
        · cases h
      · cases hc
    · cases hc
  case h_28 T x k ok =>
    split at hc
    · rename_i kt et x' k' hT h1 h2
      split at hc
      · rename_i i hk hi
        split at hc
        · rename_i z hz
          split at hc
          · rename_i hp
            cases hc
            simp only [kindE] at h
            split at h
            · rename_i b q e1 e2
              simp only [Option.map_eq_some_iff, Option.bind_eq_some_iff, Prod.mk.injEq] at h
              obtain ⟨kvs, ⟨cs, hb, hc⟩, rfl, rfl⟩ := h
              exact sound_mlk hop hT hk hi hz (fun M w => zV_rep hp) h1 h2 hs hg e1 e2 hb hc
            · cases h
          · cases hc
        · cases hc
      · cases hc
    · cases hc
  case h_29 => cases hc
end
end Go.Av

namespace Go.Av
open Go.RowKit

mutual
theorem Rep.clean {M M' : Mp} {w : World} (hI : ∀ (b o : Nat), M.I b o → M'.I b o) : ∀ (v : V) (x : Value), v.isClean = true → Rep M w v x → Rep M' w v x
  | .val _, _, _, h => h
  | .agg l, x, hc, h => by
    obtain ⟨vs, rfl, h⟩ := h
    exact ⟨vs, rfl, RepL.clean hI l _ (by simpa [V.isClean] using hc) h⟩
  | .lit sz xs, x, hc, h => by
    exact h.imp id fun ⟨ad, c, h0, h1, h2, h3, h4⟩ => ⟨ad, c, h0, h1, h2, h3, RepX.clean hI xs _ _ (by simpa [V.isClean] using hc) h4⟩
  | .full sz xs, x, hc, h => by
    exact h.imp id fun ⟨ad, h0, h2, h3, h4⟩ => ⟨ad, h0, h2, h3, RepX.clean hI xs _ _ (by simpa [V.isClean] using hc) h4⟩
  | .emp _, _, _, h => h
  | .any, _, _, _ => trivial
  | .row t sz xs, x, hc, h => by simp [V.isClean] at hc
  | .ptr b off, x, hc, h => by simp [V.isClean] at hc
  | .yld b, x, hc, h => by simp [V.isClean] at hc
  | .ref k b, x, hc, h => by simp [V.isClean] at hc
  | .eptr cs, x, hc, h => by
    obtain ⟨ad, rfl, h1, h2⟩ := h
    exact ⟨ad, rfl, h1, RepC.clean hI cs _ _ (by simpa [V.isClean] using hc) h2⟩
  | .func f cap, x, hc, h => by
    obtain ⟨vs, rfl, h⟩ := h
    exact ⟨vs, rfl, RepL.clean hI cap _ (by simpa [V.isClean] using hc) h⟩
  | .iface t v, x, hc, h => by
    obtain ⟨y, rfl, h⟩ := h
    exact ⟨y, rfl, Rep.clean hI v y (by simpa [V.isClean] using hc) h⟩
  | .tuple l, x, hc, h => by
    obtain ⟨vs, rfl, h⟩ := h
    exact ⟨vs, rfl, RepL.clean hI l _ (by simpa [V.isClean] using hc) h⟩
  | .alts l, x, hc, h => ⟨h.1, RepA.clean hI l x h.1 h.2⟩
theorem RepA.clean {M M' : Mp} {w : World} (hI : ∀ (b o : Nat), M.I b o → M'.I b o) : ∀ (l : List V) (x : Value), cleanL l = true → RepA M w l x → RepA M' w l x
  | [], _, _, h => h.elim
  | v :: l, x, hc, h => by
    simp only [cleanL, Bool.and_eq_true] at hc
    exact h.imp (Rep.clean hI v x hc.1) (RepA.clean hI l x hc.2)
theorem RepL.clean {M M' : Mp} {w : World} (hI : ∀ (b o : Nat), M.I b o → M'.I b o) : ∀ (l : List V) (m : List Value), cleanL l = true → RepL M w l m → RepL M' w l m
  | [], _, _, h => h
  | v :: l, m, hc, h => by
    obtain ⟨x, r, rfl, h1, h2⟩ := h
    simp only [cleanL, Bool.and_eq_true] at hc
    exact ⟨x, r, rfl, Rep.clean hI v x hc.1 h1, RepL.clean hI l r hc.2 h2⟩
theorem RepC.clean {M M' : Mp} {w : World} (hI : ∀ (b o : Nat), M.I b o → M'.I b o) : ∀ (l : List V) (b o : Nat), cleanL l = true → RepC M w l b o → RepC M' w l b o
  | [], _, _, _, _ => trivial
  | v :: l, b, o, hc, h => by
    obtain ⟨⟨x, h1, h2, h3, h4⟩, h5⟩ := h
    simp only [cleanL, Bool.and_eq_true] at hc
    exact ⟨⟨x, hI b o h1, h2, h3, Rep.clean hI v x hc.1 h4⟩, RepC.clean hI l b (o + 1) hc.2 h5⟩
theorem RepX.clean {M M' : Mp} {w : World} (hI : ∀ (b o : Nat), M.I b o → M'.I b o) : ∀ (l : List (List V)) (b o : Nat), cleanX l = true → RepX M w l b o → RepX M' w l b o
  | [], _, _, _, _ => trivial
  | e :: r, b, o, hc, h => by
    simp only [cleanX, Bool.and_eq_true] at hc
    exact ⟨RepC.clean hI e b o hc.1 h.1, RepX.clean hI r b (o + e.length) hc.2 h.2⟩
end

/-- A row, or a full slice, as one that is only read. -/
def V.top1 : V → V
  | .row _ sz xs => .lit sz xs
  | .full sz xs => .lit sz xs
  | .emp sz => .lit sz []
  | v => v
/-- And in the parts of a struct, or of several results. -/
def V.top : V → V
  | .agg l => .agg (l.map V.top1)
  | .tuple l => .tuple (l.map V.top1)
  | v => v.top1
theorem Rep.top1 {M : Mp} {w : World} : ∀ {v : V} {x : Value}, Rep M w v x → Rep M w v.top1 x
  | .row t sz xs, x, h => by
    obtain ⟨G, _, h⟩ := h
    exact h.imp id fun ⟨g, c, h0, h1, h2, h3, _⟩ => ⟨⟨g, 0, none⟩, c, h0, h1, .inr rfl, h2, h3⟩
  | .full sz xs, x, h => h.imp id fun ⟨ad, h0, h1, h2, h3⟩ => ⟨ad, _, h0, Nat.le_refl _, h1, h2, h3⟩
  | .emp sz, x, h => by
    obtain ⟨ad, c, rfl⟩ := h
    exact .inr ⟨ad, c, rfl, Nat.zero_le _, .inl rfl, by simp, trivial⟩
  | .val _, _, h => h
  | .agg _, _, h => h
  | .lit _ _, _, h => h
  | .ptr _ _, _, h => h
  | .eptr _, _, h => h
  | .func _ _, _, h => h
  | .iface _ _, _, h => h
  | .tuple _, _, h => h
  | .yld _, _, h => h
  | .ref _ _, _, h => h
  | .any, _, h => h
  | .alts _, _, h => h
theorem RepL.top1 {M : Mp} {w : World} : ∀ {l : List V} {m : List Value}, RepL M w l m → RepL M w (l.map V.top1) m
  | [], _, h => h
  | v :: l, _, h => by
    obtain ⟨x, r, rfl, h1, h2⟩ := h
    exact ⟨x, r, rfl, h1.top1, RepL.top1 h2⟩
theorem Rep.top {M : Mp} {w : World} {v : V} {x : Value} (h : Rep M w v x) : Rep M w v.top x := by
  cases v with
  | agg l => obtain ⟨vs, rfl, h⟩ := h; exact ⟨vs, rfl, h.top1⟩
  | tuple l => obtain ⟨vs, rfl, h⟩ := h; exact ⟨vs, rfl, h.top1⟩
  | _ => exact h.top1
theorem RepL.top {M : Mp} {w : World} : ∀ {l : List V} {m : List Value}, RepL M w l m → RepL M w (l.map V.top) m
  | [], _, h => h
  | v :: l, _, h => by
    obtain ⟨x, r, rfl, h1, h2⟩ := h
    exact ⟨x, r, rfl, h1.top, RepL.top h2⟩

/-- A result: clean, or a row of its own with clean elements; rows in the parts of several results. -/
def V.res1 : V → Bool
  | .row _ _ xs => cleanX xs
  | v => v.isClean
def V.res : V → Bool
  | .tuple l => l.all V.res1
  | v => v.res1
def V.shift1 (k : Nat) : V → V
  | .row t sz xs => .row (t + k) sz xs
  | v => v
def V.shift (k : Nat) : V → V
  | .tuple l => .tuple (l.map (V.shift1 k))
  | v => v.shift1 k
theorem Rep.shift1 {M M' : Mp} {w : World} {k : Nat} (hI : ∀ (b o : Nat), M.I b o → M'.I b o) (hγ : ∀ (t : Nat) (G : List (Nat × Nat × Nat)), M.γ[t]? = some G → M'.γ[t + k]? = some G) {v : V} {x : Value} (hr : v.res1 = true) (h : Rep M w v x) : Rep M' w (v.shift1 k) x := by
  cases v with
  | row t sz xs =>
    obtain ⟨G, h4, h⟩ := h
    exact ⟨G, hγ t G h4, h.imp id fun ⟨g, c, h0, h1, h2, h3, h5⟩ => ⟨g, c, h0, h1, h2, RepX.clean hI xs _ _ (by simpa [V.res1] using hr) h3, h5⟩⟩
  | _ => exact Rep.clean hI _ _ hr h
theorem Rep.shift {M M' : Mp} {w : World} {k : Nat} (hI : ∀ (b o : Nat), M.I b o → M'.I b o) (hγ : ∀ (t : Nat) (G : List (Nat × Nat × Nat)), M.γ[t]? = some G → M'.γ[t + k]? = some G) {v : V} {x : Value} (hr : v.res = true) (h : Rep M w v x) : Rep M' w (v.shift k) x := by
  cases v with
  | tuple l =>
    obtain ⟨vs, rfl, h⟩ := h
    refine ⟨vs, rfl, ?_⟩
    have key : ∀ {l : List V} {m : List Value}, l.all V.res1 = true → RepL M w l m → RepL M' w (l.map (V.shift1 k)) m := by
      intro l
      induction l with
      | nil => intro m _ h; exact h
      | cons v l ih =>
        intro m hr h
        obtain ⟨y, r, rfl, h1, h2⟩ := h
        simp only [List.all_cons, Bool.and_eq_true] at hr
        exact ⟨y, r, rfl, h1.shift1 hI hγ hr.1, ih hr.2 h2⟩
    exact key hr h
  | val v => exact Rep.shift1 (v := .val v) hI hγ hr h
  | agg l => exact Rep.shift1 (v := .agg l) hI hγ hr h
  | lit sz xs => exact Rep.shift1 (v := .lit sz xs) hI hγ hr h
  | full sz xs => exact Rep.shift1 (v := .full sz xs) hI hγ hr h
  | row t sz xs => exact Rep.shift1 (v := .row t sz xs) hI hγ hr h
  | ptr b o => exact Rep.shift1 (v := .ptr b o) hI hγ hr h
  | eptr cs => exact Rep.shift1 (v := .eptr cs) hI hγ hr h
  | func f c => exact Rep.shift1 (v := .func f c) hI hγ hr h
  | iface t v => exact Rep.shift1 (v := .iface t v) hI hγ hr h
  | yld b => exact Rep.shift1 (v := .yld b) hI hγ hr h
  | ref k b => exact Rep.shift1 (v := .ref k b) hI hγ hr h
  | emp sz => exact Rep.shift1 (v := .emp sz) hI hγ hr h
  | any => trivial
  | alts l => exact Rep.shift1 (v := .alts l) hI hγ hr h

/-- A function with a body of its own. -/
def callable (P : Program) (f : FuncId) : Bool := match P.funcs[f]? with
  | some fn => fn.body.isSome && !(fn.name == "runtime.NumGoroutine")
  | none => false

/-- What a function answers on clean values: in whatever memory; 'tips': the rows of its own that are in the answer. -/
def Pure (P : Program) (f : FuncId) (args : List V) (r : V) (tips : List (TypeId × Nat × Nat)) : Prop :=
  callable P f = true ∧ r.res = true ∧ ∀ (I : Nat → Nat → Prop) (w : World) (vals : Array Value), (∀ (b o : Nat), I b o → b < w.heap.size) → RepL ⟨[], [], I, fun _ => none⟩ w args vals.toList →
    Calls P f vals w fun e w' => ∃ x M', e = .returned x ∧ Good w.heap.size I w M' ⟨[], tips⟩ w' ∧ Rep M' w' r x
/-- What a function does with the memory that is there. -/
def Loc (P : Program) (f : FuncId) (args : List V) (m : Mem) (r : V) (m' : Mem) : Prop :=
  callable P f = true ∧ ∀ (B : Nat) (I0 : Nat → Nat → Prop) (w0 : World) (M : Mp) (w : World) (vals : Array Value), Good B I0 w0 M m w → RepL M w args vals.toList →
    Calls P f vals w fun e w' => ∃ x M', e = .returned x ∧ Ext M M' w w' ∧ Good B I0 w0 M' m' w' ∧ Rep M' w' r x

def Mp.join (M M1 : Mp) : Mp := { β := M.β, γ := M.γ ++ M1.γ, I := M1.I, κ := M.κ }
section
variable {B : Nat} {I0 : Nat → Nat → Prop} {w0 w w' : World} {M M1 : Mp} {m : Mem} {tips : List (TypeId × Nat × Nat)}
/-- Behind a call on clean values. -/
theorem Good.join (h : Good B I0 w0 M m w) (h1 : Good w.heap.size M.I w M1 ⟨[], tips⟩ w') : Good B I0 w0 (M.join M1) { m with tips := m.tips ++ tips } w' ∧ Ext M (M.join M1) w w' := by
  have hb := h1.below
  have hgw := h.grow hb
  have hIlt : ∀ (b o : Nat), M1.I b o → M.I b o ∨ w.heap.size ≤ b := h1.i1
  have hE : Ext M (M.join M1) w w' := ⟨fun _ _ h => h, fun t G hG => ⟨G, by
    show (M.γ ++ M1.γ)[t]? = _
    rw [List.getElem?_append_left (List.getElem?_eq_some_iff.1 hG).1]; exact hG, fun _ h => h⟩, fun b o hi => ⟨h1.i0 b o hi, cell_of_heap (hb.block b (h.ilt b o hi))⟩, fun _ _ => rfl⟩
  have key : ∀ {t : Nat} {G : List (Nat × Nat × Nat)}, (M.γ ++ M1.γ)[t]? = some G → (M.γ[t]? = some G) ∨ (M.γ.length ≤ t ∧ M1.γ[t - M.γ.length]? = some G) := by
    intro t G ht
    rw [List.getElem?_append] at ht
    split at ht
    · exact .inl ht
    · exact .inr ⟨by omega, ht⟩
  have hE2 : Ext M (M.join M1) w' w' := ⟨fun _ _ h => h, hE.γ, fun b o hi => ⟨h1.i0 b o hi, rfl⟩, fun _ _ => rfl⟩
  refine ⟨?_, hE⟩
  exact {
    below := hgw.below
    sizeB := hgw.sizeB
    i0 := fun b o hi => h1.i0 b o (h.i0 b o hi)
    i1 := fun b o hi => (hIlt b o hi).elim (h.i1 b o) (fun hj => .inr (Nat.le_trans h.sizeB hj))
    ilt := h1.ilt
    lβ := h.lβ
    nd := h.nd
    iβ := fun b o hi i hb1 => (hIlt b o hi).elim (fun hj => h.iβ b o hj i hb1) (fun hj => by have := (h.βlt (List.mem_of_getElem? hb1)).1; omega)
    box := fun i g cs e1 e2 => by
      obtain ⟨hB, ob, hh, hr⟩ := hgw.box i g cs e1 e2
      exact ⟨hB, ob, hh, hr.mono hE2 (lt_of_some e1)⟩
    κlt := h.κlt
    lγ := by
      have := h1.lγ
      simp only [Mp.join, List.length_append, h.lγ]
      rw [this]
    row := fun t G e sz n e1 e2 => by
      simp only [Mp.join] at e1
      rcases key e1 with e3 | ⟨e3, e4⟩
      · have htl := (List.getElem?_eq_some_iff.1 e3).1
        rw [List.getElem?_append_left (by rw [← h.lγ]; exact htl)] at e2
        rcases hgw.row t G e sz n e3 e2 with h0 | ⟨g, c, xs, a1, a2, a3, a4⟩
        · exact .inl h0
        exact .inr ⟨g, c, xs, a1, a2, a3, fun o hi => (hIlt g o hi).elim (a4 o) (fun hj => by have := (h.gen t G _ e3 a1).2.1; simp only at this; omega)⟩
      · rw [List.getElem?_append_right (by rw [← h.lγ]; exact e3), ← h.lγ] at e2
        rcases h1.row _ G e sz n e4 e2 with h0 | ⟨g, c, xs, a1, a2, a3, a4⟩
        · exact .inl h0
        refine .inr ⟨g, c, xs, a1, a2, ?_, a4⟩
        refine ⟨a3.1, ?_⟩
        rcases a3.2 with a3 | ⟨g1, c1, cur, b1, b2, b3⟩
        · exact .inl a3
        · exact .inr ⟨g1, c1, cur, b1, Nat.le_trans h.sizeB b2, b3⟩
    gen := fun t G x e1 e2 => by
      simp only [Mp.join] at e1
      rcases key e1 with e3 | ⟨e3, e4⟩
      · exact hgw.gen t G x e3 e2
      · have := h1.gen _ G x e4 e2
        exact ⟨Nat.le_trans h.sizeB this.1, this.2.1, fun hm => by have := (h.βlt hm).1; omega⟩
    sep := fun t t' G G' x x' e1 e2 hx hx' heq => by
      simp only [Mp.join] at e1 e2
      rcases key e1 with a1 | ⟨a0, a1⟩ <;> rcases key e2 with b1 | ⟨b0, b1⟩
      · exact h.sep t t' G G' x x' a1 b1 hx hx' heq
      · have c1 := (h.gen t G x a1 hx).2.1
        have c2 := (h1.gen _ G' x' b1 hx').1
        omega
      · have c1 := (h.gen t' G' x' b1 hx').2.1
        have c2 := (h1.gen _ G x a1 hx).1
        omega
      · have := h1.sep _ _ G G' x x' a1 b1 hx hx' heq
        omega }
end
end Go.Av

namespace Go.Av
open Go.RowKit

def put (d : Option Nat) (v : V) (s : Nat → V) : Nat → V := match d with
  | some d => fun t => if t = d then v else s t
  | none => s
theorem put_some (d : Nat) (v : V) (s : Nat → V) (t : Nat) : put (some d) v s t = if t = d then v else s t := rfl
theorem put_none (v : V) (s : Nat → V) : put none v s = s := rfl

/-- A function of no Go body that answers at once, and changes nothing. -/
def ExtR (P : Program) (f : FuncId) (args : List V) (v : V) : Prop :=
  ∀ (M : Mp) (w : World) (vals : Array Value), RepL M w args vals.toList → ∃ x, (callFunc f vals).run P w = .ok (.value x) w ∧ Rep M w v x
/-- What a call of an iterator's 'yield' answers: by the loop's box. -/
abbrev YRel := Nat → List V → Mem → V → Mem → Prop
/-- No 'yield' is at hand. -/
def noY : YRel := fun _ _ _ _ _ => False
/-- What a function does with the memory that is there, where a 'yield' is at hand. -/
def fen (r : Option Nat) : Fence := { Fence.wide with round := r }
/-- A 'yield' keeps its word, from a world on. -/
def YOk (P : Program) (Y : YRel) (M0 : Mp) (wst : World) : Prop :=
  ∀ b args m v m', Y b args m v m' → ∀ (B : Nat) (I0 : Nat → Nat → Prop) (w0 : World) (M : Mp) (w : World) (vals : Array Value), Ext M0 M wst w → Good B I0 w0 M m w → RepL M w args vals.toList → ∀ g, M.β[b]? = some g → ∀ n,
    YieldAt (fen none) n P g vals w fun e w' => ∃ x M', e = .returned x ∧ Ext M M' w w' ∧ Good B I0 w0 M' m' w' ∧ Rep M' w' v x
theorem YOk.later {P : Program} {Y : YRel} {M0 M : Mp} {wst w : World} (h : YOk P Y M0 wst) (hE : Ext M0 M wst w) : YOk P Y M w :=
  fun b args m v m' hy B I0 w0 M1 w1 vals hE1 => h b args m v m' hy B I0 w0 M1 w1 vals (hE.trans hE1)
theorem YOk.no {P : Program} {M0 : Mp} {wst : World} : YOk P noY M0 wst := fun _ _ _ _ _ h => h.elim
def LocY (P : Program) (Y : YRel) (f : FuncId) (args : List V) (m : Mem) (r : V) (m' : Mem) : Prop :=
  callable P f = true ∧ ∀ (B : Nat) (I0 : Nat → Nat → Prop) (w0 : World) (M : Mp) (w : World) (vals : Array Value), YOk P Y M w → Good B I0 w0 M m w → RepL M w args vals.toList →
    Calls P f vals w fun e w' => ∃ x M', e = .returned x ∧ Ext M M' w w' ∧ Good B I0 w0 M' m' w' ∧ Rep M' w' r x
/-- What the one list says, the other one says less of. -/
def WkL (l l' : List V) : Prop := ∀ (M : Mp) (w : World) (m : List Value), RepL M w l m → RepL M w l' m
theorem WkL.top (l : List V) : WkL l (l.map V.top) := fun _ _ _ h => h.top
/-- What a call answers. -/
def CallR (P : Program) (Y : YRel) (f : FuncId) (args : List V) (m : Mem) (v : V) (m' : Mem) : Prop :=
  (∃ args' r tips, WkL args args' ∧ Pure P f args' r tips ∧ cleanL args' = true ∧ v = r.shift m.tips.length ∧ m' = { m with tips := m.tips ++ tips }) ∨ Loc P f args m v m' ∨ LocY P Y f args m v m' ∨ (ExtR P f args v ∧ m' = m)

/-- A call that leaves no trace. -/
def CallQ (P : Program) (f : FuncId) (args : List V) (v : V) : Prop := (∃ args', WkL args args' ∧ Pure P f args' v [] ∧ cleanL args' = true ∧ v.isClean = true) ∨ ExtR P f args v
/-- 'q': calls leave no trace. -/
def CallG (q : Bool) (P : Program) (Y : YRel) (f : FuncId) (args : List V) (m : Mem) (v : V) (m' : Mem) : Prop := if q = true then CallQ P f args v ∧ m' = m else CallR P Y f args m v m'

/-- No box is lost or changed. -/
def Mem.le (m m1 : Mem) : Prop := ∀ (b : Nat) (cs : List V), m.boxes[b]? = some cs → m1.boxes[b]? = some cs
theorem Mem.le_refl (m : Mem) : m.le m := fun _ _ h => h
theorem Mem.le_trans {a b c : Mem} (h : a.le b) (k : b.le c) : a.le c := fun x cs hx => k x cs (h x cs hx)
/-- The boxes of some slots are as they were. -/
def keepB (s : Nat → V) (m m' : Mem) : List Nat → Prop
  | [] => True
  | t :: r => (∀ b o, s t = .ptr b o → m'.boxes[b]? = m.boxes[b]?) ∧ keepB s m m' r
/-- Without a word on boxes. -/
def K.weak : K → K
  | .callf (.f f) xs _ | .callr (.f f) xs => .call f xs
  | .callf x xs _ | .callr x xs => .callv x xs
  | k => k
def O.weak (o : O) : O := { o with k := o.k.weak }
def kindR (q : Bool) (P : Program) (Y : YRel) (k : K) (s : Nat → V) (m : Mem) (v : V) (m' : Mem) : Prop :=
  match k with
  | .call f args => CallG q P Y f (args.map (·.ev s)) m v m'
  | .callq f args => CallG true P Y f (args.map (·.ev s)) m v m'
  | .callv x args => (∃ f cap, x.ev s = .func f cap ∧ CallG q P Y f (args.map (·.ev s) ++ cap) m v m') ∨ (q = false ∧ ∃ b, x.ev s = .yld b ∧ Y b (args.map (·.ev s)) m v m')
  | .callf x args fr => ((∃ f cap, x.ev s = .func f cap ∧ CallG q P Y f (args.map (·.ev s) ++ cap) m v m') ∨ (q = false ∧ ∃ b, x.ev s = .yld b ∧ Y b (args.map (·.ev s)) m v m')) ∧ keepB s m m' fr
  | .callr x args => q = false ∧ m' = m ∧ ∃ f cap, x.ev s = .func f cap ∧ ∀ m1, m.le m1 → Loc P f (args.map (·.ev s) ++ cap) m1 v m1
  | k => kindE k s m = some (v, m')

def stepR (q : Bool) (P : Program) (Y : YRel) (o : O) (s : Nat → V) (m : Mem) (v : V) (m' : Mem) : Prop :=
  match o.g with
  | none => kindR q P Y o.k s m v m'
  | some (d, want) => (s d = .val (.bool want) ∧ kindR q P Y o.k s m v m') ∨ ((s d = .val (.bool (!want)) ∨ s d = .tuple []) ∧ v = .tuple [] ∧ m' = m)

theorem clean_shift1 {k : Nat} {v : V} (h : v.isClean = true) : v.shift1 k = v := by
  cases v <;> first | rfl | simp [V.isClean] at h
theorem clean_shift {k : Nat} {v : V} (h : v.isClean = true) : v.shift k = v := by
  cases v with
  | tuple l =>
    have key : ∀ l : List V, cleanL l = true → l.map (V.shift1 k) = l := by
      intro l
      induction l with
      | nil => intro _; rfl
      | cons v l ih =>
        intro h
        simp only [cleanL, Bool.and_eq_true] at h
        rw [List.map_cons, clean_shift1 h.1, ih h.2]
    simp only [V.shift, key l (by simpa [V.isClean] using h)]
  | row t sz xs => simp [V.isClean] at h
  | _ => rfl
theorem CallG.toR {q : Bool} {P : Program} {Y : YRel} {f : FuncId} {args : List V} {m : Mem} {v : V} {m' : Mem} (h : CallG q P Y f args m v m') : CallR P Y f args m v m' := by
  cases q with
  | false => exact h
  | true =>
    obtain ⟨⟨args', h0, h1, h2, h3⟩ | h1, rfl⟩ := h
    · exact .inl ⟨args', v, [], h0, h1, h2, (clean_shift h3).symm, by simp⟩
    · exact .inr (.inr (.inr ⟨h1, rfl⟩))
theorem kindR.toR {q : Bool} {P : Program} {Y : YRel} {k : K} {s : Nat → V} {m : Mem} {v : V} {m' : Mem} (h : kindR q P Y k s m v m') : kindR false P Y k s m v m' := by
  cases k with
  | call f args => exact CallG.toR h
  | callv x args => exact h.imp (fun ⟨f, cap, h1, h2⟩ => ⟨f, cap, h1, CallG.toR h2⟩) (fun ⟨_, h⟩ => ⟨rfl, h⟩)
  | callf x args fr => exact ⟨h.1.imp (fun ⟨f, cap, h1, h2⟩ => ⟨f, cap, h1, CallG.toR h2⟩) (fun ⟨_, h⟩ => ⟨rfl, h⟩), h.2⟩
  | callr x args => exact ⟨rfl, h.2⟩
  | _ => exact h
theorem stepR.toR {q : Bool} {P : Program} {Y : YRel} {o : O} {s : Nat → V} {m : Mem} {v : V} {m' : Mem} (h : stepR q P Y o s m v m') : stepR false P Y o s m v m' := by
  unfold stepR at h ⊢
  split at h
  · exact h.toR
  · exact h.imp (fun ⟨h1, h2⟩ => ⟨h1, h2.toR⟩) id

theorem kindR.weak {q : Bool} {P : Program} {Y : YRel} {k : K} {s : Nat → V} {m : Mem} {v : V} {m' : Mem} (h : kindR q P Y k s m v m') : kindR q P Y k.weak s m v m' := by
  cases k with
  | callf x args fr =>
    cases x with
    | f n =>
      rcases h.1 with ⟨f, cap, h1, h2⟩ | ⟨_, b, h1, _⟩
      · simp only [X.ev, V.func.injEq] at h1
        obtain ⟨rfl, rfl⟩ := h1
        rw [List.append_nil] at h2
        exact h2
      · cases h1
    | _ => exact h.1
  | callr x args =>
    obtain ⟨rfl, rfl, f, cap, h1, h2⟩ := h
    cases x with
    | f n =>
      simp only [X.ev, V.func.injEq] at h1
      obtain ⟨rfl, rfl⟩ := h1
      have := h2 _ (Mem.le_refl _)
      rw [List.append_nil] at this
      exact .inr (.inl this)
    | _ => exact .inl ⟨f, cap, h1, .inr (.inl (h2 _ (Mem.le_refl _)))⟩
  | _ => exact h
theorem stepR.weak {q : Bool} {P : Program} {Y : YRel} {o : O} {s : Nat → V} {m : Mem} {v : V} {m' : Mem} (h : stepR q P Y o s m v m') : stepR q P Y o.weak s m v m' := by
  unfold stepR at h ⊢
  show match o.g with
    | none => _
    | some (d, want) => _
  split at h
  · rename_i e; exact h.weak
  · rename_i d want e; exact h.imp (fun ⟨h1, h2⟩ => ⟨h1, h2.weak⟩) id
/-- The guard's slot. -/
def guardO (ops : Array Oper) (n : Nat) (o : Oper) : Option (Option (Nat × Bool)) :=
  match o.guard with
  | none => some none
  | some (g, want) => match (ops[g]?).bind (·.dst) with
    | some d => if d < n then some (some (d, want)) else none
    | none => none
def dstOk (n : Nat) : Option Nat → Bool
  | none => true
  | some d => decide (d < n)
/-- Is a slot's value a place among a slice's elements? -/
def eslot (P : Program) (ops : Array Oper) : Nat → Nat → Bool
  | 0, _ => false
  | f + 1, t => match ops.find? (fun o => o.dst == some t) with
    | some o => match o.op with
      | .indexAddr T _ _ => (match P.underlying T with
        | some (.slice _) => true
        | _ => false)
      | .fieldAddr _ (.tmp t') _ => eslot P ops f t'
      | _ => false
    | none => false
def toLde (P : Program) (own : Nat → Bool) (ops : Array Oper) : K → K
  | .call f xs => if own 4194304 = true then .callq f xs else .call f xs
  | .ld (.t t) z => if eslot P ops 4 t = true then .lde (.t t) z else .ld (.t t) z
  | k => k
theorem toLde_eq {P : Program} {own : Nat → Bool} {ops : Array Oper} (k : K) : toLde P own ops k = k ∨ (∃ x z, k = .ld x z ∧ toLde P own ops k = .lde x z) ∨ ∃ f xs, k = .call f xs ∧ toLde P own ops k = .callq f xs := by
  unfold toLde
  split
  · split
    · exact .inr (.inr ⟨_, _, rfl, rfl⟩)
    · exact .inl rfl
  · split
    · exact .inr (.inl ⟨_, _, rfl, rfl⟩)
    · exact .inl rfl
  · exact .inl rfl
/-- The operations that may be done on a slice that is written. -/
def memOf : K → Option (Mo × List X)
  | .mov x => some (.frz, [x])
  | .ixs x i sz => some (.ixr sz, [x, i])
  | .len x => some (.lnr, [x])
  | .mks n c e sz bytes z _ => some (.mkb e sz bytes z, [n, c])
  | .app x y e sz bytes _ => some (.apb e sz bytes, [x, y])
  | .mkl _ sz [] _ => some (.eml sz, [])
  | _ => none
def compM (P : Program) (own : Nat → Bool) (ops : Array Oper) (ex : Bool) (k : K) : K :=
  if ex = true then (match memOf k with
    | some (mo, xs) => .mem mo xs
    | none => k) else toLde P own ops k
theorem compM_eq {P : Program} {own : Nat → Bool} {ops : Array Oper} {ex : Bool} (k : K) : compM P own ops ex k = k ∨ (∃ x z, k = .ld x z ∧ compM P own ops ex k = .lde x z) ∨ (∃ f xs, k = .call f xs ∧ compM P own ops ex k = .callq f xs) ∨ ∃ mo xs, memOf k = some (mo, xs) ∧ compM P own ops ex k = .mem mo xs := by
  unfold compM
  split
  · split
    · rename_i mo xs e; exact .inr (.inr (.inr ⟨mo, xs, e, rfl⟩))
    · exact .inl rfl
  · rcases toLde_eq (P := P) (own := own) (ops := ops) k with h | h | h
    · exact .inl h
    · exact .inr (.inl h)
    · exact .inr (.inr (.inl h))
/-- More operations. -/
def compE (P : Program) : Op → Option K
  | .nilCheck x => (compX x).map fun x => .mem .nck [x]
  | .convert src dst x => match compX x, P.underlying src, P.underlying dst with
    | some x', some _, some (.float k) => some (.mem (.cvf k) [x'])
    | _, _, _ => none
  | .call { callee := .builtin b, args := args, argTypes := _ } => match b, args.toList with
    | .complex, [x, y] => (match compX x, compX y with
      | some x', some y' => some (.mem .cpx [x', y'])
      | _, _ => none)
    | .real, [x] => (compX x).map fun x => .mem (.rei false) [x]
    | .imag, [x] => (compX x).map fun x => .mem (.rei true) [x]
    | _, _ => none
  | .insert T x k y => match P.underlying T, compX x, compX k, compX y with
    | some (.map kt _), some x', some k', some y' => (match P.underlying kt with
      | some (.int .i64) => some (.mup x' k' y')
      | _ => none)
    | _, _, _, _ => none
  | _ => none
def compOp (P : Program) (n : Nat) (own : Nat → Bool) (ops : Array Oper) (o : Oper) : Option O :=
  match guardO ops n o with
  | some g => if dstOk n o.dst = true then some ⟨o.dst, g, match compK P ((o.dst.map own).getD false) (exT own o.dst) o.type o.op with
      | some k => compM P own ops (exT own o.dst) k
      | none => (compE P o.op).getD .dead⟩ else none
  | none => none

section
variable {P : Program} {o : Oper} {a : Act} {w : World} {M : Mp} {m : Mem} {n : Nat} {s : Nat → V} {B : Nat} {I0 : Nat → Nat → Prop} {w0 : World}

theorem Slots.put {d : Option Nat} {v : V} {x : Value} (hs : Slots M w n s a) (hr : Rep M w v x) (hd : dstOk n d = true) : Slots M w n (Av.put d v s) (a.put d x) := by
  cases d with
  | none => exact hs
  | some d =>
    have hd' : d < a.tmps.size := by rw [hs.1]; simpa [dstOk] using hd
    refine ⟨by simp [Act.put, hs.1], fun t => ?_⟩
    by_cases e : t = d
    · subst e
      simpa [Act.put, Av.put, hd'] using hr
    · have := hs.2 t
      simpa [Act.put, Av.put, e, Array.getElem?_setIfInBounds, Ne.symm e] using this
theorem Slots.mono {M' : Mp} {w' : World} (hs : Slots M w n s a) (hE : Ext M M' w w') : Slots M' w' n s a := ⟨hs.1, fun t => Rep.mono hE _ _ (hs.2 t)⟩

/-- The block for the rounds' deferred calls: there are none. -/
def dfam : St → Obj := fun _ => .deferred (some [])
def mkD (g : Nat) : Deferred := { target := .collected g, args := #[] }
/-- The marks of the loops over functions that were run. -/
def Marks (M0 M : Mp) (a : Act) : Prop := ∃ ds : List Nat, a.defers = ds.map mkD ∧ ds.Nodup ∧ ∀ g ∈ ds, ∃ b, M0.β.length ≤ b ∧ M.β[b]? = some g ∧ M.κ b = some dfam
theorem Marks.next {M0 M M' : Mp} {w w' : World} {a : Act} {d : Option Nat} {x : Value} (h : Marks M0 M a) (hE : Ext M M' w w') : Marks M0 M' (a.put d x) := by
  obtain ⟨ds, h1, h2, h3⟩ := h
  refine ⟨ds, by cases d <;> exact h1, h2, fun g hg => ?_⟩
  obtain ⟨b, k1, k2, k3⟩ := h3 g hg
  exact ⟨b, k1, hE.β b g k2, by rw [hE.κ b (lt_of_some k2)]; exact k3⟩
/-- The state at a place of the code. -/
def AT (B : Nat) (I0 : Nat → Nat → Prop) (w0 : World) (M0 : Mp) (wst : World) (n : Nat) (s : Nat → V) (m : Mem) (a : Act) (w : World) : Prop :=
  ∃ M, Ext M0 M wst w ∧ Good B I0 w0 M m w ∧ Slots M w n s a ∧ Marks M0 M a

theorem rep_args {M : Mp} {w : World} {n : Nat} {s : Nat → V} {a : Act} (hs : Slots M w n s a) : ∀ {l : List Operand} {xs : List X}, compXs l = some xs → RepL M w (xs.map (·.ev s)) (l.map a.eval) := by
  intro l
  induction l with
  | nil => intro xs h; simp [compXs] at h; subst h; rfl
  | cons x l ih =>
    intro xs h
    simp only [compXs, List.mapM_cons, Option.pure_def, Option.bind_eq_bind, Option.bind_eq_some_iff] at h
    obtain ⟨y, hy, r, hr, e⟩ := h
    cases e
    exact ⟨_, _, rfl, comp_ev hy hs, ih hr⟩

/-- What a call's frame needs. -/
def CallOk (P : Program) (M : Mp) (w : World) (B : Nat) (I0 : Nat → Nat → Prop) (w0 : World) (f : FuncId) (vals : Array Value) (v : V) (m' : Mem) : Prop :=
  Calls P f vals w fun e w' => ∃ x M', e = .returned x ∧ Ext M M' w w' ∧ Good B I0 w0 M' m' w' ∧ Rep M' w' v x

theorem CallR.ok {Y : YRel} {f : FuncId} {args : List V} {v : V} {m' : Mem} {vals : Array Value} (h : CallR P Y f args m v m') (hY : YOk P Y M w) (hg : Good B I0 w0 M m w) (hr : RepL M w args vals.toList) :
    (callable P f = true ∧ CallOk P M w B I0 w0 f vals v m') ∨ (m' = m ∧ ∃ x, (callFunc f vals).run P w = .ok (.value x) w ∧ Rep M w v x) := by
  rcases h with ⟨args', r, tips, hW, ⟨h1, h2, h3⟩, hc, rfl, rfl⟩ | ⟨h1, h2⟩ | ⟨h1, h2⟩ | ⟨h1, h2⟩
  · refine .inl ⟨h1, ?_⟩
    have hr' : RepL ⟨[], [], M.I, fun _ => none⟩ w args' vals.toList := RepL.clean (M := M) (M' := ⟨[], [], M.I, fun _ => none⟩) (fun _ _ h => h) _ _ hc (hW _ _ _ hr)
    refine (h3 M.I w vals hg.ilt hr').mono fun e w' ⟨x, M1, he, hg1, hx⟩ => ?_
    obtain ⟨j1, j2⟩ := hg.join hg1
    refine ⟨x, M.join M1, he, j2, j1, ?_⟩
    refine Rep.shift (M := M1) (M' := M.join M1) (k := m.tips.length) (fun b q hi => hi) (fun t G hG => ?_) h2 hx
    show (M.γ ++ M1.γ)[t + m.tips.length]? = _
    rw [← hg.lγ, List.getElem?_append_right (by omega), Nat.add_sub_cancel]
    exact hG
  · exact .inl ⟨h1, h2 B I0 w0 M w vals hg hr⟩
  · exact .inl ⟨h1, h2 B I0 w0 M w vals hY hg hr⟩
  · exact .inr ⟨h2, h1 M w vals hr⟩

theorem run_callFunc {f : FuncId} {vals : Array Value} (h : callable P f = true) : (callFunc f vals).run P w = .ok (.enter f vals) w := by
  unfold callable at h
  split at h
  · rename_i fn hf
    simp only [Bool.and_eq_true, Bool.not_eq_true'] at h
    obtain ⟨c, hc⟩ := Option.isSome_iff_exists.1 h.1
    have hn : fn.name ≠ "runtime.NumGoroutine" := by simpa using h.2
    simp [callFunc, hf, hn, hc]
  · cases h

theorem ext_of {fo : Operand} {f : FuncId} {args : Array Operand} {tys : Array TypeId} {cap : Array Value} {x : Value} (ho : o.op = .call { callee := .value fo, args := args, argTypes := tys })
    (hf : a.eval fo = .func (.func f) #[] cap) (hr : (callFunc f (args.map a.eval ++ cap)).run P w = .ok (.value x) w) : (execOp a.eval o).run P w = .ok (.value x) w := by
  unfold execOp
  rw [ho]
  simp only [resolve, hf, Deferred.ofValue]
  simp [invoke, hr]
theorem enter_of {fo : Operand} {f : FuncId} {args : Array Operand} {tys : Array TypeId} {cap : Array Value} (ho : o.op = .call { callee := .value fo, args := args, argTypes := tys })
    (hf : a.eval fo = .func (.func f) #[] cap) (hcl : callable P f = true) : (execOp a.eval o).run P w = .ok (.enter f (args.map a.eval ++ cap)) w := by
  unfold execOp
  rw [ho]
  simp only [resolve, hf, Deferred.ofValue]
  simp [invoke, run_callFunc hcl]
end
end Go.Av

namespace Go.Av
open Go.RowKit

def Mp.withκ (M : Mp) (κ' : Nat → Option (St → Obj)) : Mp := { M with κ := κ' }
mutual
theorem Rep.kap {M : Mp} {w : World} {κ' : Nat → Option (St → Obj)} : ∀ (v : V) (x : Value), Rep M w v x → Rep (M.withκ κ') w v x
  | .val _, _, h => h
  | .agg l, x, h => by
    obtain ⟨vs, rfl, h⟩ := h
    exact ⟨vs, rfl, RepL.kap l _ h⟩
  | .lit sz xs, x, h => by
    exact h.imp id fun ⟨ad, c, h0, h1, h2, h3, h4⟩ => ⟨ad, c, h0, h1, h2, h3, RepX.kap xs _ _ h4⟩
  | .full sz xs, x, h => by
    exact h.imp id fun ⟨ad, h0, h2, h3, h4⟩ => ⟨ad, h0, h2, h3, RepX.kap xs _ _ h4⟩
  | .emp _, _, h => h
  | .any, _, _ => trivial
  | .row t sz xs, x, h => by
    obtain ⟨G, h4, h⟩ := h
    exact ⟨G, h4, h.imp id fun ⟨g, c, h0, h1, h2, h3, h5⟩ => ⟨g, c, h0, h1, h2, RepX.kap xs _ _ h3, h5⟩⟩
  | .ptr b off, x, h => h
  | .yld b, x, h => h
  | .ref k b, x, h => h
  | .eptr cs, x, h => by
    obtain ⟨ad, rfl, h1, h2⟩ := h
    exact ⟨ad, rfl, h1, RepC.kap cs _ _ h2⟩
  | .func f cap, x, h => by
    obtain ⟨vs, rfl, h⟩ := h
    exact ⟨vs, rfl, RepL.kap cap _ h⟩
  | .iface t v, x, h => by
    obtain ⟨y, rfl, h⟩ := h
    exact ⟨y, rfl, Rep.kap v y h⟩
  | .tuple l, x, h => by
    obtain ⟨vs, rfl, h⟩ := h
    exact ⟨vs, rfl, RepL.kap l _ h⟩
  | .alts l, x, h => ⟨h.1, RepA.clean (M := M) (M' := M.withκ κ') (fun _ _ h => h) l x h.1 h.2⟩
theorem RepL.kap {M : Mp} {w : World} {κ' : Nat → Option (St → Obj)} : ∀ (l : List V) (m : List Value), RepL M w l m → RepL (M.withκ κ') w l m
  | [], _, h => h
  | v :: l, m, h => by
    obtain ⟨x, r, rfl, h1, h2⟩ := h
    exact ⟨x, r, rfl, Rep.kap v x h1, RepL.kap l r h2⟩
theorem RepC.kap {M : Mp} {w : World} {κ' : Nat → Option (St → Obj)} : ∀ (l : List V) (b o : Nat), RepC M w l b o → RepC (M.withκ κ') w l b o
  | [], _, _, _ => trivial
  | v :: l, b, o, h => by
    obtain ⟨⟨x, h1, h2, h3, h4⟩, h5⟩ := h
    exact ⟨⟨x, h1, h2, h3, Rep.kap v x h4⟩, RepC.kap l b (o + 1) h5⟩
theorem RepX.kap {M : Mp} {w : World} {κ' : Nat → Option (St → Obj)} : ∀ (l : List (List V)) (b o : Nat), RepX M w l b o → RepX (M.withκ κ') w l b o
  | [], _, _, _ => trivial
  | e :: r, b, o, h => ⟨RepC.kap e b o h.1, RepX.kap r b (o + e.length) h.2⟩
end

section
variable {B : Nat} {I0 : Nat → Nat → Prop} {w0 w w' wst : World} {M M0 : Mp} {m : Mem}

theorem BoxRep.kap {κ' : Nat → Option (St → Obj)} {i : Nat} {cs : List V} {ob : Obj} (hκ : κ' i = M.κ i) (h : BoxRep M i w cs ob) : BoxRep (M.withκ κ') i w cs ob := by
  unfold BoxRep
  rw [show (M.withκ κ').κ i = M.κ i from hκ]
  exact h.imp (fun ⟨h0, vs, T, h1, hl, h2, h3⟩ => ⟨h0, vs, T, h1, hl, RepL.kap _ _ h2, h3⟩) (Or.imp id (Or.imp id (Or.imp (fun ⟨h0, es, c, h1, h9, h2⟩ => ⟨h0, es, c, h1, h9, RepL.kap _ _ h2⟩) id)))

/-- The families of other boxes do not matter. -/
theorem Good.kap (h : Good B I0 w0 M m w) {κ' : Nat → Option (St → Obj)} (hκ : ∀ i, i < M.β.length → κ' i = M.κ i) (hl : ∀ i fam, κ' i = some fam → i < M.β.length) : Good B I0 w0 (M.withκ κ') m w where
  below := h.below
  sizeB := h.sizeB
  i0 := h.i0
  i1 := h.i1
  ilt := h.ilt
  lβ := h.lβ
  nd := h.nd
  iβ := h.iβ
  box i g cs h1 h2 := by
    obtain ⟨hB, ob, hh, hr⟩ := h.box i g cs h1 h2
    exact ⟨hB, ob, hh, hr.kap (hκ i (lt_of_some h1))⟩
  κlt := hl
  lγ := h.lγ
  row := h.row
  gen := h.gen
  sep := h.sep

/-- An object's box: another state, or another family. -/
theorem Good.putObj (h : Good B I0 w0 M m w) {i g : Nat} (hi : M.β[i]? = some g) (hnd : m.boxes[i]? ≠ some deadC) {fam : St → Obj} (st : St) :
    Good B I0 w0 (M.withκ fun j => if j = i then some fam else M.κ j) { m with boxes := m.boxes.set i [st.v] } (putO w g (fam st)) ∧
    (∀ o, M.I g o → False) ∧ (∀ k, k ≠ g → (putO w g (fam st)).heap[k]? = w.heap[k]?) := by
  have hgm : g ∈ M.β := List.mem_of_getElem? hi
  have hlt : i < m.boxes.length := by rw [← h.lβ]; exact lt_of_some hi
  have hE : ∀ (b o : Nat), M.I b o → (putO w g (fam st)).cell? ⟨b, o, none⟩ = w.cell? ⟨b, o, none⟩ := fun b o hI => cell_of_heap (putO_other w g b _ (fun e => hnd (h.iβ b o hI i (by rw [e]; exact hi))))
  have hE0 : Ext M M w (putO w g (fam st)) := ⟨fun _ _ h => h, fun _ G h => ⟨G, h, fun _ h => h⟩, fun b o hI => ⟨hI, hE b o hI⟩, fun _ _ => rfl⟩
  have hsz : (putO w g (fam st)).heap.size = w.heap.size := by simp [putO]
  have hbl : Below B w (putO w g (fam st)) := ⟨rfl, rfl, rfl, by rw [hsz]; exact Nat.le_refl _, fun k hk => putO_other w g k _ (by have := (h.βlt hgm).2; omega)⟩
  refine ⟨?_, fun o hI => hnd (h.iβ g o hI i hi), fun k hk => putO_other w g k _ hk⟩
  exact {
    below := h.below.trans hbl
    sizeB := by rw [hsz]; exact h.sizeB
    i0 := h.i0
    i1 := h.i1
    ilt := fun b o hI => by rw [hsz]; exact h.ilt b o hI
    lβ := by simp [Mp.withκ, h.lβ]
    nd := h.nd
    iβ := fun b o hI j hb => by
      by_cases hij : i = j
      · subst hij; exact absurd (h.iβ b o hI i hb) hnd
      · exact (List.getElem?_set_ne hij).trans (h.iβ b o hI j hb)
    box := fun j k ds h1 h2 => by
      have h1' : M.β[j]? = some k := h1
      by_cases hij : i = j
      · subst hij
        rw [hi] at h1'
        obtain rfl := Option.some.inj h1'
        simp only [List.getElem?_set_self hlt] at h2
        obtain rfl := Option.some.inj h2
        exact ⟨(h.βlt hgm).2, fam st, putO_heap w _ _ (h.βlt hgm).1, .inr (.inr (.inl ⟨fam, st, if_pos rfl, rfl, rfl⟩))⟩
      · simp only [List.getElem?_set_ne hij] at h2
        obtain ⟨hB, ob', hh', hr'⟩ := h.box j k ds h1' h2
        have hne : k ≠ g := fun e => hij (h.nd i j g hi (e ▸ h1'))
        exact ⟨hB, ob', by rw [putO_other w g k _ hne]; exact hh', (hr'.mono hE0 (lt_of_some h1')).kap (if_neg fun e => hij e.symm)⟩
    κlt := fun j fam' hf => by
      by_cases e : j = i
      · subst e; exact lt_of_some hi
      · exact h.κlt j fam' (by simpa [Mp.withκ, e] using hf)
    lγ := h.lγ
    row := fun t G e sz n h1 h2 => by
      rcases h.row t G e sz n h1 h2 with h0 | ⟨g', c, xs, h3, h4, h5, h6⟩
      · exact .inl h0
      have hne : g' ≠ g := fun e => (h.gen t G _ h1 h3).2.2 (e ▸ hgm)
      refine .inr ⟨g', c, xs, h3, h4, h5.kept (row := some g) ⟨rfl, rfl, rfl, by rw [hsz]; exact Nat.le_refl _, fun k _ hk => putO_other w g k _ (fun e => hk (by rw [e]))⟩ (.inr (by simpa [Value.ownBlock] using hne)), h6⟩
    gen := fun t G x h1 h2 => ⟨(h.gen t G x h1 h2).1, by rw [hsz]; exact (h.gen t G x h1 h2).2.1, (h.gen t G x h1 h2).2.2⟩
    sep := h.sep }

/-- A new object. -/
theorem Good.newObj (h : Good B I0 w0 M m w) (fam : St → Obj) (st : St) :
    Good B I0 w0 { M with β := M.β ++ [w.heap.size], κ := fun j => if j = M.β.length then some fam else M.κ j } { m with boxes := m.boxes ++ [[st.v]] } (w.alloc (fam st)) ∧
    Ext M { M with β := M.β ++ [w.heap.size], κ := fun j => if j = M.β.length then some fam else M.κ j } w (w.alloc (fam st)) := by
  have hb := below_alloc_self w (fam st)
  have hg1 := h.grow hb
  have hE := h.ext hb
  have hf := h.fresh (Nat.le_refl _)
  have hE2 : Ext M { M with β := M.β ++ [w.heap.size], κ := fun j => if j = M.β.length then some fam else M.κ j } w (w.alloc (fam st)) :=
    ⟨(Mp.addB_ext M w.heap.size w).β, hE.γ, hE.I, fun i hi => if_neg (by omega)⟩
  refine ⟨?_, hE2⟩
  exact {
    below := hg1.below
    sizeB := hg1.sizeB
    i0 := hg1.i0
    i1 := hg1.i1
    ilt := hg1.ilt
    lβ := by simp [h.lβ]
    nd := fun i j g hi hj => by
      have key : ∀ {i : Nat}, (M.β ++ [w.heap.size])[i]? = some g → (M.β[i]? = some g) ∨ (i = M.β.length ∧ g = w.heap.size) := by
        intro i hi
        rw [List.getElem?_append] at hi
        split at hi
        · exact .inl hi
        · cases hx : i - M.β.length with
          | zero => rw [hx] at hi; simp at hi; exact .inr ⟨by omega, hi.symm⟩
          | succ q => rw [hx] at hi; simp at hi
      rcases key hi with a | ⟨a, a'⟩ <;> rcases key hj with b | ⟨b, b'⟩
      · exact h.nd i j g a b
      · exact absurd (List.mem_of_getElem? a) (b' ▸ hf.1)
      · exact absurd (List.mem_of_getElem? b) (a' ▸ hf.1)
      · omega
    iβ := fun b o hi i hb => by
      have hb' : (M.β ++ [w.heap.size])[i]? = some b := hb
      show (m.boxes ++ [[st.v]])[i]? = _
      by_cases hlt : i < M.β.length
      · rw [List.getElem?_append_left hlt] at hb'
        rw [List.getElem?_append_left (by rw [← h.lβ]; exact hlt)]
        exact h.iβ b o hi i hb'
      · rw [List.getElem?_append_right (by omega)] at hb'
        cases hx : i - M.β.length with
        | succ q => rw [hx] at hb'; simp at hb'
        | zero =>
          rw [hx] at hb'
          simp at hb'
          subst hb'
          exact absurd hi (hf.2.1 o)
    box := fun i k ds h1 h2 => by
      by_cases hlt : i < M.β.length
      · have h1' : (M.β ++ [w.heap.size])[i]? = some k := h1
        have h2' : (m.boxes ++ [[st.v]])[i]? = some ds := h2
        rw [List.getElem?_append_left hlt] at h1'
        rw [List.getElem?_append_left (by rw [← h.lβ]; exact hlt)] at h2'
        obtain ⟨hB, ob, hh, hr⟩ := h.box i k ds h1' h2'
        refine ⟨hB, ob, ?_, hr.mono hE2 hlt⟩
        rw [hb.block k (Array.getElem?_eq_some_iff.1 hh).1]
        exact hh
      · have hle : M.β.length ≤ i := by omega
        have h1' : (M.β ++ [w.heap.size])[i]? = some k := h1
        have h2' : (m.boxes ++ [[st.v]])[i]? = some ds := h2
        rw [List.getElem?_append_right hle] at h1'
        rw [List.getElem?_append_right (by rw [← h.lβ]; exact hle), ← h.lβ] at h2'
        cases hx : i - M.β.length with
        | succ q => rw [hx] at h1'; simp at h1'
        | zero =>
          rw [hx] at h1' h2'
          simp at h1' h2'
          subst h1'; subst h2'
          obtain rfl : i = M.β.length := by omega
          exact ⟨h.sizeB, fam st, heap_alloc_new w (fam st), .inr (.inr (.inl ⟨fam, st, if_pos rfl, rfl, rfl⟩))⟩
    κlt := fun j fam' hfj => by
      have hfj' : (if j = M.β.length then some fam else M.κ j) = some fam' := hfj
      simp only [List.length_append, List.length_cons, List.length_nil]
      split at hfj'
      · omega
      · have := h.κlt j fam' hfj'; omega
    lγ := h.lγ
    row := hg1.row
    gen := fun t G x h1 h2 => by
      obtain ⟨k1, k2, k3⟩ := hg1.gen t G x h1 h2
      refine ⟨k1, k2, ?_⟩
      simp only [List.mem_append, List.mem_singleton, not_or]
      exact ⟨k3, hf.2.2 t G x h1 h2⟩
    sep := h.sep }

/-- What a box of an object says of the heap. -/
theorem Good.obj (h : Good B I0 w0 M m w) {i g : Nat} {fam : St → Obj} (hi : M.β[i]? = some g) (hf : M.κ i = some fam) : ∃ st, w.heap[g]? = some (fam st) ∧ m.boxes[i]? = some [st.v] := by
  have hlt : i < m.boxes.length := by rw [← h.lβ]; exact lt_of_some hi
  obtain ⟨_, ob, hh, hr⟩ := h.box i g _ hi (List.getElem?_eq_getElem hlt)
  rcases hr with ⟨k, _⟩ | ⟨k, _⟩ | ⟨fam', st, k, rfl, hcs⟩ | ⟨k, _⟩ | ⟨k, _⟩
  · rw [hf] at k; cases k
  · rw [hf] at k; cases k
  · rw [hf] at k
    cases k
    exact ⟨st, hh, by rw [List.getElem?_eq_getElem hlt, hcs]⟩
  · rw [hf] at k; cases k
  · rw [hf] at k; cases k
end
end Go.Av

namespace Go.Av
open Go.RowKit

theorem chunkV_length (sz : Nat) : ∀ (n : Nat) (l : List V), (chunkV sz n l).length = n
  | 0, _ => rfl
  | n + 1, l => by simp [chunkV, chunkV_length sz n]
theorem chunkV_flat (sz : Nat) : ∀ (n : Nat) (l : List V), n * sz ≤ l.length → (chunkV sz n l).flatten = l.take (n * sz) ∧ ∀ e ∈ chunkV sz n l, e.length = sz
  | 0, l, _ => by simp [chunkV]
  | n + 1, l, h => by
    rw [Nat.add_mul, Nat.one_mul] at h
    obtain ⟨h1, h2⟩ := chunkV_flat sz n (l.drop sz) (by simp; omega)
    refine ⟨?_, ?_⟩
    · rw [chunkV, List.flatten_cons, h1, Nat.add_mul, Nat.one_mul, Nat.add_comm (n * sz) sz, List.take_add]
    · intro e he
      rw [chunkV] at he
      rcases List.mem_cons.1 he with rfl | he
      · simp; omega
      · exact h2 e he
/-- In pieces as they were. -/
theorem chunkV_of {sz : Nat} : ∀ (xs : List (List V)), (∀ e ∈ xs, e.length = sz) → ∀ r, chunkV sz xs.length (xs.flatten ++ r) = xs
  | [], _, _ => rfl
  | e :: xs, h, r => by
    have he := h e (List.mem_cons_self ..)
    rw [List.length_cons, chunkV, List.flatten_cons, List.append_assoc, List.take_left' he, List.drop_left' he, chunkV_of xs (fun e he => h e (List.mem_cons_of_mem _ he)) r]

section
variable {B : Nat} {I0 : Nat → Nat → Prop} {w0 w : World} {M : Mp} {m : Mem}
/-- A box's cells stay as they are, from now on. -/
theorem Good.freeze (h : Good B I0 w0 M m w) {i g : Nat} {cs : List V} (hi : M.β[i]? = some g) (hb : m.boxes[i]? = some cs) (hno : isObj cs = false) :
    Good B I0 w0 (M.plus fun b o => b = g ∧ o < cs.length) { m with boxes := m.boxes.set i deadC } w ∧ RepC (M.plus fun b o => b = g ∧ o < cs.length) w cs g 0 := by
  obtain ⟨hB, ob, hh, hbr⟩ := h.box i g cs hi hb
  have hκ := hbr.κ hno
  obtain ⟨vs, T, rfl, hle, hl, ho⟩ := hbr.cells hno
  have hgm : g ∈ M.β := List.mem_of_getElem? hi
  have hlt : i < m.boxes.length := lt_of_some hb
  have hE := Mp.plus_ext M (fun b o => b = g ∧ o < cs.length) w
  have hnd : m.boxes[i]? ≠ some deadC := fun e => by rw [hb] at e; cases e; cases hno
  refine ⟨?_, ?_⟩
  · exact {
      below := h.below
      sizeB := h.sizeB
      i0 := fun b o hI => .inl (h.i0 b o hI)
      i1 := fun b o hI => hI.elim (h.i1 b o) (fun hj => .inr (hj.1 ▸ hB))
      ilt := fun b o hI => hI.elim (h.ilt b o) (fun hj => hj.1 ▸ (h.βlt hgm).1)
      lβ := by simpa [Mp.plus] using h.lβ
      nd := h.nd
      iβ := fun b o hI j hj => by
        have hj' : M.β[j]? = some b := hj
        by_cases hij : i = j
        · subst hij; exact List.getElem?_set_self hlt
        · rw [List.getElem?_set_ne hij]
          rcases hI with hI | ⟨e, _⟩
          · exact h.iβ b o hI j hj'
          · exact absurd (h.nd i j g hi (e ▸ hj')) hij
      box := fun j k ds h1 h2 => by
        have h1' : M.β[j]? = some k := h1
        by_cases hij : i = j
        · subst hij
          rw [hi] at h1'
          cases h1'
          rw [List.getElem?_set_self hlt] at h2
          cases h2
          exact ⟨hB, _, hh, .inr (.inr (.inr (.inr ⟨hκ, rfl⟩)))⟩
        · rw [List.getElem?_set_ne hij] at h2
          obtain ⟨hB', ob', hh', hr'⟩ := h.box j k ds h1' h2
          exact ⟨hB', ob', hh', hr'.mono hE (lt_of_some h1')⟩
      κlt := h.κlt
      lγ := h.lγ
      row := fun t G e sz n h1 h2 => by
        rcases h.row t G e sz n h1 h2 with h0 | ⟨g', c, xs, h3, h4, h5, h6⟩
        · exact .inl h0
        · refine .inr ⟨g', c, xs, h3, h4, h5, fun o hI => hI.elim (h6 o) (fun hj => absurd (hj.1 ▸ hgm) (h.gen t G _ h1 h3).2.2)⟩
      gen := h.gen
      sep := h.sep }
  · refine RepC.of_get fun j v hj => ?_
    obtain ⟨x, hx, hr⟩ := hl.get hj
    have hjl := lt_of_some hj
    refine ⟨x, .inr ⟨rfl, by simpa using hjl⟩, ?_, ho x (List.mem_of_getElem? hx), Rep.mono hE _ _ hr⟩
    rw [cell_of_row w g _ vs T (0, 0) hh]
    rw [List.getElem?_take, if_pos hjl] at hx
    simpa using hx
end

-- From the compact form back to the operation.
theorem nilT_eq {P : Program} {ty : TypeId} {own : Bool} {k : K} (h : nilT P ty own = some k) : ∃ e sz, k = .nil e sz own := by
  unfold nilT at h
  split at h
  · split at h
    · exact ⟨_, _, (Option.some.inj h).symm⟩
    · cases h
  · cases h
section
variable {P : Program} {own ex : Bool} {ty : TypeId} {op : Op}
theorem inv_mov {x : X} (h : compK P own ex ty op = some (.mov x)) : ∃ x0, (op = .move x0 ∨ op = .assign x0) ∧ compX x0 = some x := by
  unfold compK at h
  split at h
  all_goals first
    | (simp only [Option.map_eq_some_iff] at h; obtain ⟨y, hy, e⟩ := h; cases e; done)
    | (split at h
       · rename_i e
         split at e
         · cases h
           obtain ⟨_, _, h'⟩ := nilT_eq e
           cases h'
         · cases e
       · simp only [Option.map_eq_some_iff] at h
         obtain ⟨y, hy, e⟩ := h
         cases e
         first
           | exact ⟨_, .inl rfl, hy⟩
           | exact ⟨_, .inr rfl, hy⟩)
    | (exfalso; revert h; repeat' split
       all_goals simp)
theorem inv_ixs {x y : X} {sz : Nat} (h : compK P own ex ty op = some (.ixs x y sz)) : ∃ T e x0 y0 i, op = .indexAddr T x0 y0 ∧ P.underlying T = some (.slice e) ∧ P.info? e = some i ∧ compX x0 = some x ∧ compX y0 = some y ∧ sz = i.size := by
  unfold compK at h
  split at h
  all_goals first
    | (simp only [Option.map_eq_some_iff] at h; obtain ⟨y, hy, e⟩ := h; cases e; done)
    | (split at h
       · rename_i e
         split at e
         · cases h
           obtain ⟨_, _, h'⟩ := nilT_eq e
           cases h'
         · cases e
       · simp only [Option.map_eq_some_iff] at h
         obtain ⟨y, hy, e⟩ := h
         cases e
         done)
    | (split at h
       · simp only [Option.map_eq_some_iff] at h
         obtain ⟨i, hi, e⟩ := h
         cases e
         exact ⟨_, _, _, _, i, rfl, by assumption, hi, by assumption, by assumption, rfl⟩
       · simp only [Option.map_eq_some_iff] at h
         obtain ⟨i, hi, e⟩ := h
         cases e
       · cases h)
    | (exfalso; revert h; repeat' split
       all_goals simp)
theorem inv_len {x : X} (h : compK P own ex ty op = some (.len x)) : ∃ T e x0, op = .call { callee := .builtin .len, args := #[x0], argTypes := #[T] } ∧ P.underlying T = some (.slice e) ∧ compX x0 = some x := by
  unfold compK at h
  split at h
  case h_20 b args tys =>
    split at h
    case h_1 x0 T e1 e2 =>
      split at h
      · cases h
        have h1 : args = #[x0] := by simpa using congrArg List.toArray e1
        have h2 : tys = #[T] := by simpa using congrArg List.toArray e2
        subst h1 h2
        exact ⟨T, _, x0, rfl, by assumption, by assumption⟩
      · cases h
      · cases h
    all_goals (exfalso; revert h; repeat' split
               all_goals simp)
  all_goals first
    | (simp only [Option.map_eq_some_iff] at h; obtain ⟨y, hy, e⟩ := h; cases e; done)
    | (split at h
       · rename_i e
         split at e
         · cases h
           obtain ⟨_, _, h'⟩ := nilT_eq e
           cases h'
         · cases e
       · simp only [Option.map_eq_some_iff] at h
         obtain ⟨y, hy, e⟩ := h
         cases e
         done)
    | (exfalso; revert h; repeat' split
       all_goals simp)
theorem inv_app {x y : X} {e sz bytes : Nat} {ow : Bool} (h : compK P own ex ty op = some (.app x y e sz bytes ow)) : ∃ T x0 y0 i z0, op = .call { callee := .builtin .append, args := #[x0, y0], argTypes := #[T, T] } ∧ P.underlying T = some (.slice e) ∧ P.info? e = some i ∧ i.zero = some z0 ∧
    z0.cells.size = i.size ∧ 0 < i.bytes ∧ compX x0 = some x ∧ compX y0 = some y ∧ sz = i.size ∧ bytes = i.bytes := by
  unfold compK at h
  split at h
  case h_20 b args tys =>
    split at h
    case h_2 x0 y0 T T' e1 e2 =>
      split at h
      case h_2 => cases h
      rename_i h1 h2 h3
      split at h
      case h_2 => cases h
      rename_i i hi
      split at h
      case h_2 => cases h
      rename_i z hz
      split at h
      case isFalse => cases h
      rename_i hc
      cases h
      obtain ⟨rfl, h4, h5⟩ := hc
      have h1' : args = #[x0, y0] := by simpa using congrArg List.toArray e1
      have h2' : tys = #[T, T] := by simpa using congrArg List.toArray e2
      subst h1' h2'
      exact ⟨T, x0, y0, i, z, rfl, h3, hi, hz, h4, h5, h1, h2, rfl, rfl⟩
    all_goals (exfalso; revert h; repeat' split
               all_goals simp)
  all_goals first
    | (simp only [Option.map_eq_some_iff] at h; obtain ⟨y, hy, e⟩ := h; cases e; done)
    | (split at h
       · rename_i e
         split at e
         · cases h
           obtain ⟨_, _, h'⟩ := nilT_eq e
           cases h'
         · cases e
       · simp only [Option.map_eq_some_iff] at h
         obtain ⟨y, hy, e⟩ := h
         cases e
         done)
    | (exfalso; revert h; repeat' split
       all_goals simp)
theorem inv_mks {x y : X} {e sz bytes : Nat} {z : List V} {ow : Bool} (h : compK P own ex ty op = some (.mks x y e sz bytes z ow)) : ∃ T x0 y0 i z0 ts, op = .makeSlice T x0 y0 ∧ P.underlying T = some (.slice e) ∧ P.info? e = some i ∧ i.zero = some z0 ∧
    z0.cells.size = i.size ∧ 0 < i.size ∧ 0 < i.bytes ∧ z0.cells.toList.all plain = true ∧ compX x0 = some x ∧ compX y0 = some y ∧ sz = i.size ∧ bytes = i.bytes ∧ z = mkZ z0.cells.toList ts := by
  unfold compK at h
  split at h
  case h_18 T x0 y0 =>
    split at h
    case h_2 => cases h
    rename_i h1 h2 h3
    split at h
    case h_2 => cases h
    rename_i i hi
    split at h
    case h_2 => cases h
    rename_i z0 hz
    split at h
    case isFalse => cases h
    rename_i hc
    cases h
    exact ⟨T, x0, y0, i, z0, _, rfl, h3, hi, hz, hc.1, hc.2.1, hc.2.2.1, hc.2.2.2, h1, h2, rfl, rfl, rfl⟩
  all_goals first
    | (simp only [Option.map_eq_some_iff] at h; obtain ⟨y, hy, e⟩ := h; cases e; done)
    | (split at h
       · rename_i e
         split at e
         · cases h
           obtain ⟨_, _, h'⟩ := nilT_eq e
           cases h'
         · cases e
       · simp only [Option.map_eq_some_iff] at h
         obtain ⟨y, hy, e⟩ := h
         cases e
         done)
    | (exfalso; revert h; repeat' split
       all_goals simp)
end

section
variable {P : Program} {o : Oper} {a : Act} {w : World} {M : Mp} {m : Mem} {n : Nat} {s : Nat → V} {B : Nat} {I0 : Nat → Nat → Prop} {w0 : World}
theorem sound_frz {x : Operand} {x' : X} {off sz k b : Nat} {cs : List V} (ho : o.op = .move x ∨ o.op = .assign x) (hx : compX x = some x') (hs : Slots M w n s a) (hg : Good B I0 w0 M m w) (hv : x'.ev s = .ref (.sli off sz k) b) (hb : m.boxes[b]? = some cs) (hno : isObj cs = false) (hl : off + k * sz ≤ cs.length) :
    Sound P o a w M B I0 w0 (.lit sz (chunkV sz k (cs.drop off))) { m with boxes := m.boxes.set b deadC } := by
  have hr := comp_ev hx hs
  rw [hv] at hr
  obtain ⟨g, c, hx2, hc, hβ⟩ := hr
  obtain ⟨hg2, hr2⟩ := hg.freeze hβ hb hno
  obtain ⟨f1, f2⟩ := chunkV_flat sz k (cs.drop off) (by simp; omega)
  refine ⟨a.eval x, w, _, .inl (by rcases ho with ho | ho <;> (unfold execOp; rw [ho]; rfl)), Mp.plus_ext M _ w, hg2, ?_⟩
  rw [hx2]
  refine .inr ⟨⟨g, off, none⟩, c, by rw [chunkV_length]; rfl, by rw [chunkV_length]; exact hc, .inr rfl, f2, RepX.of_flat ?_⟩
  rw [f1]
  have := (hr2.drop off).take (k * sz)
  simpa using this
theorem sound_ixr {T e : TypeId} {x y : Operand} {x' y' : X} {i : TypeInfo} {ik : IntKind} {q : Int} {off k b : Nat} (ho : o.op = .indexAddr T x y) (hT : P.underlying T = some (.slice e)) (hi : P.info? e = some i)
    (hx : compX x = some x') (hy : compX y = some y') (hs : Slots M w n s a) (hg : Good B I0 w0 M m w) (h : x'.ev s = .ref (.sli off i.size k) b) (hq : y'.ev s = .val (.int ik q)) (h0 : 0 ≤ q) (h1 : q < k) :
    Sound P o a w M B I0 w0 (.ptr b (off + q.toNat * i.size)) m := by
  have hr := comp_ev hx hs
  rw [h] at hr
  obtain ⟨g, c, k1, hc, hβ⟩ := hr
  have k6 := comp_ev hy hs
  rw [hq] at k6
  obtain ⟨k6, _⟩ := k6
  refine sound_same hg (x := .pointer (some ⟨g, off + q.toNat * i.size, none⟩)) ?_ ⟨g, rfl, hβ⟩
  unfold execOp
  rw [ho]
  simp [Instr.indexAt, k1, Rk.val, k6, run_underlying hT, asIntOf, h0, h1, run_sizeOf hi, Addr.add_mid]
theorem sound_lnr {T e : TypeId} {x : Operand} {x' : X} {off sz k b : Nat} (ho : o.op = .call { callee := .builtin .len, args := #[x], argTypes := #[T] }) (hT : P.underlying T = some (.slice e))
    (hx : compX x = some x') (hs : Slots M w n s a) (hg : Good B I0 w0 M m w) (h : x'.ev s = .ref (.sli off sz k) b) : Sound P o a w M B I0 w0 (.val (.int .i64 k)) m := by
  have hr := comp_ev hx hs
  rw [h] at hr
  obtain ⟨g, c, hv, hc, hβ⟩ := hr
  refine sound_same hg (x := .int .i64 k) ?_ ⟨rfl, rfl⟩
  unfold execOp
  rw [ho]
  simp [resolve, invoke, builtin, hv, Rk.val, Builtin.len_, run_underlying hT, goInt]
theorem RepL.repl {l : List V} {us : List Value} (h : RepL M w l us) : ∀ k, RepL M w (List.replicate k l).flatten (List.replicate k us).flatten
  | 0 => rfl
  | k + 1 => by
    simp only [List.replicate_succ, List.flatten_cons]
    exact h.append (RepL.repl h k)
theorem sound_mkb (ts : List (Option Nat)) {T e : TypeId} {x y : Operand} {x' y' : X} {i : TypeInfo} {z : Value} {q : Int} (ho : o.op = .makeSlice T x y) (hT : P.underlying T = some (.slice e)) (hi : P.info? e = some i) (hz : i.zero = some z)
    (hzs : z.cells.size = i.size) (h0 : 0 < i.size) (hp : z.cells.toList.all plain = true) (hx : compX x = some x') (hy : compX y = some y') (hs : Slots M w n s a) (hg : Good B I0 w0 M m w)
    (h1 : x'.ev s = .val (.int .i64 q)) (h2 : y'.ev s = .val (.int .i64 q)) (hq : 0 ≤ q) (hb : q * i.bytes ≤ 140737488355328) (h63 : q ≤ 9223372036854775807) :
    Sound P o a w M B I0 w0 (.ref (.sli 0 i.size q.toNat) m.boxes.length) { m with boxes := m.boxes ++ [(List.replicate q.toNat (mkZ z.cells.toList ts)).flatten] } := by
  have k1 := comp_ev hx hs
  rw [h1] at k1
  obtain ⟨k1, _⟩ := k1
  have k2 := comp_ev hy hs
  rw [h2] at k2
  obtain ⟨k2, _⟩ := k2
  have hrun : (execOp a.eval o).run P w = .ok (.value (.slice (some ⟨w.heap.size, 0, none⟩) q.toNat q.toNat)) (w.alloc (.cells (madeCells z.cells (q.toNat * i.size)) e)) := by
    have := run_make (P := P) w T e i z hT hi hz .i64 .i64 q q hq (Int.le_refl _) (by rw [Int.mul_comm]; omega) h63
    unfold execOp
    rw [ho]
    simp [k1, k2, this]
  have hbw := below_alloc_self w (.cells (madeCells z.cells (q.toNat * i.size)) e)
  have hg1 := hg.grow hbw
  have hE1 := hg.ext hbw
  have hf := hg.fresh (Nat.le_refl _)
  have hzr : RepL M (w.alloc (.cells (madeCells z.cells (q.toNat * i.size)) e)) (List.replicate q.toNat (mkZ z.cells.toList ts)).flatten (madeCells z.cells (q.toNat * i.size)).toList := by
    rw [made_flat z.cells i.size hzs h0]
    exact RepL.repl (RepL.mkZ ts hp) _
  have hone : ∀ u ∈ (madeCells z.cells (q.toNat * i.size)).toList, u.oneCell' = true := fun u hu => by
    rw [made_flat z.cells i.size hzs h0] at hu
    simp only [List.mem_flatten] at hu
    obtain ⟨l, hl, hul⟩ := hu
    rw [(List.mem_replicate.1 hl).2] at hul
    exact plain_one (List.all_eq_true.1 hp u hul)
  have hg2 := hg1.addBox (g := w.heap.size) (cs := (List.replicate q.toNat (mkZ z.cells.toList ts)).flatten) (heap_alloc_new w _) hg.sizeB hf.1 hf.2.1 hf.2.2 (.full hg.κnone hzr hone)
  refine ⟨_, _, _, .inl hrun, hE1.trans (Mp.addB_ext M _ _), hg2, ⟨w.heap.size, q.toNat, rfl, Nat.le_refl _, ?_⟩⟩
  simp [Mp.addB, hg.lβ]
theorem inv_mkl {own ex : Bool} {ty : TypeId} {op : Op} {e sz : Nat} {xs : List X} {ow : Bool} (h : compK P own ex ty op = some (.mkl e sz xs ow)) : ∃ T len parts i, op = .buildSlice T len parts ∧ P.underlying T = some (.slice e) ∧ P.info? e = some i ∧ compXs (parts.toList.map (·.2)) = some xs ∧
    parts.toList.map (·.1) = List.range' 0 len ∧ sz = i.size := by
  unfold compK at h
  split at h
  case h_17 T len parts =>
    split at h
    case h_2 => cases h
    rename_i h1 h2
    split at h
    case h_2 => cases h
    rename_i i hi
    split at h
    case h_2 => cases h
    rename_i z0 hz
    split at h
    case isFalse => cases h
    rename_i hc
    cases h
    exact ⟨T, len, parts, i, rfl, h1, hi, h2, hc.2.1, rfl⟩
  all_goals first
    | (simp only [Option.map_eq_some_iff] at h; obtain ⟨y, hy, e⟩ := h; cases e; done)
    | (split at h
       · rename_i e
         split at e
         · cases h
           obtain ⟨_, _, h'⟩ := nilT_eq e
           cases h'
         · cases e
       · simp only [Option.map_eq_some_iff] at h
         obtain ⟨y, hy, e⟩ := h
         cases e
         done)
    | (exfalso; revert h; repeat' split
       all_goals simp)
theorem compXs_nil {l : List Operand} (h : compXs l = some []) : l = [] := by
  cases l with
  | nil => rfl
  | cons x l =>
    exfalso
    simp only [compXs, List.mapM_cons, Option.pure_def, Option.bind_eq_bind, Option.bind_eq_some_iff] at h
    obtain ⟨y, _, r, _, e⟩ := h
    cases e
theorem sound_eml {T e : TypeId} {len : Nat} {parts : Array (Nat × Operand)} {i : TypeInfo} (ho : o.op = .buildSlice T len parts) (hT : P.underlying T = some (.slice e)) (hi : P.info? e = some i) (hc : compXs (parts.toList.map (·.2)) = some [])
    (hlen : parts.toList.map (·.1) = List.range' 0 len) (hg : Good B I0 w0 M m w) (sz : Nat) : Sound P o a w M B I0 w0 (.full sz []) m := by
  have hp := compXs_nil hc
  have hp0 : parts = #[] := Array.toList_eq_nil_iff.1 (List.map_eq_nil_iff.1 hp)
  subst hp0
  have hl0 : len = 0 := by simpa using (congrArg List.length hlen).symm
  subst hl0
  have hrun : ∃ cells : Array Value, (execOp a.eval o).run P w = .ok (.value (.slice (some ⟨w.heap.size, 0, none⟩) 0 0)) (w.alloc (.cells cells e)) := by
    refine ⟨#[], ?_⟩
    unfold execOp
    rw [ho]
    simp [Instr.buildSlice, run_underlying hT, run_sizeOf hi, Instr.fill, newRow, Array.range_zero']
  obtain ⟨cells, hrun⟩ := hrun
  have hb := below_alloc_self w (.cells cells e)
  exact ⟨_, _, M, .inl hrun, hg.ext hb, hg.grow hb, .inr ⟨⟨w.heap.size, 0, none⟩, rfl, .inl rfl, fun _ h => (by cases h), trivial⟩⟩
theorem mem_sound {own ex : Bool} {ty : TypeId} {k0 : K} {mo : Mo} {xs : List X} {v : V} {m' : Mem} (hc : compK P own ex ty o.op = some k0) (hm : memOf k0 = some (mo, xs)) (hs : Slots M w n s a) (hg : Good B I0 w0 M m w) (h : memE mo (xs.map (·.ev s)) m = some (v, m')) : Sound P o a w M B I0 w0 v m' := by
  cases k0 <;> try simp only [memOf, Option.some.injEq, Prod.mk.injEq, reduceCtorEq] at hm
  case mov x1 =>
    obtain ⟨rfl, rfl⟩ := hm
    obtain ⟨x0, ho, hx⟩ := inv_mov hc
    simp only [memE, List.map_cons, List.map_nil] at h
    split at h
    · rename_i off sz k b e
      simp only [List.cons.injEq, and_true] at e
      split at h
      · rename_i cs hb
        split at h
        · rename_i hcd
          cases h
          exact sound_frz ho hx hs hg e hb hcd.1 hcd.2
        · cases h
      · cases h
    · cases h
  case ixs x1 y1 sz =>
    obtain ⟨rfl, rfl⟩ := hm
    obtain ⟨T, e, x0, y0, i, ho, hT, hi, hx, hy, rfl⟩ := inv_ixs hc
    simp only [memE, List.map_cons, List.map_nil] at h
    split at h
    · rename_i off sz' k b ik q e1
      simp only [List.cons.injEq, and_true] at e1
      split at h
      · rename_i hcd
        cases h
        rw [hcd.1] at e1
        exact sound_ixr ho hT hi hx hy hs hg e1.1 e1.2 hcd.2.1 hcd.2.2
      · cases h
    · cases h
  case len x1 =>
    obtain ⟨rfl, rfl⟩ := hm
    obtain ⟨T, e, x0, ho, hT, hx⟩ := inv_len hc
    simp only [memE, List.map_cons, List.map_nil] at h
    split at h
    · rename_i e1
      simp only [List.cons.injEq, and_true] at e1
      cases h
      exact sound_lnr ho hT hx hs hg e1
    · cases h
  case app x1 y1 e sz bytes ow =>
    obtain ⟨rfl, rfl⟩ := hm
    obtain ⟨T, x0, y0, i, z0, ho, hT, hi, hz, hzs, hb0, hx, hy, rfl, rfl⟩ := inv_app hc
    simp only [memE, List.map_cons, List.map_nil] at h
    split at h
    · rename_i y e1
      simp only [List.cons.injEq, and_true] at e1
      split at h
      · rename_i sz' ys e2
        split at h
        · rename_i hcd
          cases h
          obtain ⟨rfl, hne, hby⟩ := hcd
          exact sound_apb ho hT hi hz hzs hb0 hx hy hs hg (.inl e1.1) (by rw [e1.2]; exact e2) hne hby
        · cases h
      · cases h
    · rename_i szx y e1
      simp only [List.cons.injEq, and_true] at e1
      split at h
      · rename_i sz' ys e2
        split at h
        · rename_i hcd
          cases h
          obtain ⟨rfl, rfl, hne, hby⟩ := hcd
          exact sound_apb ho hT hi hz hzs hb0 hx hy hs hg (.inr e1.1) (by rw [e1.2]; exact e2) hne hby
        · cases h
      · cases h
    · cases h
  case mkl e sz l ow =>
    cases l with
    | cons x l => simp at hm
    | nil =>
      simp only [Option.some.injEq, Prod.mk.injEq] at hm
      obtain ⟨rfl, rfl⟩ := hm
      obtain ⟨T, len, parts, i, ho, hT, hi, hx, hl, rfl⟩ := inv_mkl hc
      simp only [memE, List.map_nil] at h
      cases h
      exact sound_eml ho hT hi hx hl hg _
  case mks n1 c1 e sz bytes z ow =>
    obtain ⟨rfl, rfl⟩ := hm
    obtain ⟨T, x0, y0, i, z0, ts, ho, hT, hi, hz, hzs, h0, hb0, hp, hx, hy, rfl, rfl, rfl⟩ := inv_mks hc
    simp only [memE, List.map_cons, List.map_nil] at h
    split at h
    · rename_i q q2 e1
      simp only [List.cons.injEq, and_true] at e1
      split at h
      · rename_i hcd
        cases h
        obtain ⟨rfl, hq, hqb⟩ := hcd
        have hbb : (1 : Int) ≤ i.bytes := by omega
        have : q ≤ q * i.bytes := by
          have := Int.mul_le_mul_of_nonneg_left hbb hq
          omega
        exact sound_mkb ts ho hT hi hz hzs h0 hp hx hy hs hg e1.1 e1.2 hq hqb (by omega)
      · cases h
    · cases h
theorem ext_sound {k : K} {v : V} {m' : Mem} (hc : compE P o.op = some k) (hs : Slots M w n s a) (hg : Good B I0 w0 M m w) (h : kindE k s m = some (v, m')) : Sound P o a w M B I0 w0 v m' := by
  unfold compE at hc
  split at hc
  case h_1 x ho =>
    simp only [Option.map_eq_some_iff] at hc
    obtain ⟨x', hx, rfl⟩ := hc
    have k1 := comp_ev hx hs
    simp only [kindE, memE, List.map_cons, List.map_nil] at h
    split at h
    · rename_i b off e
      simp only [List.cons.injEq, and_true] at e
      cases h
      rw [e] at k1
      have k1' := k1
      obtain ⟨g, k1, _⟩ := k1
      exact sound_same hg (x := a.eval x) (by unfold execOp; rw [ho]; simp [k1]) k1'
    · rename_i cs e
      simp only [List.cons.injEq, and_true] at e
      cases h
      rw [e] at k1
      have k1' := k1
      obtain ⟨ad, k1, _⟩ := k1
      exact sound_same hg (x := a.eval x) (by unfold execOp; rw [ho]; simp [k1]) k1'
    · cases h
  case h_2 src dst x ho =>
    split at hc
    · rename_i x' d k hx hd h2
      cases hc
      have k1 := comp_ev hx hs
      simp only [kindE, memE, List.map_cons, List.map_nil] at h
      split at h
      · rename_i ik q e
        simp only [List.cons.injEq, and_true] at e
        cases h
        rw [e] at k1
        obtain ⟨k1, _⟩ := k1
        exact sound_same hg (x := .float k (k.nearest q)) (by unfold execOp; rw [ho]; simp [k1, convert, run_underlying hd, run_underlying h2, Conv.intToFloat]) ⟨rfl, rfl⟩
      · cases h
    · cases hc
  case h_3 b args tys ho =>
    split at hc
    · rename_i x y e0
      have ha : args = #[x, y] := by simpa using congrArg List.toArray e0
      subst ha
      split at hc
      · rename_i x' y' hx hy
        cases hc
        have k1 := comp_ev hx hs
        have k2 := comp_ev hy hs
        simp only [kindE, memE, List.map_cons, List.map_nil] at h
        split at h
        · rename_i k p k' q e
          simp only [List.cons.injEq, and_true] at e
          split at h
          · rename_i hk
            cases h
            subst hk
            rw [e.1] at k1
            rw [e.2] at k2
            obtain ⟨k1, _⟩ := k1
            obtain ⟨k2, _⟩ := k2
            have hb : ∀ t1 t2, Builtin.complex_ t1 t2 #[.float k p, .float k q] = pure (.complex k p q) := fun t1 t2 => by
              show (if k = k then _ else _) = _
              rw [if_pos rfl]
            exact sound_same hg (x := .complex k p q) (by unfold execOp; rw [ho]; simp [resolve, invoke, builtin, k1, k2, hb]) ⟨rfl, rfl⟩
          · cases h
        · cases h
      · cases hc
    · rename_i x e0
      have ha : args = #[x] := by simpa using congrArg List.toArray e0
      subst ha
      simp only [Option.map_eq_some_iff] at hc
      obtain ⟨x', hx, rfl⟩ := hc
      have k1 := comp_ev hx hs
      simp only [kindE, memE, List.map_cons, List.map_nil] at h
      split at h
      · rename_i k p q e
        simp only [List.cons.injEq, and_true] at e
        cases h
        rw [e] at k1
        obtain ⟨k1, _⟩ := k1
        have hb : ∀ t1 t2, Builtin.real_ t1 t2 #[.complex k p q] = pure (.float k p) := fun t1 t2 => rfl
        exact sound_same hg (x := .float k p) (by unfold execOp; rw [ho]; simp [resolve, invoke, builtin, k1, hb]) ⟨rfl, rfl⟩
      · cases h
    · rename_i x e0
      have ha : args = #[x] := by simpa using congrArg List.toArray e0
      subst ha
      simp only [Option.map_eq_some_iff] at hc
      obtain ⟨x', hx, rfl⟩ := hc
      have k1 := comp_ev hx hs
      simp only [kindE, memE, List.map_cons, List.map_nil] at h
      split at h
      · rename_i k p q e
        simp only [List.cons.injEq, and_true] at e
        cases h
        rw [e] at k1
        obtain ⟨k1, _⟩ := k1
        have hb : ∀ t1 t2, Builtin.imag_ t1 t2 #[.complex k p q] = pure (.float k q) := fun t1 t2 => rfl
        exact sound_same hg (x := .float k q) (by unfold execOp; rw [ho]; simp [resolve, invoke, builtin, k1, hb]) ⟨rfl, rfl⟩
      · cases h
    · cases hc
  case h_4 T x k y ho =>
    split at hc
    · rename_i kt et x' k' y' hT h1 h2 h3
      split at hc
      · rename_i hk
        cases hc
        simp only [kindE] at h
        split at h
        · rename_i b q e1 e2
          simp only [Option.map_eq_some_iff, Option.bind_eq_some_iff, Prod.mk.injEq] at h
          obtain ⟨kvs, ⟨cs, hb, hc⟩, rfl, rfl⟩ := h
          exact sound_mup (.inr ho) hT hk h1 h2 h3 hs hg e1 e2 hb hc
        · cases h
      · cases hc
    · cases hc
  case h_5 => cases hc
theorem compE_weak {k : K} {op : Op} (hc : compE P op = some k) : k.weak = k := by
  unfold compE at hc
  split at hc
  all_goals first
    | (simp only [Option.map_eq_some_iff] at hc; obtain ⟨x', hx, rfl⟩ := hc; rfl)
    | (repeat' split at hc
       all_goals first
         | (cases hc; rfl)
         | (simp only [Option.map_eq_some_iff] at hc; obtain ⟨x', hx, rfl⟩ := hc; rfl)
         | cases hc)
end
end Go.Av

namespace Go.Av
open Go.RowKit

theorem compK_nof {P : Program} {own ex : Bool} {ty : TypeId} {op : Op} {x : X} {xs : List X} {fr : List Nat} : ¬ compK P own ex ty op = some (.callf x xs fr) := by
  intro h
  unfold compK at h
  split at h
  all_goals first
    | (simp only [Option.map_eq_some_iff] at h; obtain ⟨y, hy, e⟩ := h; cases e; done)
    | (split at h
       · rename_i e
         split at e
         · cases h
           obtain ⟨_, _, h'⟩ := nilT_eq e
           cases h'
         · cases e
       · simp only [Option.map_eq_some_iff] at h
         obtain ⟨_, _, h⟩ := h
         cases h)
    | (exfalso; revert h; repeat' split
       all_goals simp)
theorem compK_nor {P : Program} {own ex : Bool} {ty : TypeId} {op : Op} {x : X} {xs : List X} : ¬ compK P own ex ty op = some (.callr x xs) := by
  intro h
  unfold compK at h
  split at h
  all_goals first
    | (simp only [Option.map_eq_some_iff] at h; obtain ⟨y, hy, e⟩ := h; cases e; done)
    | (split at h
       · rename_i e
         split at e
         · cases h
           obtain ⟨_, _, h'⟩ := nilT_eq e
           cases h'
         · cases e
       · simp only [Option.map_eq_some_iff] at h
         obtain ⟨_, _, h⟩ := h
         cases h)
    | (exfalso; revert h; repeat' split
       all_goals simp)
theorem compK_noq {P : Program} {own ex : Bool} {ty : TypeId} {op : Op} {k : K} (h : compK P own ex ty op = some k) : (∀ f xs, k ≠ .callq f xs) ∧ (∀ x xs fr, k ≠ .callf x xs fr) ∧ ∀ x xs, k ≠ .callr x xs := by
  refine ⟨?_, ?_, ?_⟩
  rotate_left
  · rintro x xs fr rfl
    exact absurd h (compK_nof)
  · rintro x xs rfl
    exact absurd h (compK_nor)
  rintro f xs rfl
  unfold compK at h
  split at h
  all_goals first
    | (simp only [Option.map_eq_some_iff] at h; obtain ⟨y, hy, e⟩ := h; cases e; done)
    | (split at h
       · rename_i e
         split at e
         · cases h
           obtain ⟨_, _, h'⟩ := nilT_eq e
           cases h'
         · cases e
       · simp only [Option.map_eq_some_iff] at h
         obtain ⟨_, _, h⟩ := h
         cases h)
    | (exfalso; revert h; repeat' split
       all_goals simp)
theorem compK_call {P : Program} {own ex : Bool} {ty : TypeId} {op : Op} {f : FuncId} {xs : List X} (h : compK P own ex ty op = some (.call f xs)) :
    ∃ args tys, op = .call { callee := .value (.func f), args := args, argTypes := tys } ∧ compXs args.toList = some xs := by
  unfold compK at h
  split at h
  all_goals first
    | (simp only [Option.map_eq_some_iff] at h; obtain ⟨y, hy, e⟩ := h; cases e; exact ⟨_, _, rfl, hy⟩)
    | (split at h
       · rename_i e
         split at e
         · cases h
           obtain ⟨_, _, h'⟩ := nilT_eq e
           cases h'
         · cases e
       · simp only [Option.map_eq_some_iff] at h
         obtain ⟨_, _, h⟩ := h
         cases h)
    | (exfalso; revert h; repeat' split
       all_goals simp)
theorem compK_callv {P : Program} {own ex : Bool} {ty : TypeId} {op : Op} {x : X} {xs : List X} (h : compK P own ex ty op = some (.callv x xs)) :
    ∃ t args tys, x = .t t ∧ op = .call { callee := .value (.tmp t), args := args, argTypes := tys } ∧ compXs args.toList = some xs := by
  unfold compK at h
  split at h
  all_goals first
    | (simp only [Option.map_eq_some_iff] at h; obtain ⟨y, hy, e⟩ := h; cases e; exact ⟨_, _, _, rfl, rfl, hy⟩)
    | (split at h
       · rename_i e
         split at e
         · cases h
           obtain ⟨_, _, h'⟩ := nilT_eq e
           cases h'
         · cases e
       · simp only [Option.map_eq_some_iff] at h
         obtain ⟨_, _, h⟩ := h
         cases h)
    | (exfalso; revert h; repeat' split
       all_goals simp)

section
variable {P : Program} {o : Oper} {a : Act} {w wst : World} {M M0 : Mp} {m m' : Mem} {n : Nat} {s : Nat → V} {B : Nat} {I0 : Nat → Nat → Prop} {w0 : World} {own : Nat → Bool} {ops : Array Oper} {v : V} {Y : YRel} {rd : Option Nat} {N : Nat}

theorem rep_undef {M : Mp} {w : World} : Rep M w (.tuple []) undef := ⟨#[], rfl, rfl⟩

theorem AT.next {w' : World} {x : Value} {M' : Mp} {d : Option Nat} (hE0 : Ext M0 M wst w) (hs : Slots M w n s a) (ha : Marks M0 M a) (hE : Ext M M' w w') (hg : Good B I0 w0 M' m' w') (hr : Rep M' w' v x) (hd : dstOk n d = true) :
    AT B I0 w0 M0 wst n (put d v s) m' (a.put d x) w' := by
  exact ⟨M', hE0.trans hE, hg, (hs.mono hE).put hr hd, ha.next hE⟩

theorem compOp_iff {c : O} (hc : compOp P n own ops o = some c) : c.d = o.dst ∧ (compK P ((o.dst.map own).getD false) (exT own o.dst) o.type o.op = some c.k ∨ c.k = .dead ∨ (∃ x z, compK P ((o.dst.map own).getD false) (exT own o.dst) o.type o.op = some (.ld x z) ∧ c.k = .lde x z) ∨ (∃ f xs, compK P ((o.dst.map own).getD false) (exT own o.dst) o.type o.op = some (.call f xs) ∧ c.k = .callq f xs) ∨ (∃ k0 mo xs, compK P ((o.dst.map own).getD false) (exT own o.dst) o.type o.op = some k0 ∧ memOf k0 = some (mo, xs) ∧ c.k = .mem mo xs) ∨ compE P o.op = some c.k) ∧ guardO ops n o = some c.g ∧ dstOk n o.dst = true := by
  unfold compOp at hc
  split at hc
  · rename_i g h2
    split at hc
    · rename_i hd
      cases hc
      refine ⟨rfl, ?_, h2, hd⟩
      cases hk : compK P ((o.dst.map own).getD false) (exT own o.dst) o.type o.op with
      | none =>
        cases hx : compE P o.op with
        | none => exact .inr (.inl rfl)
        | some k => exact .inr (.inr (.inr (.inr (.inr rfl))))
      | some k =>
        rcases compM_eq (P := P) (own := own) (ops := ops) (ex := exT own o.dst) k with h | ⟨x, z, rfl, h⟩ | ⟨f, xs, rfl, h⟩ | ⟨mo, xs, h1, h⟩
        · exact .inl (by simp [h])
        · exact .inr (.inr (.inl ⟨x, z, rfl, by simp [h]⟩))
        · exact .inr (.inr (.inr (.inl ⟨f, xs, rfl, by simp [h]⟩)))
        · exact .inr (.inr (.inr (.inr (.inl ⟨k, mo, xs, rfl, h1, by simp [h]⟩))))
    · cases hc
  · cases hc

theorem compOp_weak {c : O} (hc : compOp P n own ops o = some c) : c.weak = c := by
  obtain ⟨e1, e2, e3, e4⟩ := compOp_iff hc
  obtain ⟨d, g, k⟩ := c
  show O.mk d g k.weak = _
  rcases e2 with e2 | e2 | ⟨x, z, _, e2⟩ | ⟨f, xs, _, e2⟩ | ⟨k0, mo, xs, _, _, e2⟩ | e2
  · cases k with
    | callf x xs fr => exact absurd e2 compK_nof
    | callr x xs => exact absurd e2 compK_nor
    | _ => rfl
  · simp only at e2; rw [e2]; rfl
  · simp only at e2; rw [e2]; rfl
  · simp only at e2; rw [e2]; rfl
  · simp only at e2; rw [e2]; rfl
  · simp only at e2; rw [compE_weak e2]
theorem kindR_cases {k : K} (h : kindR false P Y k s m v m') (hq : (∀ f xs, k ≠ .callq f xs) ∧ (∀ x xs fr, k ≠ .callf x xs fr) ∧ ∀ x xs, k ≠ .callr x xs) : (∃ f args, k = .call f args) ∨ (∃ x args, k = .callv x args) ∨ kindE k s m = some (v, m') := by
  cases k <;> first
    | exact absurd rfl (hq.1 _ _)
    | exact absurd rfl (hq.2.1 _ _ _)
    | exact absurd rfl (hq.2.2 _ _)
    | exact .inr (.inr h)
    | exact .inl ⟨_, _, rfl⟩
    | exact .inr (.inl ⟨_, _, rfl⟩)

theorem kind_step {c : O} {K : Act → World → Prop} {Q : Exit → Act → World → Prop} (hc : compOp P n own ops o = some c) (h : kindR false P Y c.k s m v m') (hat : AT B I0 w0 M0 wst n s m a w) (hY : YOk P Y M0 wst)
    (hk : ∀ a' w', AT B I0 w0 M0 wst n (put c.d v s) m' a' w' → K a' w') : o.wpIn (fen rd) N P a w K Q := by
  obtain ⟨e1, e2, e3, e4⟩ := compOp_iff hc
  obtain ⟨M, hE0, hg, hs, ha⟩ := hat
  have hsem : o.semAt (fen rd).round a.eval = execOp a.eval o := Oper.semAt_eq _ _ _ (by
    intro c1 hc1
    rw [hc1] at e2
    rcases e2 with e2 | e2 | ⟨x, z, e2, _⟩ | ⟨f, xs, e2, _⟩ | ⟨k0, mo, xs, e2, e3, e5⟩ | e2
    · simp [compK] at e2
    · rw [e2] at h; unfold kindR at h; simp [kindE] at h
    · simp [compK] at e2
    · simp [compK] at e2
    · simp [compK] at e2
    · simp [compE] at e2)
  have hfin : Sound P o a w M B I0 w0 v m' → o.wpIn (fen rd) N P a w K Q := by
    rintro ⟨x, w', M', hrun, hE, hg', hx⟩
    have hn := hk _ _ (AT.next (d := c.d) hE0 hs ha hE hg' hx (by rw [e1]; exact e4))
    rw [e1] at hn
    refine ⟨fun _ _ => trivial, ?_⟩
    rcases hrun with hrun | ⟨rfl, hrun⟩
    · rw [hsem, hrun, Oper.uponIn_value]; exact hn
    · rw [hsem, hrun, Oper.uponIn_skip]; exact hn
  by_cases hee : compE P o.op = some c.k
  · have hke : kindE c.k s m = some (v, m') := by
      revert h
      unfold compE at hee
      split at hee
      all_goals first
        | (simp only [Option.map_eq_some_iff] at hee; obtain ⟨x', hx, he⟩ := hee; rw [← he]; exact id)
        | (repeat' split at hee
           all_goals first
             | (simp only [Option.map_eq_some_iff] at hee; obtain ⟨x', hx, he⟩ := hee; rw [← he]; exact id)
             | (simp only [Option.some.injEq] at hee; rw [← hee]; exact id)
             | cases hee)
    exact hfin (ext_sound hee hs hg hke)
  by_cases hmm : ∃ k0 mo xs, compK P ((o.dst.map own).getD false) (exT own o.dst) o.type o.op = some k0 ∧ memOf k0 = some (mo, xs) ∧ c.k = .mem mo xs
  · obtain ⟨k0, mo, xs, h1, h2, h3⟩ := hmm
    rw [h3] at h
    exact hfin (mem_sound h1 h2 hs hg h)
  obtain ⟨ck, e2, h⟩ : ∃ ck, compK P ((o.dst.map own).getD false) (exT own o.dst) o.type o.op = some ck ∧ kindR false P Y ck s m v m' := by
    rcases e2 with e2 | e | ⟨x, z, e2, e5⟩ | ⟨f, xs, e2, e5⟩ | e2 | e2
    · exact ⟨_, e2, h⟩
    · rw [e] at h
      unfold kindR at h
      simp [kindE] at h
    · rw [e5] at h
      exact ⟨_, e2, kindE_lde h⟩
    · rw [e5] at h
      exact ⟨_, e2, CallG.toR (q := true) h⟩
    · exact absurd e2 hmm
    · exact absurd e2 hee
  have hcall : ∀ {f : FuncId} {vals : Array Value}, (execOp a.eval o).run P w = .ok (.enter f vals) w → CallOk P M w B I0 w0 f vals v m' → o.wpIn (fen rd) N P a w K Q := by
    intro f vals hr hcl
    refine ⟨fun _ _ => trivial, ?_⟩
    rw [hsem, hr, Oper.uponIn_enter]
    refine ⟨fun h => absurd h (by simp [fen, Fence.wide]), ?_⟩
    refine CallsIn.mono (F := fen rd) (callsIn_wide.2 hcl) fun e w' ⟨x, M', he, hE, hg', hx⟩ => ?_
    subst he
    have := hk _ _ (AT.next (d := c.d) hE0 hs ha hE hg' hx (by rw [e1]; exact e4))
    rw [e1] at this
    exact this
  have hval : ∀ {x : Value}, (execOp a.eval o).run P w = .ok (.value x) w → m' = m → Rep M w v x → o.wpIn (fen rd) N P a w K Q := by
    intro x hr e hx
    refine ⟨fun _ _ => trivial, ?_⟩
    rw [hsem, hr, Oper.uponIn_value]
    have := hk _ _ (AT.next (d := c.d) hE0 hs ha (Ext.refl M w) (by rw [e]; exact hg) hx (by rw [e1]; exact e4))
    rw [e1] at this
    exact this
  rcases kindR_cases h (compK_noq e2) with ⟨f, args, ek⟩ | ⟨x, args, ek⟩ | hke
  · rw [ek] at h e2
    obtain ⟨as, tys, ho, hx⟩ := compK_call e2
    have hr := rep_args hs hx
    rcases CallR.ok (vals := as.map a.eval ++ #[]) h (hY.later hE0) hg (by simpa using hr) with ⟨h1, h2⟩ | ⟨rfl, x, h1, h2⟩
    · exact hcall (enter_of ho (by rfl) h1) h2
    · exact hval (ext_of ho (by rfl) h1) rfl h2
  · rw [ek] at h e2
    obtain ⟨t, as, tys, rfl, ho, hx⟩ := compK_callv e2
    have hr := rep_args hs hx
    have hv := hs.2 t
    rcases h with ⟨f, cap, hf, hcr⟩ | ⟨_, b, hf, hyr⟩
    case inr =>
      simp only [X.ev] at hf
      rw [hf] at hv
      obtain ⟨g, hv, hβ⟩ := hv
      obtain ⟨fn, tm, asn, bd, hrun, hrd⟩ := hY b _ _ _ _ hyr B I0 w0 M w (as.map a.eval) hE0 hg (by simpa using hr) g hβ (N - 1)
      have hex : (execOp a.eval o).run P w = .ok (.round g fn tm asn bd) w := by
        have hv' : a.eval (.tmp t) = .func (.yield g) #[] #[] := hv
        unfold execOp
        rw [ho]
        simp only [resolve, hv', Deferred.ofValue]
        simp [invoke, hrun]
      refine ⟨fun _ _ => trivial, ?_⟩
      rw [hsem, hex, Oper.uponIn_round]
      refine ⟨fun h => absurd h (by simp [fen, Fence.wide]), ?_⟩
      refine RoundIn.mono (F := fen rd) hrd fun e w' ⟨x, M', he, hE, hg', hx⟩ => ?_
      subst he
      have := hk _ _ (AT.next (d := c.d) hE0 hs ha hE hg' hx (by rw [e1]; exact e4))
      rw [e1] at this
      exact this
    simp only [X.ev] at hf
    rw [hf] at hv
    obtain ⟨vs, hv, hrc⟩ := hv
    rcases CallR.ok (vals := as.map a.eval ++ vs) hcr (hY.later hE0) hg (by simpa using RepL.append hr hrc) with ⟨h1, h2⟩ | ⟨rfl, x, h1, h2⟩
    · exact hcall (enter_of ho (by simpa [Act.eval] using hv) h1) h2
    · exact hval (ext_of ho (by simpa [Act.eval] using hv) h1) rfl h2
  · exact hfin (kind_sound e2 hs hg hke)

theorem step_sound {c : O} {K : Act → World → Prop} {Q : Exit → Act → World → Prop} (hc : compOp P n own ops o = some c) {q : Bool} (h : stepR q P Y c s m v m') (hat : AT B I0 w0 M0 wst n s m a w) (hY : YOk P Y M0 wst)
    (hk : ∀ a' w', AT B I0 w0 M0 wst n (put c.d v s) m' a' w' → K a' w') :
    if Region.wanted o (yielded ops a.tmps) then o.wpIn (fen rd) N P a w K Q else (∀ f, o.about P w a.eval = some f → (fen rd).fn f) ∧ K (a.put o.dst undef) w := by
  obtain ⟨e1, e2, e3, e4⟩ := compOp_iff hc
  replace h := h.toR
  unfold stepR at h
  unfold guardO at e3
  split at h
  · rename_i hgn
    have : o.guard = none := by
      split at e3
      · assumption
      · rename_i g want hgd
        rw [hgn] at e3
        repeat' split at e3
        all_goals cases e3
    have hw : Region.wanted o (yielded ops a.tmps) = true := by simp [Region.wanted, this]
    rw [if_pos hw]
    exact kind_step hc h hat hY hk
  · rename_i d want hgn
    rw [hgn] at e3
    obtain ⟨g, hgd, hdst, hdn⟩ : ∃ g, o.guard = some (g, want) ∧ (ops[g]?).bind (·.dst) = some d ∧ d < n := by
      split at e3
      · cases e3
      · rename_i g want' hgd
        split at e3
        · rename_i d' hd'
          split at e3
          · cases e3; exact ⟨g, hgd, hd', by assumption⟩
          · cases e3
        · cases e3
    have hat' := hat
    obtain ⟨M, hE0, hg, hs, ha⟩ := hat
    have hlt : d < a.tmps.size := by rw [hs.1]; exact hdn
    have hget : a.tmps[d]? = some (a.tmps.getD d undef) := by simp [hlt]
    have hy : yielded ops a.tmps g = match a.tmps.getD d undef with | .bool b => some b | _ => none := by
      unfold yielded
      rw [hdst, Option.bind_some, hget]
      generalize a.tmps.getD d undef = y
      cases y <;> rfl
    have hrd := hs.2 d
    rcases h with ⟨hsd, hkr⟩ | ⟨hsd, rfl, rfl⟩
    · rw [hsd] at hrd
      obtain ⟨hrd, _⟩ := hrd
      have hw : Region.wanted o (yielded ops a.tmps) = true := by simp only [Region.wanted, hgd, hy, hrd]; simp
      rw [if_pos hw]
      exact kind_step hc hkr hat' hY hk
    · have hw : Region.wanted o (yielded ops a.tmps) = false := by
        rcases hsd with hsd | hsd
        · rw [hsd] at hrd
          obtain ⟨hrd, _⟩ := hrd
          simp only [Region.wanted, hgd, hy, hrd]
          cases want <;> simp
        · rw [hsd] at hrd
          obtain ⟨vs, hrd, hvs⟩ := hrd
          simp only [Region.wanted, hgd, hy, hrd]
          rfl
      rw [hw]
      simp only [Bool.false_eq_true, if_false]
      have := hk _ _ (AT.next (d := c.d) hE0 hs ha (Ext.refl _ _) hg rep_undef (by rw [e1]; exact e4))
      rw [e1] at this
      exact ⟨fun _ _ => trivial, this⟩
end

/-- The state may be said so as well: of whatever world it is true. -/
def Wkn (s : Nat → V) (m : Mem) (s' : Nat → V) (m' : Mem) : Prop :=
  ∀ (B : Nat) (I0 : Nat → Nat → Prop) (w0 : World) (M0 : Mp) (wst : World) (n : Nat) (a : Act) (w : World), AT B I0 w0 M0 wst n s m a w → AT B I0 w0 M0 wst n s' m' a w
theorem Wkn.refl (s : Nat → V) (m : Mem) : Wkn s m s m := fun _ _ _ _ _ _ _ _ h => h
theorem Wkn.trans {s s1 s2 : Nat → V} {m m1 m2 : Mem} (h : Wkn s m s1 m1) (k : Wkn s1 m1 s2 m2) : Wkn s m s2 m2 := fun B I0 w0 M0 wst n a w x => k B I0 w0 M0 wst n a w (h B I0 w0 M0 wst n a w x)
def IW (I : (Nat → V) → Mem → Prop) (s : Nat → V) (m : Mem) : Prop := ∃ s0 m0, Wkn s m s0 m0 ∧ I s0 m0
theorem IW.of {I : (Nat → V) → Mem → Prop} {s : Nat → V} {m : Mem} (h : I s m) : IW I s m := ⟨s, m, Wkn.refl s m, h⟩
/-- A slot says less. -/
theorem Wkn.slot {s : Nat → V} {m : Mem} {d : Nat} {v : V} (h : ∀ (M : Mp) (w : World) (x : Value), Rep M w (s d) x → Rep M w v x) : Wkn s m (put (some d) v s) m := by
  intro B I0 w0 M0 wst n a w ⟨M, h1, h2, h3, h4⟩
  refine ⟨M, h1, h2, ⟨h3.1, fun t => ?_⟩, h4⟩
  show Rep M w (if t = d then v else s t) _
  split
  · rename_i e; subst e; exact h M w _ (h3.2 t)
  · exact h3.2 t
/-- A slice that is none is a row that is not there yet. -/
theorem Wkn.row {s : Nat → V} {m : Mem} (d : Nat) (e : TypeId) (sz : Nat) (h : s d = .val (.slice none 0 0)) : Wkn s m (put (some d) (.row m.tips.length sz []) s) { m with tips := m.tips ++ [(e, sz, 0)] } := by
  intro B I0 w0 M0 wst n a w ⟨M, h1, h2, h3, h4⟩
  have hE := Mp.addN_ext M w
  have h3' := h3.mono hE
  refine ⟨M.addN, h1.trans hE, h2.addNil e sz, ⟨h3.1, fun t => ?_⟩, h4⟩
  show Rep M.addN w (if t = d then _ else s t) _
  split
  · rename_i e1
    subst e1
    have := h3.2 t
    rw [h] at this
    exact ⟨[], by simp [Mp.addN, ← h2.lγ], .inl ⟨rfl, this.1⟩⟩
  · exact h3'.2 t
/-- In a box as well. -/
theorem Wkn.boxRow {s : Nat → V} {m : Mem} (b o : Nat) (e : TypeId) (sz : Nat) {cs : List V} (hb : m.boxes[b]? = some cs) (hc : cs[o]? = some (.val (.slice none 0 0))) :
    Wkn s m s { m with boxes := m.boxes.set b (cs.set o (.row m.tips.length sz [])), tips := m.tips ++ [(e, sz, 0)] } := by
  intro B I0 w0 M0 wst n a w ⟨M, h1, h2, h3, h4⟩
  have hE := Mp.addN_ext M w
  have h2' := h2.addNil e sz
  refine ⟨M.addN, h1.trans hE, ?_, h3.mono hE, h4⟩
  have hblt := lt_of_some hb
  have hno : isObj cs = false := by
    unfold isObj
    split
    · rename_i l
      cases o with
      | zero => simp at hc
      | succ o => simp at hc
    · rfl
  exact {
    below := h2'.below
    sizeB := h2'.sizeB
    i0 := h2'.i0
    i1 := h2'.i1
    ilt := h2'.ilt
    lβ := by have := h2'.lβ; simpa using this
    nd := h2'.nd
    iβ := fun b1 o1 hI j hb1 => by
      have h5 := h2'.iβ b1 o1 hI j hb1
      have h5' : m.boxes[j]? = some deadC := h5
      by_cases hij : b = j
      · subst hij
        rw [hb] at h5'
        cases h5'
        cases hno
      · exact (List.getElem?_set_ne hij).trans h5'
    box := fun i g ds k1 k2 => by
      by_cases hij : b = i
      · subst hij
        simp only [List.getElem?_set_self hblt] at k2
        obtain rfl := Option.some.inj k2
        obtain ⟨hB, ob, hh, hr⟩ := h2'.box b g cs k1 hb
        have hκ := hr.κ hno
        obtain ⟨vs, T, rfl, hle, hl, ho⟩ := hr.cells hno
        have hsl : (cs.set o (.row m.tips.length sz [])).length = cs.length := by simp
        refine ⟨hB, _, hh, .inl ⟨hκ, vs, T, rfl, by rw [hsl]; exact hle, ?_, by rw [hsl]; exact ho⟩⟩
        rw [hsl]
        refine RepL.of_get (by rw [hl.length, hsl]) (fun j v x hj hx => ?_)
        by_cases hjo : o = j
        · subst hjo
          have hlt := lt_of_some hc
          rw [List.getElem?_set_self hlt] at hj
          obtain rfl := Option.some.inj hj
          obtain ⟨y, hy, hry⟩ := hl.get hc
          rw [hy] at hx
          obtain rfl := Option.some.inj hx
          exact ⟨[], by simp [Mp.addN, ← h2.lγ], .inl ⟨rfl, hry.1⟩⟩
        · rw [List.getElem?_set_ne hjo] at hj
          obtain ⟨y, hy, hry⟩ := hl.get hj
          rw [hy] at hx
          obtain rfl := Option.some.inj hx
          exact hry
      · simp only [List.getElem?_set_ne hij] at k2
        exact h2'.box i g ds k1 k2
    κlt := h2'.κlt
    lγ := h2'.lγ
    row := h2'.row
    gen := h2'.gen
    sep := h2'.sep }
end Go.Av

namespace Go.Av
open Go.RowKit

mutual
/-- It speaks of the first k boxes and the first j rows alone. -/
def V.under (k j : Nat) : V → Bool
  | .val _ => true
  | .agg l => underL k j l
  | .lit _ xs => underX k j xs
  | .full _ xs => underX k j xs
  | .row t _ xs => decide (t < j) && underX k j xs
  | .ptr b _ => decide (b < k)
  | .yld b => decide (b < k)
  | .ref _ b => decide (b < k)
  | .emp _ | .any => true
  | .eptr cs => underL k j cs
  | .func _ cap => underL k j cap
  | .iface _ v => v.under k j
  | .tuple l => underL k j l
  | .alts _ => true
def underL (k j : Nat) : List V → Bool
  | [] => true
  | v :: l => v.under k j && underL k j l
def underX (k j : Nat) : List (List V) → Bool
  | [] => true
  | e :: r => underL k j e && underX k j r
end

def Mp.cut (M : Mp) (k j : Nat) : Mp := { β := M.β.take k, γ := M.γ.take j, I := M.I, κ := fun i => if i < k then M.κ i else none }

mutual
theorem Rep.cut {M : Mp} {w : World} {k j : Nat} : ∀ (v : V) (x : Value), v.under k j = true → Rep M w v x → Rep (M.cut k j) w v x
  | .val _, _, _, h => h
  | .agg l, x, hc, h => by
    obtain ⟨vs, rfl, h⟩ := h
    exact ⟨vs, rfl, RepL.cut l _ (by simpa [V.under] using hc) h⟩
  | .lit sz xs, x, hc, h => by
    exact h.imp id fun ⟨ad, c, h0, h1, h2, h3, h4⟩ => ⟨ad, c, h0, h1, h2, h3, RepX.cut xs _ _ (by simpa [V.under] using hc) h4⟩
  | .full sz xs, x, hc, h => by
    exact h.imp id fun ⟨ad, h0, h2, h3, h4⟩ => ⟨ad, h0, h2, h3, RepX.cut xs _ _ (by simpa [V.under] using hc) h4⟩
  | .emp _, _, _, h => h
  | .any, _, _, _ => trivial
  | .row t sz xs, x, hc, h => by
    obtain ⟨G, h4, h⟩ := h
    simp only [V.under, Bool.and_eq_true, decide_eq_true_eq] at hc
    refine ⟨G, ?_, h.imp id fun ⟨g, c, h0, h1, h2, h3, h5⟩ => ⟨g, c, h0, h1, h2, RepX.cut xs _ _ hc.2 h3, h5⟩⟩
    show (M.γ.take j)[t]? = _
    rw [List.getElem?_take, if_pos hc.1]
    exact h4
  | .ptr b off, x, hc, h => by
    obtain ⟨g, rfl, h⟩ := h
    simp only [V.under, decide_eq_true_eq] at hc
    refine ⟨g, rfl, ?_⟩
    show (M.β.take k)[b]? = _
    rw [List.getElem?_take, if_pos hc]
    exact h
  | .yld b, x, hc, h => by
    obtain ⟨g, rfl, h⟩ := h
    simp only [V.under, decide_eq_true_eq] at hc
    refine ⟨g, rfl, ?_⟩
    show (M.β.take k)[b]? = _
    rw [List.getElem?_take, if_pos hc]
    exact h
  | .ref q b, x, hc, h => by
    obtain ⟨g, c, rfl, h0, h⟩ := h
    simp only [V.under, decide_eq_true_eq] at hc
    refine ⟨g, c, rfl, h0, ?_⟩
    show (M.β.take k)[b]? = _
    rw [List.getElem?_take, if_pos hc]
    exact h
  | .eptr cs, x, hc, h => by
    obtain ⟨ad, rfl, h1, h2⟩ := h
    exact ⟨ad, rfl, h1, RepC.cut cs _ _ (by simpa [V.under] using hc) h2⟩
  | .func f cap, x, hc, h => by
    obtain ⟨vs, rfl, h⟩ := h
    exact ⟨vs, rfl, RepL.cut cap _ (by simpa [V.under] using hc) h⟩
  | .iface t v, x, hc, h => by
    obtain ⟨y, rfl, h⟩ := h
    exact ⟨y, rfl, Rep.cut v y (by simpa [V.under] using hc) h⟩
  | .tuple l, x, hc, h => by
    obtain ⟨vs, rfl, h⟩ := h
    exact ⟨vs, rfl, RepL.cut l _ (by simpa [V.under] using hc) h⟩
  | .alts l, x, _, h => ⟨h.1, RepA.clean (M := M) (M' := M.cut k j) (fun _ _ h => h) l x h.1 h.2⟩
theorem RepL.cut {M : Mp} {w : World} {k j : Nat} : ∀ (l : List V) (m : List Value), underL k j l = true → RepL M w l m → RepL (M.cut k j) w l m
  | [], _, _, h => h
  | v :: l, m, hc, h => by
    obtain ⟨x, r, rfl, h1, h2⟩ := h
    simp only [underL, Bool.and_eq_true] at hc
    exact ⟨x, r, rfl, Rep.cut v x hc.1 h1, RepL.cut l r hc.2 h2⟩
theorem RepC.cut {M : Mp} {w : World} {k j : Nat} : ∀ (l : List V) (b o : Nat), underL k j l = true → RepC M w l b o → RepC (M.cut k j) w l b o
  | [], _, _, _, _ => trivial
  | v :: l, b, o, hc, h => by
    obtain ⟨⟨x, h1, h2, h3, h4⟩, h5⟩ := h
    simp only [underL, Bool.and_eq_true] at hc
    exact ⟨⟨x, h1, h2, h3, Rep.cut v x hc.1 h4⟩, RepC.cut l b (o + 1) hc.2 h5⟩
theorem RepX.cut {M : Mp} {w : World} {k j : Nat} : ∀ (l : List (List V)) (b o : Nat), underX k j l = true → RepX M w l b o → RepX (M.cut k j) w l b o
  | [], _, _, _, _ => trivial
  | e :: r, b, o, hc, h => by
    simp only [underX, Bool.and_eq_true] at hc
    exact ⟨RepC.cut e b o hc.1 h.1, RepX.cut r b (o + e.length) hc.2 h.2⟩
end

section
variable {w w0 : World} {M : Mp} {m : Mem} {B : Nat} {I0 : Nat → Nat → Prop}
theorem Mp.cut_ext (M : Mp) (k j : Nat) {M0 : Mp} {w w' : World} (hE : Ext M0 M w w') (hk : M0.β.length ≤ k) (hj : M0.γ.length ≤ j) : Ext M0 (M.cut k j) w w' where
  β b g h := by
    have := (List.getElem?_eq_some_iff.1 h).1
    show (M.β.take k)[b]? = _
    rw [List.getElem?_take, if_pos (by omega)]
    exact hE.β b g h
  γ t G h := by
    have := (List.getElem?_eq_some_iff.1 h).1
    obtain ⟨G', h1, h2⟩ := hE.γ t G h
    refine ⟨G', ?_, h2⟩
    show (M.γ.take j)[t]? = _
    rw [List.getElem?_take, if_pos (by omega)]
    exact h1
  I := hE.I
  κ i hi := by
    show (if i < k then M.κ i else none) = _
    rw [if_pos (by omega)]
    exact hE.κ i hi

theorem Good.cut (h : Good B I0 w0 M m w) {k j : Nat} (hb : underX k j (m.boxes.take k) = true) : Good B I0 w0 (M.cut k j) ⟨m.boxes.take k, m.tips.take j⟩ w where
  below := h.below
  sizeB := h.sizeB
  i0 := h.i0
  i1 := h.i1
  ilt := h.ilt
  lβ := by
    show (M.β.take k).length = (m.boxes.take k).length
    rw [List.length_take, List.length_take, h.lβ]
  nd i j' g h1 h2 := by
    have h1' : (M.β.take k)[i]? = some g := h1
    have h2' : (M.β.take k)[j']? = some g := h2
    rw [List.getElem?_take] at h1' h2'
    split at h1'
    · split at h2'
      · exact h.nd i j' g h1' h2'
      · cases h2'
    · cases h1'
  iβ b o hi i hb := by
    have hb' : (M.β.take k)[i]? = some b := hb
    show (m.boxes.take k)[i]? = _
    rw [List.getElem?_take] at hb' ⊢
    split at hb'
    · rename_i hlt
      rw [if_pos hlt]
      exact h.iβ b o hi i hb'
    · cases hb'
  box i g cs h1 h2 := by
    have h1' : (M.β.take k)[i]? = some g := h1
    have h2' : (m.boxes.take k)[i]? = some cs := h2
    have hu : underL k j cs = true := by
      have : ∀ {l : List (List V)} {i : Nat}, underX k j l = true → l[i]? = some cs → underL k j cs = true := by
        intro l
        induction l with
        | nil => intro i _ h; simp at h
        | cons e r ih =>
          intro i h h'
          simp only [underX, Bool.and_eq_true] at h
          cases i with
          | zero => simp only [List.getElem?_cons_zero, Option.some.injEq] at h'; subst h'; exact h.1
          | succ i => exact ih h.2 (by simpa using h')
      exact this hb h2'
    rw [List.getElem?_take] at h1' h2'
    split at h1'
    · rename_i hlt
      rw [if_pos hlt] at h2'
      obtain ⟨hB, ob, hh, hr⟩ := h.box i g cs h1' h2'
      exact ⟨hB, ob, hh, by
        unfold BoxRep
        rw [show (M.cut k j).κ i = M.κ i from if_pos (by assumption)]
        exact hr.imp (fun ⟨k0, vs, T, k1, kl, k2, k3⟩ => ⟨k0, vs, T, k1, kl, RepL.cut _ _ hu k2, k3⟩) (Or.imp id (Or.imp id (Or.imp (fun ⟨k0, es, c, k1, k9, k2⟩ => ⟨k0, es, c, k1, k9, RepL.cut _ _ hu k2⟩) id)))⟩
    · cases h1'
  κlt i fam hf := by
    have hf' : (if i < k then M.κ i else none) = some fam := hf
    split at hf'
    · have := h.κlt i fam hf'
      show i < (M.β.take k).length
      rw [List.length_take]
      omega
    · cases hf'
  lγ := by
    show (M.γ.take j).length = (m.tips.take j).length
    rw [List.length_take, List.length_take, h.lγ]
  row t G e sz n h1 h2 := by
    have h1' : (M.γ.take j)[t]? = some G := h1
    have h2' : (m.tips.take j)[t]? = some (e, sz, n) := h2
    rw [List.getElem?_take] at h1' h2'
    split at h1'
    · rename_i hlt
      rw [if_pos hlt] at h2'
      exact h.row t G e sz n h1' h2'
    · cases h1'
  gen t G x h1 hx := by
    have h1' : (M.γ.take j)[t]? = some G := h1
    rw [List.getElem?_take] at h1'
    split at h1'
    · obtain ⟨k1, k2, k3⟩ := h.gen t G x h1' hx
      exact ⟨k1, k2, fun hm => k3 (List.mem_of_mem_take hm)⟩
    · cases h1'
  sep t t' G G' x x' h1 h2 hx hx' he := by
    have h1' : (M.γ.take j)[t]? = some G := h1
    have h2' : (M.γ.take j)[t']? = some G' := h2
    rw [List.getElem?_take] at h1' h2'
    split at h1'
    · split at h2'
      · exact h.sep t t' G G' x x' h1' h2' hx hx' he
      · cases h2'
    · cases h1'

end
/-- What is left behind a round: all, or what was there ahead of it. -/
def CutM (m0 m m2 : Mem) : Prop := m2 = m ∨ (underX m0.boxes.length m0.tips.length (m.boxes.take m0.boxes.length) = true ∧ m2 = ⟨m.boxes.take m0.boxes.length, m.tips.take m0.tips.length⟩)
end Go.Av

namespace Go.Av
open Go.RowKit

def opsWp (q : Bool) (P : Program) (Y : YRel) : List O → (Nat → V) → Mem → ((Nat → V) → Mem → Prop) → Prop
  | [], s, m, K => K s m
  | o :: r, s, m, K => ∃ v m', stepR q P Y o s m v m' ∧ opsWp q P Y r (put o.d v s) m' K

/-- In the order of the text: an answer may be one of some, each by itself. -/
def opsWpS (P : Program) (Y : YRel) : List O → (Nat → V) → Mem → ((Nat → V) → Mem → Prop) → Prop
  | [], s, m, K => K s m
  | o :: r, s, m, K => ∃ v m', stepR false P Y o s m v m' ∧ (opsWpS P Y r (put o.d v s) m' K ∨ ∃ d l, o.d = some d ∧ v = .alts l ∧ ∀ u ∈ l, opsWpS P Y r (put o.d u s) m' K)
theorem opsWpS_of {P : Program} {Y : YRel} {K K' : (Nat → V) → Mem → Prop} (hk : ∀ s m, K s m → K' s m) : ∀ (l : List O) (s : Nat → V) (m : Mem), opsWp false P Y l s m K → opsWpS P Y l s m K'
  | [], s, m, h => hk s m h
  | _ :: r, _, _, ⟨v, m', h1, h2⟩ => ⟨v, m', h1, .inl (opsWpS_of hk r _ _ h2)⟩
theorem opsWpS_mono {P : Program} {Y : YRel} {K K' : (Nat → V) → Mem → Prop} (hk : ∀ s m, K s m → K' s m) : ∀ (l : List O) (s : Nat → V) (m : Mem), opsWpS P Y l s m K → opsWpS P Y l s m K'
  | [], s, m, h => hk s m h
  | _ :: r, _, _, ⟨v, m', h1, h2⟩ => ⟨v, m', h1, h2.imp (opsWpS_mono hk r _ _) fun ⟨d, l, k1, k2, k3⟩ => ⟨d, l, k1, k2, fun u hu => opsWpS_mono hk r _ _ (k3 u hu)⟩⟩
theorem IW.mono {I J : (Nat → V) → Mem → Prop} (h : ∀ s m, I s m → J s m) {s : Nat → V} {m : Mem} (k : IW I s m) : IW J s m := by
  obtain ⟨s0, m0, h1, h2⟩ := k
  exact ⟨s0, m0, h1, h s0 m0 h2⟩
theorem AT.alts {B : Nat} {I0 : Nat → Nat → Prop} {w0 wst w : World} {M0 : Mp} {n : Nat} {s : Nat → V} {m : Mem} {a : Act} {d : Nat} {l : List V} (h : AT B I0 w0 M0 wst n (put (some d) (.alts l) s) m a w) : ∃ u ∈ l, AT B I0 w0 M0 wst n (put (some d) u s) m a w := by
  obtain ⟨M, h1, h2, h3, h4⟩ := h
  have hd := h3.2 d
  have e : put (some d) (.alts l) s d = .alts l := if_pos rfl
  rw [e] at hd
  obtain ⟨u, hu, hr⟩ := repA_iff.1 hd.2
  refine ⟨u, hu, M, h1, h2, ⟨h3.1, fun t => ?_⟩, h4⟩
  show Rep M w (if t = d then u else s t) _
  split
  · rename_i e; subst e; exact hr
  · rename_i e
    have := h3.2 t
    rwa [show put (some d) (.alts l) s t = s t from if_neg e] at this

inductive C where
  | skip
  | ret
  | exit (id : Nat)
  | goto (l : Nat)
  | ops (l : List O)
  | dops (q : Bool) (sp : List (Nat × Nat)) (l : List O)
  | seq (a b : C)
  | cond (x : X) (a b : C)
  | block (id : Nat) (c : C)
  | loop (c : C)
  | scope (c : C)
  | label (l : Nat)
  | scopeJ (c : C) (l : Nat) (r : C)
  | rangeF (inr : Bool) (x : X) (ps : List Nat) (a b : C)
  | dead

def putAll : List Nat → List V → (Nat → V) → Nat → V
  | p :: ps, v :: vs, s => putAll ps vs (put (some p) v s)
  | _, _, s => s
/-- How a round is left, as the loop keeps it. -/
def St.of : Exit → Option St
  | .normal => some .ready
  | .exit id => some (.exit id)
  | .goto l => some (.goto l)
  | .ret => some .ret
  | _ => none
def St.out : St → Exit
  | .exit id => .exit id
  | .goto l => .goto l
  | .ret => .ret
  | _ => .normal
def St.cont : St → Bool
  | .ready => true
  | _ => false
/-- One more 'yield'. -/
def addY (Y : YRel) (L : Nat) (Rd : List V → Mem → V → Mem → Prop) : YRel := fun b args m v m' => Y b args m v m' ∨ (b = L ∧ Rd args m v m')
/-- Where the loop's record lies. -/
def loopAt (inr : Bool) (m : Mem) : Nat := m.boxes.length + (if inr = true then 0 else 1)
def loopMem (inr : Bool) (m : Mem) : Mem := { m with boxes := m.boxes ++ (if inr = true then [] else [[St.ready.v]]) ++ [[St.ready.v]] }
/-- Two pointers are of two boxes. -/
def sepV (u v : V) : Prop := ∀ b o b' o', u = .ptr b o → v = .ptr b' o' → b ≠ b'
def sepAll (s : Nat → V) : List (Nat × Nat) → Prop
  | [] => True
  | p :: r => sepV (s p.1) (s p.2) ∧ sepAll s r

def vwp (P : Program) (Y : YRel) : C → (Nat → V) → Mem → (Exit → (Nat → V) → Mem → Prop) → Prop
  | .skip, s, m, Q => Q .normal s m
  | .ret, s, m, Q => Q .ret s m
  | .exit id, s, m, Q => Q (.exit id) s m
  | .goto l, s, m, Q => Q (.goto l) s m
  | .ops l, s, m, Q => opsWpS P Y l s m (IW (Q .normal))
  | .dops q sp l, s, m, Q => opsWp q P Y l s m fun s' m' => sepAll s' sp ∧ Q .normal s' m'
  | .seq a b, s, m, Q => vwp P Y a s m fun e s' m' => match e with
    | .normal => vwp P Y b s' m' Q
    | e => Q e s' m'
  | .cond x a b, s, m, Q => ∃ t, x.ev s = .val (.bool t) ∧ (if t = true then vwp P Y a s m Q else vwp P Y b s m Q)
  | .block id c, s, m, Q => vwp P Y c s m fun e s' m' => match e with
    | .exit i => if i = id then Q .normal s' m' else Q (.exit i) s' m'
    | e => Q e s' m'
  | .loop c, s, m, Q => ∃ I : Nat → (Nat → V) → Mem → Prop, (∃ k, IW (I k) s m) ∧ ∀ k s1 m1, I k s1 m1 → vwp P Y c s1 m1 fun e s' m' => match e with
    | .normal => ∃ j, j < k ∧ IW (I j) s' m'
    | e => Q e s' m'
  | .scope c, s, m, Q => vwp P Y c s m fun e s' m' => match e with
    | .goto _ => False
    | e => Q e s' m'
  | .label _, s, m, Q => Q .normal s m
  | .scopeJ c l r, s, m, Q => ∃ J : Nat → (Nat → V) → Mem → Prop, (vwp P Y c s m fun e s' m' => match e with
    | .goto l' => l' = l ∧ ∃ k, IW (J k) s' m'
    | e => Q e s' m') ∧ ∀ k s1 m1, J k s1 m1 → vwp P Y r s1 m1 fun e s' m' => match e with
      | .goto l' => l' = l ∧ ∃ j, j < k ∧ IW (J j) s' m'
      | e => Q e s' m'
  | .rangeF inr x ps a b, s, m, Q => ∃ (f : FuncId) (cap : List V) (v : V) (mE : Mem) (st : St), x.ev s = .func f cap ∧
      LocY P (addY Y (loopAt inr m) fun args m1 v1 m2 => args.length = ps.length ∧ vwp P Y a (putAll ps args s) m1 fun e s1 m1' => e = .normal ∧ m1'.boxes[loopAt inr m]? = some [St.ready.v] ∧
        vwp P Y b s1 { m1' with boxes := m1'.boxes.set (loopAt inr m) [St.busy.v] } fun e _ m2' => m2'.boxes[loopAt inr m]? = some [St.busy.v] ∧
          ∃ st : St, St.of e = some st ∧ v1 = .val (.bool st.cont) ∧ CutM m1 { m2' with boxes := m2'.boxes.set (loopAt inr m) [st.v] } m2) f (.yld (loopAt inr m) :: cap) (loopMem inr m) v mE ∧
      mE.boxes[loopAt inr m]? = some [st.v] ∧ st ≠ .busy ∧ Q st.out s mE
  | .dead, _, _, _ => False

theorem opsWp_mono {q : Bool} {P : Program} {Y : YRel} {K K' : (Nat → V) → Mem → Prop} (hk : ∀ s m, K s m → K' s m) : ∀ (l : List O) (s : Nat → V) (m : Mem), opsWp q P Y l s m K → opsWp q P Y l s m K'
  | [], s, m, h => hk s m h
  | _ :: r, _, _, ⟨v, m', h1, h2⟩ => ⟨v, m', h1, opsWp_mono hk r _ _ h2⟩
theorem vwp_mono {P : Program} {Y : YRel} : ∀ (c : C) {Q Q' : Exit → (Nat → V) → Mem → Prop} (s : Nat → V) (m : Mem), (∀ e s m, Q e s m → Q' e s m) → vwp P Y c s m Q → vwp P Y c s m Q'
  | .skip, _, _, s, m, hq, h => hq _ _ _ h
  | .ret, _, _, s, m, hq, h => hq _ _ _ h
  | .exit id, _, _, s, m, hq, h => hq _ _ _ h
  | .goto l, _, _, s, m, hq, h => hq _ _ _ h
  | .ops l, _, _, s, m, hq, h => opsWpS_mono (fun _ _ h => h.mono fun _ _ h => hq _ _ _ h) l s m h
  | .dops q sp l, _, _, s, m, hq, h => opsWp_mono (fun _ _ h => ⟨h.1, hq _ _ _ h.2⟩) l s m h
  | .seq a b, _, _, s, m, hq, h => vwp_mono a s m (fun e s' m' h' => by
      cases e with
      | normal => exact vwp_mono b s' m' hq h'
      | _ => exact hq _ _ _ h') h
  | .cond x a b, _, _, s, m, hq, h => by
      obtain ⟨t, h1, h2⟩ := h
      refine ⟨t, h1, ?_⟩
      cases t
      · exact vwp_mono b s m hq h2
      · exact vwp_mono a s m hq h2
  | .block id c, _, _, s, m, hq, h => vwp_mono c s m (fun e s' m' h' => by
      cases e with
      | exit i =>
        by_cases e : i = id
        · simp only [e, if_true] at h' ⊢; exact hq _ _ _ h'
        · simp only [e, if_false] at h' ⊢; exact hq _ _ _ h'
      | _ => exact hq _ _ _ h') h
  | .loop c, _, _, s, m, hq, h => by
      obtain ⟨I, h1, h2⟩ := h
      refine ⟨I, h1, fun k s1 m1 hi => vwp_mono c s1 m1 (fun e s' m' h' => ?_) (h2 k s1 m1 hi)⟩
      cases e with
      | normal => exact h'
      | _ => exact hq _ _ _ h'
  | .scope c, _, _, s, m, hq, h => vwp_mono c s m (fun e s' m' h' => by
      cases e with
      | goto l => exact h'
      | _ => exact hq _ _ _ h') h
  | .label l, _, _, s, m, hq, h => hq _ _ _ h
  | .scopeJ c l r, _, _, s, m, hq, h => by
      obtain ⟨J, h1, h2⟩ := h
      refine ⟨J, vwp_mono c s m (fun e s' m' h' => ?_) h1, fun k s1 m1 hj => vwp_mono r s1 m1 (fun e s' m' h' => ?_) (h2 k s1 m1 hj)⟩
      · cases e with
        | goto l => exact h'
        | _ => exact hq _ _ _ h'
      · cases e with
        | goto l => exact h'
        | _ => exact hq _ _ _ h'
  | .rangeF inr x ps a b, _, _, s, m, hq, h => by
      obtain ⟨f, cap, v, mE, st, h1, h2, h3, h4, h5⟩ := h
      exact ⟨f, cap, v, mE, st, h1, h2, h3, h4, hq _ _ _ h5⟩
  | .dead, _, _, _, _, _, h => h.elim

section
variable {P : Program} {a : Act} {w wst : World} {M M0 : Mp} {m : Mem} {n : Nat} {s : Nat → V} {B : Nat} {I0 : Nat → Nat → Prop} {w0 : World} {own : Nat → Bool} {Y : YRel} {rd : Option Nat} {N : Nat}

/-- The concrete claim. -/
def Up (B : Nat) (I0 : Nat → Nat → Prop) (w0 : World) (M0 : Mp) (wst : World) (n : Nat) (Q : Exit → (Nat → V) → Mem → Prop) (e : Exit) (a : Act) (w : World) : Prop :=
  ∃ s m, AT B I0 w0 M0 wst n s m a w ∧ Q e s m

theorem ops_sound (hY : YOk P Y M0 wst) {ops : Array Oper} {Q : Exit → Act → World → Prop} {K : (Nat → V) → Mem → Prop} (hK : ∀ s m a w, AT B I0 w0 M0 wst n s m a w → K s m → Q .normal a w) :
    ∀ (L : List O) (i : Nat) (s : Nat → V) (m : Mem) (a : Act) (w : World), (ops.toList.drop i).mapM (compOp P n own ops) = some L → AT B I0 w0 M0 wst n s m a w → opsWpS P Y L s m K →
      wpOpsIn (fen rd) N P ops Q (List.range' i L.length) a w
  | [], i, s, m, a, w, hc, hat, h => hK s m a w hat h
  | o :: L, i, s, m, a, w, hc, hat, h => by
    cases hd : ops.toList.drop i with
    | nil => rw [hd] at hc; simp at hc
    | cons c r =>
      rw [hd] at hc
      simp only [List.mapM_cons, Option.pure_def, Option.bind_eq_bind, Option.bind_eq_some_iff] at hc
      obtain ⟨o', ho, L', hL, e⟩ := hc
      cases e
      obtain ⟨v, m', h1, h2⟩ := h
      have hi : ops[i]? = some c := by
        have : ops.toList[i]? = some c := by
          have h0 : (ops.toList.drop i)[0]? = some c := by rw [hd]; rfl
          simpa using h0
        simpa using this
      have hr : ops.toList.drop (i + 1) = r := by
        rw [← List.drop_drop, hd]; rfl
      show wpOpsIn (fen rd) N P ops Q (i :: List.range' (i + 1) L.length) a w
      simp only [wpOpsIn, hi]
      refine step_sound ho h1 hat hY fun a' w' hat' => ?_
      rcases h2 with h2 | ⟨d, l, k1, k2, k3⟩
      · exact ops_sound hY hK L (i + 1) _ _ a' w' (by rw [hr]; exact hL) hat' h2
      · subst k2
        rw [k1] at hat' k3
        obtain ⟨u, hu, hat2⟩ := hat'.alts
        exact ops_sound hY hK L (i + 1) _ _ a' w' (by rw [hr]; exact hL) hat2 (k3 u hu)

/-- A loop: what holds at each round, by a number that falls. -/
theorem wp_loop_by {F : Fence} {c : Code} {Q : Exit → Act → World → Prop} (I : Nat → Act → World → Prop)
    (round : ∀ k a w, I k a w → c.wpIn F N P (Exit.then (fun a' w' => ∃ j, j < k ∧ I j a' w') Q) a w) {a : Act} {w : World} {k : Nat} (h0 : I k a w) : (Code.loop c).wpIn F N P Q a w := by
  intro b ks cs hro hb hr
  have key : ∀ j a w, I j a w → ∃ e a' w', Q e a' w' ∧ ArrivesIn (Machine.fenced P F) P (lone (b.atR a (.code c :: .inLoop c :: ks)) cs w) b ks cs e a' w' := by
    intro j
    induction j using Nat.strongRecOn with
    | _ j ih =>
      intro a w hI
      obtain ⟨e, a1, w1, hq, harr⟩ := round j a w hI b (.inLoop c :: ks) cs hro hb hr
      cases e with
      | normal =>
        obtain ⟨i, hj, hI1⟩ := hq
        obtain ⟨e2, a2, w2, hq2, harr2⟩ := ih i hj a1 w1 hI1
        exact ⟨e2, a2, w2, hq2, .of_steps (StepsIn.trans harr (.one (fenced_calm hb hr rfl) stepR_inLoop)) harr2⟩
      | _ => exact ⟨_, a1, w1, hq, .pass (x := .inLoop c) rfl (fun _ _ => .inl (by simp)) harr⟩
  obtain ⟨e, a', w', hq, harr⟩ := key k a w h0
  exact ⟨e, a', w', hq, .of_steps (.one (fenced_calm hb hr rfl) stepR_loop) harr⟩
end
end Go.Av

namespace Go.Av
open Go.RowKit

def X.sl : X → List Nat
  | .t n => [n]
  | _ => []
def oSl : Option X → List Nat
  | some x => x.sl
  | none => []
def K.sl : K → List Nat
  | .mov x | .un _ x | .conv _ x | .snil _ x | .ext x _ | .fad x _ | .ld x _ | .lde x _ | .fld x _ _ | .len x | .slen x | .box x | .b2s x | .srg x | .snx x => x.sl
  | .mkm => []
  | .mup x k y => x.sl ++ k.sl ++ y.sl
  | .mlk x k _ _ => x.sl ++ k.sl
  | .pick c a b => c.sl ++ a.sl ++ b.sl
  | .bin _ x y | .beq _ x y | .st x _ y | .ixs x y _ | .ixa x y _ _ | .mm _ x y | .app x y _ _ _ _ | .mks x y _ _ _ _ _ | .sidx x y => x.sl ++ y.sl
  | .slc x lo hi mx _ => x.sl ++ oSl lo ++ oSl hi ++ oSl mx
  | .alc _ | .alr _ _ | .nil _ _ _ | .dead => []
  | .bld _ ps => ps.flatMap (·.2.2.sl)
  | .mkl _ _ xs _ => xs.flatMap X.sl
  | .mkf _ xs => xs.flatMap X.sl
  | .call _ xs => xs.flatMap X.sl
  | .callq _ xs => xs.flatMap X.sl
  | .callv x xs => x.sl ++ xs.flatMap X.sl
  | .callf x xs _ => x.sl ++ xs.flatMap X.sl
  | .callr x xs => x.sl ++ xs.flatMap X.sl
  | .mem _ xs => xs.flatMap X.sl
def O.sl (o : O) : List Nat := (match o.g with | some (d, _) => [d] | none => []) ++ o.k.sl

section
variable {s s' : Nat → V} {m : Mem}
theorem X.ev_congr {x : X} (h : ∀ t ∈ x.sl, s t = s' t) : x.ev s = x.ev s' := by
  cases x with
  | t n => exact h n (by simp [X.sl])
  | _ => rfl
theorem xs_congr : ∀ {xs : List X}, (∀ t ∈ xs.flatMap X.sl, s t = s' t) → xs.map (·.ev s) = xs.map (·.ev s')
  | [], _ => rfl
  | x :: xs, h => by
    simp only [List.flatMap_cons, List.mem_append] at h
    rw [List.map_cons, List.map_cons, X.ev_congr fun t ht => h t (.inl ht), xs_congr fun t ht => h t (.inr ht)]
theorem fillV_congr : ∀ {ps : List (Nat × Nat × X)} (cs : List V), (∀ t ∈ ps.flatMap (fun p => p.2.2.sl), s t = s' t) → fillV cs s ps = fillV cs s' ps
  | [], _, _ => rfl
  | (off, n, x) :: r, cs, h => by
    simp only [List.flatMap_cons, List.mem_append] at h
    have h1 : x.ev s = x.ev s' := X.ev_congr fun t ht => h t (.inl ht)
    simp only [fillV, h1]
    split
    · exact fillV_congr _ fun t ht => h t (.inr ht)
    · rfl
theorem oEv_congr {x : Option X} (h : ∀ t ∈ oSl x, s t = s' t) : x.map (·.ev s) = x.map (·.ev s') := by
  cases x with
  | none => rfl
  | some x => simp only [Option.map_some]; rw [X.ev_congr h]
theorem kindE_congr {k : K} (h : ∀ t ∈ k.sl, s t = s' t) : kindE k s m = kindE k s' m := by
  cases k with
  | pick c a b =>
    simp only [K.sl, List.mem_append] at h
    simp only [kindE, X.ev_congr (x := c) fun t ht => h t (.inl (.inl ht)), X.ev_congr (x := a) fun t ht => h t (.inl (.inr ht)), X.ev_congr (x := b) fun t ht => h t (.inr ht)]
  | bin op x y | beq ne x y | st x n y | ixs x y z | ixa x y z l | mm b x y | app x y e z b o | mks x y e z b l o | sidx x y =>
    simp only [K.sl, List.mem_append] at h
    simp only [kindE, X.ev_congr (x := x) fun t ht => h t (.inl ht), X.ev_congr (x := y) fun t ht => h t (.inr ht)]
  | slc x lo hi mx sz =>
    simp only [K.sl, List.mem_append] at h
    have h1 := X.ev_congr (x := x) fun t ht => h t (.inl (.inl (.inl ht)))
    have h2 := oEv_congr (x := lo) fun t ht => h t (.inl (.inl (.inr ht)))
    have h3 := oEv_congr (x := hi) fun t ht => h t (.inl (.inr ht))
    have h4 := oEv_congr (x := mx) fun t ht => h t (.inr ht)
    have hm : ∀ i, mxOk s mx i = mxOk s' mx i := by
      intro i
      cases mx with
      | none => rfl
      | some y => simp only [Option.map_some, Option.some.injEq] at h4; simp only [mxOk, h4]
    cases lo <;> cases hi <;> simp only [Option.map_some, Option.map_none, Option.some.injEq] at h2 h3 <;> simp only [kindE, h1, hm, h2, h3]
  | alc z => rfl
  | alr e z => rfl
  | nil e z o => rfl
  | dead => rfl
  | mkm => rfl
  | mup x k y =>
    simp only [K.sl, List.mem_append] at h
    simp only [kindE, X.ev_congr (x := x) fun t ht => h t (.inl (.inl ht)), X.ev_congr (x := k) fun t ht => h t (.inl (.inr ht)), X.ev_congr (x := y) fun t ht => h t (.inr ht)]
  | mlk x k z ok =>
    simp only [K.sl, List.mem_append] at h
    simp only [kindE, X.ev_congr (x := x) fun t ht => h t (.inl ht), X.ev_congr (x := k) fun t ht => h t (.inr ht)]
  | bld z ps =>
    simp only [K.sl] at h
    have h1 : (ps.all fun p => (p.2.2.ev s).cells.all V.one) = ps.all fun p => (p.2.2.ev s').cells.all V.one := by
      have : ∀ {ps : List (Nat × Nat × X)}, (∀ t ∈ ps.flatMap (fun p => p.2.2.sl), s t = s' t) → (ps.all fun p => (p.2.2.ev s).cells.all V.one) = ps.all fun p => (p.2.2.ev s').cells.all V.one := by
        intro ps
        induction ps with
        | nil => intro _; rfl
        | cons p r ih =>
          intro h
          simp only [List.flatMap_cons, List.mem_append] at h
          simp only [List.all_cons, X.ev_congr (x := p.2.2) fun t ht => h t (.inl ht), ih fun t ht => h t (.inr ht)]
      exact this h
    simp only [kindE, h1, fillV_congr z h]
  | mkl e sz xs own =>
    simp only [K.sl] at h
    have h1 : (xs.map fun x => (x.ev s).cells) = xs.map fun x => (x.ev s').cells := by
      have := congrArg (List.map V.cells) (xs_congr h)
      simpa [List.map_map, Function.comp_def] using this
    simp only [kindE, h1]
  | mkf f xs => simp only [K.sl] at h; simp only [kindE, xs_congr h]
  | mem mo xs => simp only [K.sl] at h; simp only [kindE, xs_congr h]
  | call f xs => rfl
  | callq f xs => rfl
  | callv x xs => rfl
  | callf x xs fr => rfl
  | callr x xs => rfl
  | mov x | un op x | conv ik x | snil ne x | ext x i | fad x q | ld x z | lde x z | fld x q z | len x | slen x | box x | b2s x | srg x | snx x => simp only [K.sl] at h; simp only [kindE, X.ev_congr h]

theorem stepR_congr {q : Bool} {P : Program} {Y : YRel} {o : O} {v : V} {m' : Mem} (hw : o.weak = o) (h : ∀ t ∈ o.sl, s t = s' t) (hs : stepR q P Y o s m v m') : stepR q P Y o s' m v m' := by
  have hk : ∀ t ∈ o.k.sl, s t = s' t := fun t ht => h t (by simp [O.sl, ht])
  have hg : ∀ {d : Nat} {want : Bool}, o.g = some (d, want) → s d = s' d := fun {d} {want} e => h d (by simp [O.sl, e])
  have key : kindR q P Y o.k s m v m' → kindR q P Y o.k s' m v m' := by
    intro hr
    cases hok : o.k with
    | call f xs =>
      rw [hok] at hr hk
      have hk' : xs.map (·.ev s) = xs.map (·.ev s') := xs_congr hk
      show CallG q P Y f (xs.map (·.ev s')) m v m'
      rw [← hk']
      exact hr
    | callf x xs fr =>
      have : o.weak.k = o.k := by rw [hw]
      unfold O.weak at this
      simp only [hok] at this
      cases x <;> simp [K.weak] at this
    | callr x xs =>
      have : o.weak.k = o.k := by rw [hw]
      unfold O.weak at this
      simp only [hok] at this
      cases x <;> simp [K.weak] at this
    | callq f xs =>
      rw [hok] at hr hk
      have hk' : xs.map (·.ev s) = xs.map (·.ev s') := xs_congr hk
      show CallG true P Y f (xs.map (·.ev s')) m v m'
      rw [← hk']
      exact hr
    | callv x xs =>
      rw [hok] at hr hk
      simp only [K.sl, List.mem_append] at hk
      have hk2 : xs.map (·.ev s) = xs.map (·.ev s') := xs_congr fun t ht => hk t (.inr ht)
      have hk1 := X.ev_congr (x := x) fun t ht => hk t (.inl ht)
      refine hr.imp (fun ⟨f, cap, h1, h2⟩ => ?_) (fun ⟨hq, b, h1, h2⟩ => ⟨hq, b, by rw [← hk1]; exact h1, by rw [← hk2]; exact h2⟩)
      refine ⟨f, cap, ?_, ?_⟩
      · rw [← X.ev_congr (x := x) fun t ht => hk t (.inl ht)]; exact h1
      · have hk' : xs.map (·.ev s) = xs.map (·.ev s') := xs_congr fun t ht => hk t (.inr ht)
        show CallG q P Y f (xs.map (·.ev s') ++ cap) m v m'
        rw [← hk']
        exact h2
    | _ =>
      rw [hok] at hr hk
      unfold kindR at hr ⊢
      simp only at hr ⊢
      rwa [← kindE_congr hk]
  unfold stepR at hs ⊢
  split
  · rename_i e
    rw [e] at hs
    exact key hs
  · rename_i d want e
    rw [e] at hs
    rw [← hg e]
    exact hs.imp (fun ⟨h1, h2⟩ => ⟨h1, key h2⟩) id

/-- 0: of no memory; 1: it reads boxes; 2: it makes memory; 3: it changes it. -/
def K.cls (q : Bool) : K → Nat
  | .ld _ _ => 1
  | .alc _ | .alr _ _ | .box _ | .app .. | .srg _ => 2
  | .nil _ _ own => if own = true then 2 else 0
  | .snx _ | .mup .. | .mkm | .mlk .. => 3
  | .mem (.ixr _) _ | .mem .lnr _ | .mem (.aeq _ _) _ | .mem .nck _ | .mem (.cvf _) _ | .mem .cpx _ | .mem (.rei _) _ | .mem (.eml _) _ => 0
  | .mem (.mkb ..) _ | .mem (.apb ..) _ => 2
  | .mem .frz _ => 3
  | .mkl _ _ _ own => if own = true then 2 else 0
  | .mks _ _ _ _ _ _ own => if own = true then 2 else 0
  | .st .. => 3
  | .call .. | .callv .. => if q = true then 0 else 3
  | .callf .. => 3
  | .callr .. => 1
  | _ => 0

theorem newV_false {m m' : Mem} {e sz : Nat} {xs : List (List V)} {v : V} (h : newV false m e sz xs = (v, m')) : m' = m ∧ ∀ m1, newV false m1 e sz xs = (v, m1) := by
  simp only [newV, Bool.false_eq_true, if_false, Prod.mk.injEq] at h ⊢
  exact ⟨h.2.symm, fun m1 => ⟨h.1, trivial⟩⟩

theorem kind_cls0 {q : Bool} {P : Program} {Y : YRel} {k : K} {v : V} {m' : Mem} (hc : k.cls q = 0) (h : kindR q P Y k s m v m') : m' = m ∧ ∀ m1, kindR q P Y k s m1 v m1 := by
  cases k with
  | call f xs =>
    cases q with
    | false => simp [K.cls] at hc
    | true => exact ⟨h.2, fun m1 => ⟨h.1, rfl⟩⟩
  | callv x xs =>
    cases q with
    | false => simp [K.cls] at hc
    | true =>
      rcases h with ⟨f, cap, h1, h2⟩ | ⟨h1, _⟩
      · exact ⟨h2.2, fun m1 => .inl ⟨f, cap, h1, h2.1, rfl⟩⟩
      · cases h1
  | callq f xs => exact ⟨h.2, fun m1 => ⟨h.1, rfl⟩⟩
  | callf f xs fr => simp [K.cls] at hc
  | callr f xs => simp [K.cls] at hc
  | ld x z => simp [K.cls] at hc
  | alc z => simp [K.cls] at hc
  | alr e sz => simp [K.cls] at hc
  | nil e sz own =>
    cases own with
    | true => simp [K.cls] at hc
    | false =>
      unfold kindR at h ⊢
      simp only [kindE, Option.some.injEq] at h ⊢
      exact newV_false h
  | box x => simp [K.cls] at hc
  | srg x => simp [K.cls] at hc
  | snx x => simp [K.cls] at hc
  | mkm => simp [K.cls] at hc
  | mup x k y => simp [K.cls] at hc
  | mlk x k z ok => simp [K.cls] at hc
  | mem mo xs =>
    cases mo with
    | frz => simp [K.cls] at hc
    | mkb e sz bytes z => simp [K.cls] at hc
    | lnr =>
      unfold kindR at h ⊢
      simp only [kindE, memE] at h ⊢
      split at h
      · cases h; exact ⟨rfl, fun m1 => rfl⟩
      · cases h
    | apb e sz bytes => simp [K.cls] at hc
    | eml sz =>
      unfold kindR at h ⊢
      simp only [kindE, memE] at h ⊢
      split at h
      · cases h; exact ⟨rfl, fun m1 => rfl⟩
      · cases h
    | nck =>
      unfold kindR at h ⊢
      simp only [kindE, memE] at h ⊢
      split at h
      · cases h; exact ⟨rfl, fun m1 => rfl⟩
      · cases h; exact ⟨rfl, fun m1 => rfl⟩
      · cases h
    | cvf k =>
      unfold kindR at h ⊢
      simp only [kindE, memE] at h ⊢
      split at h
      · cases h; exact ⟨rfl, fun m1 => rfl⟩
      · cases h
    | rei im =>
      unfold kindR at h ⊢
      simp only [kindE, memE] at h ⊢
      split at h
      · cases h; exact ⟨rfl, fun m1 => rfl⟩
      · cases h
    | cpx =>
      unfold kindR at h ⊢
      simp only [kindE, memE] at h ⊢
      split at h
      · split at h
        · rename_i hcd; cases h; exact ⟨rfl, fun m1 => by rw [if_pos hcd]⟩
        · cases h
      · cases h
    | aeq ne ks =>
      unfold kindR at h ⊢
      simp only [kindE, memE] at h ⊢
      split at h
      · split at h
        · cases h; exact ⟨rfl, fun m1 => rfl⟩
        · cases h
      · cases h
    | ixr sz =>
      unfold kindR at h ⊢
      simp only [kindE, memE] at h ⊢
      split at h
      · split at h
        · rename_i hcd; cases h; exact ⟨rfl, fun m1 => by rw [if_pos hcd]⟩
        · cases h
      · cases h
  | app x y e z b o => simp [K.cls] at hc
  | st x z y => simp [K.cls] at hc
  | mkl e sz xs own =>
    cases own with
    | true => simp [K.cls] at hc
    | false =>
      unfold kindR at h ⊢
      simp only [kindE] at h ⊢
      split at h
      · rename_i hx
        simp only [Option.some.injEq] at h
        obtain ⟨h1, h2⟩ := newV_false h
        exact ⟨h1, fun m1 => by rw [if_pos hx, h2]⟩
      · cases h
  | mks x y e sz b z own =>
    cases own with
    | true => simp [K.cls] at hc
    | false =>
      unfold kindR at h ⊢
      simp only [kindE] at h ⊢
      split at h
      · split at h
        · rename_i h3
          simp only [Option.some.injEq] at h
          obtain ⟨h1, h2⟩ := newV_false h
          exact ⟨h1, fun m1 => by rw [if_pos h3, h2]⟩
        · cases h
      · cases h
  | mov x => unfold kindR at h ⊢; simp only [kindE, Option.some.injEq, Prod.mk.injEq] at h ⊢; exact ⟨h.2.symm, fun m1 => ⟨h.1, trivial⟩⟩
  | mm mx x y =>
    unfold kindR at h ⊢
    simp only [kindE] at h ⊢
    split at h
    · rename_i e1 e2
      simp only [Option.some.injEq, Prod.mk.injEq] at h
      obtain ⟨rfl, rfl⟩ := h
      exact ⟨rfl, fun m1 => rfl⟩
    · cases h
  | bld z ps =>
    unfold kindR at h ⊢
    simp only [kindE] at h ⊢
    split at h
    · rename_i hx
      simp only [Option.map_eq_some_iff, Prod.mk.injEq] at h
      obtain ⟨y, h1, rfl, rfl⟩ := h
      exact ⟨rfl, fun m1 => by rw [if_pos hx, h1]; rfl⟩
    · cases h
  | _ =>
    unfold kindR at h ⊢
    simp only [kindE] at h ⊢
    first
      | (simp only [Option.map_eq_some_iff, Prod.mk.injEq] at h ⊢; obtain ⟨y, h1, h2, h3⟩ := h; exact ⟨h3.symm, fun m1 => ⟨y, h1, h2, rfl⟩⟩)
      | (repeat' split at h
         all_goals first
           | (simp only [Option.some.injEq, Prod.mk.injEq] at h; obtain ⟨rfl, rfl⟩ := h; refine ⟨rfl, fun m1 => ?_⟩; simp_all)
           | (simp only [Option.map_eq_some_iff, Prod.mk.injEq] at h; obtain ⟨y, h1, rfl, rfl⟩ := h; refine ⟨rfl, fun m1 => ?_⟩; simp_all)
           | (exfalso; simp at h; done))

/-- The box that is read, or written. -/
def K.ldB (s : Nat → V) (k : K) (b : Nat) : Prop := match k with
  | .ld x _ => ∃ o, x.ev s = .ptr b o
  | .callr _ _ => True
  | _ => False
def K.stB (s : Nat → V) : K → Option Nat
  | .st x _ _ => match x.ev s with
    | .ptr b _ => some b
    | _ => none
  | _ => none
/-- A box is as it was. -/
def Mem.at1 (b : Nat) (m m1 : Mem) : Prop := ∀ (cs : List V), m.boxes[b]? = some cs → m1.boxes[b]? = some cs

theorem kind_cls1 {q : Bool} {P : Program} {Y : YRel} {k : K} {v : V} {m' : Mem} (hc : k.cls q = 1) (h : kindR q P Y k s m v m') : m' = m ∧ ∀ m1, (∀ b, k.ldB s b → m.at1 b m1) → kindR q P Y k s m1 v m1 := by
  cases k with
  | ld x z =>
    unfold kindR at h ⊢
    simp only [kindE] at h ⊢
    have hat : ∀ {cs : List V} {m1 : Mem}, (∀ b, (K.ld x z).ldB s b → m.at1 b m1) → (x.ev s).at m = some cs → (x.ev s).at m1 = some cs := by
      intro cs m1 hl h1
      unfold V.at at h1 ⊢
      split at h1
      · rename_i b off e
        simp only [Option.bind_eq_some_iff] at h1 ⊢
        obtain ⟨c, h2, h3⟩ := h1
        exact ⟨c, hl b ⟨_, e⟩ _ h2, h3⟩
      · exact h1
      · cases h1
    split at h
    · rename_i cs he
      simp only [Option.map_eq_some_iff, Prod.mk.injEq] at h
      obtain ⟨y, h1, rfl, rfl⟩ := h
      exact ⟨rfl, fun m1 hl => by rw [hat hl he]; simp [h1]⟩
    · rename_i cs z' he
      split at h
      · rename_i hz
        simp only [Option.some.injEq, Prod.mk.injEq] at h
        obtain ⟨rfl, rfl⟩ := h
        exact ⟨rfl, fun m1 hl => by rw [hat hl he]; simp [hz]⟩
      · cases h
    · cases h
  | callr x xs =>
    obtain ⟨h1, h2, f, cap, h3, h4⟩ := h
    exact ⟨h2, fun m1 hl => ⟨h1, rfl, f, cap, h3, fun m2 h5 => h4 m2 (Mem.le_trans (fun b => hl b trivial) h5)⟩⟩
  | mkl e sz xs own => cases own <;> simp [K.cls] at hc
  | nil e sz own => cases own <;> simp [K.cls] at hc
  | mks x y e sz b z own => cases own <;> simp [K.cls] at hc
  | call f xs => cases q <;> simp [K.cls] at hc
  | mem mo xs => cases mo <;> simp [K.cls] at hc
  | callv f xs => cases q <;> simp [K.cls] at hc
  | _ => simp [K.cls] at hc

theorem le_append {m : Mem} {c : List V} {t : List (TypeId × Nat × Nat)} : m.le { boxes := m.boxes ++ [c], tips := t } := fun b cs h => by
  show (m.boxes ++ [c])[b]? = _
  rw [List.getElem?_append_left (List.getElem?_eq_some_iff.1 h).1]; exact h
theorem le_newV {own : Bool} {m m' : Mem} {e sz : Nat} {xs : List (List V)} {v : V} (h : newV own m e sz xs = (v, m')) : m.le m' := by
  unfold newV at h
  split at h <;> cases h <;> exact fun _ _ h => h
theorem kind_cls2 {q : Bool} {P : Program} {Y : YRel} {k : K} {v : V} {m' : Mem} (hc : k.cls q = 2) (h : kindR q P Y k s m v m') : m.le m' := by
  cases k with
  | alc z => unfold kindR at h; simp only [kindE, Option.some.injEq, Prod.mk.injEq] at h; rw [← h.2]; exact le_append
  | alr e sz => unfold kindR at h; simp only [kindE, Option.some.injEq, Prod.mk.injEq] at h; rw [← h.2]; exact le_append
  | nil e sz own => unfold kindR at h; simp only [kindE, Option.some.injEq] at h; exact le_newV h
  | box x =>
    unfold kindR at h
    simp only [kindE] at h
    split at h
    · simp only [Option.some.injEq, Prod.mk.injEq] at h; rw [← h.2]; exact le_append
    · cases h
  | srg x =>
    unfold kindR at h
    simp only [kindE] at h
    split at h
    · simp only [Option.some.injEq, Prod.mk.injEq] at h; rw [← h.2]; exact le_append
    · cases h
  | app x y e z b o =>
    unfold kindR at h
    simp only [kindE] at h
    repeat' split at h
    all_goals first
      | (cases h; exact Mem.le_refl _)
      | (cases h; exact fun _ _ h => h)
      | (simp only [Option.some.injEq] at h; exact le_newV h)
      | cases h
  | mkl e sz xs own =>
    unfold kindR at h
    simp only [kindE] at h
    split at h
    · simp only [Option.some.injEq] at h; exact le_newV h
    · cases h
  | mks x y e sz b z own =>
    unfold kindR at h
    simp only [kindE] at h
    split at h
    · split at h
      · simp only [Option.some.injEq] at h; exact le_newV h
      · cases h
    · cases h
  | mem mo xs =>
    cases mo with
    | mkb e sz bytes z =>
      unfold kindR at h
      simp only [kindE, memE] at h
      split at h
      · split at h
        · cases h; exact le_append
        · cases h
      · cases h
    | apb e sz bytes =>
      unfold kindR at h
      simp only [kindE, memE] at h
      split at h
      · split at h
        · split at h
          · cases h; exact le_append
          · cases h
        · cases h
      · split at h
        · split at h
          · cases h; exact le_append
          · cases h
        · cases h
      · cases h
    | _ => simp [K.cls] at hc
  | call f xs => cases q <;> simp [K.cls] at hc
  | callv f xs => cases q <;> simp [K.cls] at hc
  | _ => simp [K.cls] at hc

theorem K.cls_le {q : Bool} (k : K) : k.cls q ≤ 3 := by
  unfold K.cls
  repeat' split
  all_goals omega

theorem step_cls0 {q : Bool} {P : Program} {Y : YRel} {o : O} {v : V} {m' : Mem} (hc : o.k.cls q = 0) (h : stepR q P Y o s m v m') : m' = m ∧ ∀ m1, stepR q P Y o s m1 v m1 := by
  unfold stepR at h ⊢
  split at h
  · rename_i e; have := kind_cls0 hc h; simpa [e] using this
  · rename_i d want e
    rcases h with ⟨h1, h2⟩ | ⟨h1, h2, h3⟩
    · have := kind_cls0 hc h2; exact ⟨this.1, fun m1 => .inl ⟨h1, this.2 m1⟩⟩
    · exact ⟨h3, fun m1 => .inr ⟨h1, h2, rfl⟩⟩
theorem step_cls1 {q : Bool} {P : Program} {Y : YRel} {o : O} {v : V} {m' : Mem} (hc : o.k.cls q = 1) (h : stepR q P Y o s m v m') : m' = m ∧ ∀ m1, (∀ b, o.k.ldB s b → m.at1 b m1) → stepR q P Y o s m1 v m1 := by
  unfold stepR at h ⊢
  split at h
  · rename_i e; have := kind_cls1 hc h; simpa [e] using this
  · rename_i d want e
    rcases h with ⟨h1, h2⟩ | ⟨h1, h2, h3⟩
    · have := kind_cls1 hc h2; exact ⟨this.1, fun m1 hl => .inl ⟨h1, this.2 m1 hl⟩⟩
    · exact ⟨h3, fun m1 _ => .inr ⟨h1, h2, rfl⟩⟩
theorem step_cls2 {q : Bool} {P : Program} {Y : YRel} {o : O} {v : V} {m' : Mem} (hc : o.k.cls q = 2) (h : stepR q P Y o s m v m') : m.le m' := by
  unfold stepR at h
  split at h
  · exact kind_cls2 hc h
  · rcases h with ⟨h1, h2⟩ | ⟨h1, h2, h3⟩
    · exact kind_cls2 hc h2
    · rw [h3]; exact Mem.le_refl _
theorem kind_st {q : Bool} {P : Program} {Y : YRel} {x y : X} {z : Nat} {v : V} {m' : Mem} (h : kindR q P Y (.st x z y) s m v m') {b : Nat} (hb : ∀ b', (K.st x z y).stB s = some b' → b' ≠ b) : m.at1 b m' := by
  unfold kindR at h
  simp only [kindE] at h
  split at h
  · rename_i b' o e
    have hne := hb b' (by simp [K.stB, e])
    split at h
    · rename_i cs hcs
      split at h
      · simp only [Option.some.injEq, Prod.mk.injEq] at h
        obtain ⟨_, rfl⟩ := h
        intro c hc
        show (m.boxes.set b' _)[b]? = _
        rw [List.getElem?_set_ne hne]
        exact hc
      · cases h
    · cases h
  · cases h
theorem step_st {q : Bool} {P : Program} {Y : YRel} {o : O} {x y : X} {z : Nat} {v : V} {m' : Mem} (hk : o.k = .st x z y) (h : stepR q P Y o s m v m') {b : Nat} (hb : ∀ b', o.k.stB s = some b' → b' ≠ b) : m.at1 b m' := by
  rw [hk] at hb
  unfold stepR at h
  rw [hk] at h
  split at h
  · exact kind_st h hb
  · rcases h with ⟨h1, h2⟩ | ⟨h1, h2, h3⟩
    · exact kind_st h2 hb
    · rw [h3]; exact fun _ h => h
theorem weak_weak (o : O) : o.weak.weak = o.weak := by
  obtain ⟨d, g, k⟩ := o
  cases k with
  | callf x xs fr => cases x <;> rfl
  | callr x xs => cases x <;> rfl
  | _ => rfl
theorem weak_sl (o : O) : o.weak.sl = o.sl := by
  obtain ⟨d, g, k⟩ := o
  cases k with
  | callf x xs fr => cases x <;> rfl
  | callr x xs => cases x <;> rfl
  | _ => rfl
theorem keepB_mem {m' : Mem} : ∀ {fr : List Nat}, keepB s m m' fr → ∀ t ∈ fr, ∀ b o, s t = .ptr b o → m.at1 b m'
  | [], _, t, ht, _, _, _ => by cases ht
  | u :: r, h, t, ht, b, o, hs => by
    rcases List.mem_cons.1 ht with rfl | ht
    · exact fun cs hc => by rw [h.1 b o hs]; exact hc
    · exact keepB_mem h.2 t ht b o hs
theorem step_callf {q : Bool} {P : Program} {Y : YRel} {o : O} {x : X} {xs : List X} {fr : List Nat} {v : V} {m' : Mem} (hk : o.k = .callf x xs fr) (h : stepR q P Y o s m v m') {t b off : Nat} (ht : t ∈ fr) (hs : s t = .ptr b off) : m.at1 b m' := by
  unfold stepR at h
  rw [hk] at h
  split at h
  · exact keepB_mem h.2 t ht b off hs
  · rcases h with ⟨_, h2⟩ | ⟨_, _, h3⟩
    · exact keepB_mem h2.2 t ht b off hs
    · rw [h3]; exact fun _ h => h
theorem Mem.le.at1 {m m1 : Mem} (h : m.le m1) (b : Nat) : m.at1 b m1 := h b
theorem Mem.at1_trans {a b c : Mem} {i : Nat} (h : a.at1 i b) (k : b.at1 i c) : a.at1 i c := fun cs hx => k cs (h cs hx)
end
end Go.Av

namespace Go.Av
open Go.RowKit

theorem opsWp_seq {q : Bool} {P : Program} {Y : YRel} {K : (Nat → V) → Mem → Prop} : ∀ (L : List O) (s : Nat → V) (m : Mem), opsWp q P Y L s m K →
    ∃ (S : Nat → Nat → V) (Mm : Nat → Mem) (Vv : Nat → V), S 0 = s ∧ Mm 0 = m ∧ (∀ (p : Nat) (o : O), L[p]? = some o → stepR q P Y o (S p) (Mm p) (Vv p) (Mm (p + 1)) ∧ S (p + 1) = put o.d (Vv p) (S p)) ∧ K (S L.length) (Mm L.length)
  | [], s, m, h => ⟨fun _ => s, fun _ => m, fun _ => .tuple [], rfl, rfl, by simp, h⟩
  | o :: r, s, m, h => by
    obtain ⟨v, m', h1, h2⟩ := h
    obtain ⟨S, Mm, Vv, e1, e2, e3, e4⟩ := opsWp_seq r _ _ h2
    refine ⟨fun i => match i with | 0 => s | i + 1 => S i, fun i => match i with | 0 => m | i + 1 => Mm i, fun i => match i with | 0 => v | i + 1 => Vv i, rfl, rfl, ?_, e4⟩
    intro p o' hp
    cases p with
    | zero =>
      simp only [List.getElem?_cons_zero, Option.some.injEq] at hp
      subst hp
      exact ⟨by simp only [e2]; exact h1, e1⟩
    | succ p =>
      simp only [List.getElem?_cons_succ] at hp
      exact e3 p o' hp

def bnd (e : Edge) : Bool := Region.binds .any e

/-- A load and a store whose order is open: their addresses lie in two slots, each as it was at that place. -/
def Sepd (N : Nat) (co : Nat → O) (sp : List (Nat × Nat)) (p x : Nat) : Prop :=
  (∃ n n' z z' y, (co p).k = .ld (.t n) z ∧ (co x).k = .st (.t n') z' y ∧ (n, n') ∈ sp ∧ (∀ y, y < N → (co y).d = some n → y < p) ∧ (∀ y, y < N → (co y).d = some n' → y < x)) ∨
  ∃ n z f xs fr, (co p).k = .ld (.t n) z ∧ (co x).k = .callf f xs fr ∧ n ∈ fr ∧ ∀ y, y < N → (co y).d = some n → y < p

/-- What is checked of a region and its canonical order. -/
structure Draw (P : Program) (n : Nat) (own : Nat → Bool) (q : Bool) (sp : List (Nat × Nat)) (ops : Array Oper) (ρ pos : Nat → Nat) (co : Nat → O) (T : Nat → List Nat) : Prop where
  ρlt : ∀ p, p < ops.size → ρ p < ops.size ∧ pos (ρ p) = p
  poslt : ∀ i, i < ops.size → pos i < ops.size ∧ ρ (pos i) = i
  comp : ∀ p, p < ops.size → ∃ o, ops[ρ p]? = some o ∧ compOp P n own ops o = some (co p).weak
  aft : ∀ p, p < ops.size → ∀ o, ops[ρ p]? = some o → ∀ e ∈ o.after, bnd e = true → e.on < ops.size ∧ pos e.on < p
  anc : ∀ p, p < ops.size → ∀ x ∈ T p, ∃ o e, ops[ρ p]? = some o ∧ e ∈ o.after ∧ bnd e = true ∧ (x = pos e.on ∨ x ∈ T (pos e.on))
  dst : ∀ p x, p < ops.size → x < ops.size → p ≠ x → ∀ d, (co p).d = some d → (co x).d ≠ some d
  opd : ∀ p x, p < ops.size → x < ops.size → p ≠ x → ∀ d, (co x).d = some d → d ∈ (co p).sl → (x < p ∧ x ∈ T p) ∨ (p < x ∧ p ∈ T x)
  rd : ∀ p x, p < ops.size → x < ops.size → (co p).k.cls q = 1 → 2 ≤ (co x).k.cls q → (x < p → x ∈ T p) ∧ (p < x → (co x).k.cls q = 2 ∨ p ∈ T x ∨ Sepd ops.size co sp p x)
  wr : ∀ p x, p < ops.size → x < ops.size → 2 ≤ (co p).k.cls q → 2 ≤ (co x).k.cls q → x < p → x ∈ T p

theorem countP_lt {p p' : Nat → Bool} : ∀ {l : List Nat} {i : Nat}, i ∈ l → (∀ j, p' j = true → p j = true) → p i = true → p' i = false → l.countP p' < l.countP p
  | [], _, h, _, _, _ => by simp at h
  | x :: l, i, h, hp, h1, h2 => by
    have hle : l.countP p' ≤ l.countP p := List.countP_mono_left fun j _ hj => hp j hj
    by_cases e : x = i
    · subst e
      simp only [List.countP_cons, h1, h2, if_true, Bool.false_eq_true, if_false]
      omega
    · have hi : i ∈ l := by
        simp only [List.mem_cons] at h
        exact h.resolve_left fun e' => e e'.symm
      have := countP_lt hi hp h1 h2
      simp only [List.countP_cons]
      by_cases hx : p' x = true
      · simp only [hx, hp x hx, if_true]; omega
      · simp only [hx, Bool.false_eq_true, if_false]; omega

section
variable {P : Program} {Y : YRel} {rd : Option Nat} {Nn : Nat} {n : Nat} {own : Nat → Bool} {q : Bool} {sp : List (Nat × Nat)} {ops : Array Oper} {ρ pos : Nat → Nat} {co : Nat → O} {T : Nat → List Nat}

def Closed (ops : Array Oper) (listed : Array Bool) : Prop := listed.size = ops.size ∧ ∀ i, listed.getD i false = true → ∀ o, ops[i]? = some o → ∀ e ∈ o.after, bnd e = true → listed.getD e.on false = true

theorem Draw.listed_anc (D : Draw P n own q sp ops ρ pos co T) {listed : Array Bool} (hc : Closed ops listed) : ∀ p, p < ops.size → (∀ o, ops[ρ p]? = some o → ∀ e ∈ o.after, bnd e = true → listed.getD e.on false = true) → ∀ x ∈ T p, listed.getD (ρ x) false = true := by
  intro p
  induction p using Nat.strongRecOn with
  | _ p ih =>
    intro hp ha x hx
    obtain ⟨o, e, ho, he, hb, h⟩ := D.anc p hp x hx
    obtain ⟨h1, h2⟩ := D.aft p hp o ho e he hb
    have hl := ha o ho e he hb
    have hpe := (D.poslt _ h1).2
    rcases h with rfl | h
    · rw [hpe]; exact hl
    · refine ih (pos e.on) h2 (by omega) ?_ x h
      intro o' ho' e' he' hb'
      rw [hpe] at ho'
      exact hc.2 _ hl o' ho' e' he' hb'

variable {S : Nat → Nat → V} {Mm : Nat → Mem} {Vv : Nat → V} {s0 : Nat → V}

structure Seq (q : Bool) (P : Program) (Y : YRel) (N : Nat) (co : Nat → O) (S : Nat → Nat → V) (Mm : Nat → Mem) (Vv : Nat → V) (s0 : Nat → V) : Prop where
  z : S 0 = s0
  st : ∀ p, p < N → stepR q P Y (co p) (S p) (Mm p) (Vv p) (Mm (p + 1))
  nx : ∀ p, p < N → S (p + 1) = put (co p).d (Vv p) (S p)

theorem put_at {d : Option Nat} {v : V} {s : Nat → V} {t : Nat} (h : d ≠ some t) : put d v s t = s t := by
  cases d with
  | none => rfl
  | some d => rw [put_some, if_neg]; rintro rfl; exact h rfl
theorem put_here {d : Option Nat} {v : V} {s : Nat → V} {t : Nat} (h : d = some t) : put d v s t = v := by subst h; rw [put_some, if_pos rfl]

theorem Seq.val (H : Seq q P Y ops.size co S Mm Vv s0) (D : Draw P n own q sp ops ρ pos co T) : ∀ e, e ≤ ops.size → ∀ t, (∀ p, p < e → (co p).d = some t → S e t = Vv p) ∧ ((∀ p, p < e → (co p).d ≠ some t) → S e t = s0 t) := by
  intro e
  induction e with
  | zero => intro _ t; exact ⟨fun p hp => absurd hp (by omega), fun _ => by rw [H.z]⟩
  | succ e ih =>
    intro he t
    rw [H.nx e (by omega)]
    obtain ⟨i1, i2⟩ := ih (by omega) t
    refine ⟨fun p hp hd => ?_, fun hn => ?_⟩
    · by_cases hpe : p = e
      · subst hpe; exact put_here hd
      · rw [put_at fun h => D.dst p e (by omega) (by omega) hpe t hd h]
        exact i1 p (by omega) hd
    · rw [put_at (hn e (by omega))]
      exact i2 fun p hp => hn p (by omega)

theorem Seq.memEq (H : Seq q P Y ops.size co S Mm Vv s0) {e : Nat} : ∀ p, e ≤ p → p ≤ ops.size → (∀ x, e ≤ x → x < p → (co x).k.cls q < 2) → Mm p = Mm e := by
  intro p
  induction p with
  | zero => intro h1 _ _; rw [Nat.le_zero.1 h1]
  | succ p ih =>
    intro h1 h2 h3
    by_cases hpe : e = p + 1
    · rw [hpe]
    · have hs := H.st p (by omega)
      have hc := h3 p (by omega) (by omega)
      have : Mm (p + 1) = Mm p := by
        rcases Nat.lt_or_ge ((co p).k.cls q) 1 with h | h
        · exact (step_cls0 (by omega) hs).1
        · exact (step_cls1 (by omega) hs).1
      rw [this]
      exact ih (by omega) (by omega) fun x hx1 hx2 => h3 x hx1 (by omega)
/-- A slot that no later operation writes, at any later place. -/
theorem Seq.stay1 (H : Seq q P Y ops.size co S Mm Vv s0) (D : Draw P n own q sp ops ρ pos co T) {p e t : Nat} (hp : p ≤ ops.size) (hpe : p ≤ e) (he : e ≤ ops.size) (h : ∀ y, y < ops.size → (co y).d = some t → y < p) : S e t = S p t := by
  obtain ⟨i1, i2⟩ := H.val D e he t
  obtain ⟨j1, j2⟩ := H.val D p hp t
  by_cases hx : ∃ y, y < ops.size ∧ (co y).d = some t
  · obtain ⟨y, hy, hd⟩ := hx
    rw [i1 y (by have := h y hy hd; omega) hd, j1 y (h y hy hd) hd]
  · have hx' : ∀ y, y < ops.size → (co y).d ≠ some t := fun y hy hd => hx ⟨y, hy, hd⟩
    rw [i2 fun y hy => hx' y (by omega), j2 fun y hy => hx' y (by omega)]
/-- A slot that no later operation writes. -/
theorem Seq.stay (H : Seq q P Y ops.size co S Mm Vv s0) (D : Draw P n own q sp ops ρ pos co T) {p t : Nat} (hp : p ≤ ops.size) (h : ∀ y, y < ops.size → (co y).d = some t → y < p) : S ops.size t = S p t := by
  exact H.stay1 D hp hp (Nat.le_refl _) h
theorem sepAll_mem {s : Nat → V} : ∀ {sp : List (Nat × Nat)}, sepAll s sp → ∀ x ∈ sp, sepV (s x.1) (s x.2)
  | [], _, x, hx => by cases hx
  | y :: r, h, x, hx => by
    rcases List.mem_cons.1 hx with rfl | hx
    · exact h.1
    · exact sepAll_mem h.2 x hx

theorem Seq.memAt (H : Seq q P Y ops.size co S Mm Vv s0) (D : Draw P n own q sp ops ρ pos co T) (hsep : sepAll (S ops.size) sp) {p b : Nat} (hpN : p < ops.size) (hb : (co p).k.ldB (S p) b) :
    ∀ e, p ≤ e → e ≤ ops.size → (∀ x, p ≤ x → x < e → (co x).k.cls q ≤ 2 ∨ Sepd ops.size co sp p x) → (Mm p).at1 b (Mm e) := by
  intro e
  induction e with
  | zero => intro h1 _ _; rw [Nat.le_zero.1 h1]; exact fun _ h => h
  | succ e ih =>
    intro h1 h2 h3
    by_cases hpe : p = e + 1
    · rw [hpe]; exact fun _ h => h
    · have hs := H.st e (by omega)
      have : (Mm e).at1 b (Mm (e + 1)) := by
        rcases h3 e (by omega) (by omega) with hc | ⟨n1, n2, z, z', y, k1, k2, k3, k4, k5⟩ | ⟨n1, z, f, xs, fr, k1, k2, k3, k4⟩
        · rcases Nat.lt_or_ge ((co e).k.cls q) 1 with h | h
          · rw [(step_cls0 (by omega) hs).1]; exact fun _ h => h
          · rcases Nat.lt_or_ge ((co e).k.cls q) 2 with h | h
            · rw [(step_cls1 (by omega) hs).1]; exact fun _ h => h
            · exact (step_cls2 (by omega) hs).at1 b
        · refine step_st k2 hs fun b' hb' => ?_
          have hv := sepAll_mem hsep _ k3
          rw [H.stay D (by omega) k4, H.stay D (by omega) k5] at hv
          rw [k1] at hb
          rw [k2] at hb'
          simp only [K.ldB, X.ev] at hb
          simp only [K.stB, X.ev] at hb'
          obtain ⟨o1, e1⟩ := hb
          split at hb'
          · rename_i b2 o2 e2
            cases hb'
            exact fun e => hv _ _ _ _ e1 e2 e.symm
          · cases hb'
        · rw [k1] at hb
          simp only [K.ldB, X.ev] at hb
          obtain ⟨o1, e1⟩ := hb
          exact step_callf k2 hs k3 (by rw [H.stay1 D (by omega) (by omega) (by omega) k4]; exact e1)
      exact Mem.at1_trans (ih (by omega) (by omega) fun x hx1 hx2 => h3 x hx1 (by omega)) this

structure Inv (q : Bool) (ops : Array Oper) (ρ : Nat → Nat) (co : Nat → O) (Mm : Nat → Mem) (Vv : Nat → V) (s0 : Nat → V) (listed : Array Bool) (s : Nat → V) (m : Mem) : Prop where
  cl : Closed ops listed
  v1 : ∀ t p, p < ops.size → listed.getD (ρ p) false = true → (co p).d = some t → s t = Vv p
  v2 : ∀ t, (∀ p, p < ops.size → listed.getD (ρ p) false = true → (co p).d ≠ some t) → s t = s0 t
  mem : ∃ e, e ≤ ops.size ∧ m = Mm e ∧ ∀ p, p < ops.size → 2 ≤ (co p).k.cls q → (listed.getD (ρ p) false = true ↔ p < e)

variable {a : Act} {w wst w0 : World} {M0 : Mp} {m : Mem} {s : Nat → V} {B : Nat} {I0 : Nat → Nat → Prop}

theorem draw_run (hY : YOk P Y M0 wst) (D : Draw P n own q sp ops ρ pos co T) (H : Seq q P Y ops.size co S Mm Vv s0) (hsep : sepAll (S ops.size) sp) {Q : Exit → Act → World → Prop}
    (hQ : ∀ a w, AT B I0 w0 M0 wst n (S ops.size) (Mm ops.size) a w → Q .normal a w) :
    ∀ (fuel : Nat) (listed : Array Bool) (s : Nat → V) (m : Mem) (a : Act) (w : World), Inv q ops ρ co Mm Vv s0 listed s m → (List.range ops.size).countP (fun i => !listed.getD i false) ≤ fuel →
      AT B I0 w0 M0 wst n s m a w → wpAnyIn (fen rd) Nn P .any ops Q fuel listed a w := by
  have hall : ∀ (listed : Array Bool) (s : Nat → V) (m : Mem) (a : Act) (w : World), Inv q ops ρ co Mm Vv s0 listed s m → AT B I0 w0 M0 wst n s m a w → (∀ i, i < ops.size → listed.getD i false = true) → Q .normal a w := by
    intro listed s m a w hi hat hl
    have hs : s = S ops.size := by
      funext t
      obtain ⟨j1, j2⟩ := H.val D ops.size (Nat.le_refl _) t
      by_cases hx : ∃ p, p < ops.size ∧ (co p).d = some t
      · obtain ⟨p, hp, hd⟩ := hx
        rw [hi.v1 t p hp (hl _ (D.ρlt p hp).1) hd, j1 p hp hd]
      · have hx' : ∀ p, p < ops.size → (co p).d ≠ some t := fun p hp hd => hx ⟨p, hp, hd⟩
        rw [hi.v2 t (fun p hp _ => hx' p hp), j2 hx']
    have hm : m = Mm ops.size := by
      obtain ⟨e, he, rfl, h3⟩ := hi.mem
      refine (H.memEq ops.size he (Nat.le_refl _) fun x h4 h5 => ?_).symm
      rcases Nat.lt_or_ge ((co x).k.cls q) 2 with h | h
      · exact h
      · have := (h3 x h5 h).1 (hl _ (D.ρlt x h5).1)
        omega
    subst hs hm
    exact hQ a w hat
  have hready : ∀ (listed : Array Bool), Closed ops listed → Region.ready .any ops listed = [] → ∀ i, i < ops.size → listed.getD i false = true := by
    intro listed hc hr
    have key : ∀ p, p < ops.size → listed.getD (ρ p) false = true := by
      intro p
      induction p using Nat.strongRecOn with
      | _ p ih =>
        intro hp
        rcases hb : listed.getD (ρ p) false with _ | _
        · exfalso
          obtain ⟨o, ho, _⟩ := D.comp p hp
          have hmem : ρ p ∈ Region.ready .any ops listed := by
            rw [mem_ready]
            refine ⟨?_, o, ho, fun e he hbe => ?_⟩
            · have hlt : ρ p < listed.size := by rw [hc.1]; exact (D.ρlt p hp).1
              simp only [Array.getD_eq_getD_getElem?, Array.getElem?_eq_getElem hlt, Option.getD_some] at hb ⊢
              exact hb
            · obtain ⟨h1, h2⟩ := D.aft p hp o ho e he hbe
              have := ih (pos e.on) h2 (by omega)
              rw [(D.poslt _ h1).2] at this
              exact this
          rw [hr] at hmem
          cases hmem
        · rfl
    intro i hi
    have := key (pos i) (D.poslt i hi).1
    rw [(D.poslt i hi).2] at this
    exact this
  intro fuel
  induction fuel with
  | zero =>
    intro listed s m a w hi hf hat
    have hl : ∀ i, i < ops.size → listed.getD i false = true := by
      intro i hlt
      have h0 : (List.range ops.size).countP (fun i => !listed.getD i false) = 0 := by omega
      have := List.countP_eq_zero.1 h0 i (List.mem_range.2 hlt)
      simpa using this
    refine ⟨?_, hall listed s m a w hi hat hl⟩
    have : ∀ i, i ∉ Region.ready .any ops listed := by
      intro i hm
      obtain ⟨h1, o, ho, _⟩ := mem_ready.1 hm
      have hlt := (Array.getElem?_eq_some_iff.1 ho).1
      have h2 := hl i hlt
      have hlt' : i < listed.size := by rw [hi.cl.1]; exact hlt
      simp only [Array.getD_eq_getD_getElem?, Array.getElem?_eq_getElem hlt', Option.getD_some] at h1 h2
      rw [h1] at h2
      cases h2
    exact List.eq_nil_iff_forall_not_mem.2 this
  | succ fuel ih =>
    intro listed s m a w hi hf hat
    refine ⟨fun hr => hall listed s m a w hi hat (hready listed hi.cl hr), fun i him => ?_⟩
    obtain ⟨h1, o, ho, hall'⟩ := mem_ready.1 him
    have hlt := (Array.getElem?_eq_some_iff.1 ho).1
    obtain ⟨hp, hρ⟩ := D.poslt i hlt
    generalize hpp : pos i = p at hp hρ
    have hun : listed.getD i false = false := by
      have hlt' : i < listed.size := by rw [hi.cl.1]; exact hlt
      simp only [Array.getD_eq_getD_getElem?, Array.getElem?_eq_getElem hlt', Option.getD_some] at h1 ⊢
      exact h1
    have hA : ∀ x ∈ T p, listed.getD (ρ x) false = true := by
      refine D.listed_anc hi.cl p hp fun o' ho' e he hb => ?_
      rw [hρ, ho] at ho'
      cases ho'
      exact hall' e he hb
    have hB : ∀ x, x < ops.size → p ∈ T x → listed.getD (ρ x) false = false := by
      intro x hx hpx
      rcases hb : listed.getD (ρ x) false with _ | _
      · rfl
      · have := D.listed_anc hi.cl x hx (fun o' ho' e he hb' => hi.cl.2 _ hb o' ho' e he hb') p hpx
        rw [hρ, hun] at this
        cases this
    obtain ⟨o', ho', hco⟩ := D.comp p hp
    rw [hρ, ho] at ho'
    cases ho'
    have hst := (H.st p hp).weak
    have hsl : ∀ t ∈ (co p).sl, S p t = s t := by
      intro t ht
      obtain ⟨j1, j2⟩ := H.val D p (by omega) t
      by_cases hx : ∃ x, x < ops.size ∧ (co x).d = some t
      · obtain ⟨x, hx, hd⟩ := hx
        have huniq : ∀ y, y < ops.size → (co y).d = some t → y = x := fun y hy hdy => Classical.byContradiction fun hne => D.dst y x hy hx hne t hdy hd
        have hz : listed.getD (ρ x) false = false → ¬ x < p → S p t = s t := by
          intro hlx hxp
          rw [hi.v2 t (fun y hy hly hdy => by rw [huniq y hy hdy, hlx] at hly; cases hly), j2 fun y hy hdy => by
            have := huniq y (by omega) hdy
            omega]
        by_cases hxp : p = x
        · subst hxp
          exact hz (by rw [hρ]; exact hun) (by omega)
        · rcases D.opd p x hp hx hxp t hd ht with ⟨k1, k2⟩ | ⟨k1, k2⟩
          · rw [j1 x k1 hd, hi.v1 t x hx (hA x k2) hd]
          · exact hz (hB x hx k2) (by omega)
      · have hx' : ∀ x, x < ops.size → (co x).d ≠ some t := fun x hx0 hd => hx ⟨x, hx0, hd⟩
        rw [j2 fun x hxp => hx' x (by omega), hi.v2 t fun x hx0 _ => hx' x hx0]
    have hst' := stepR_congr (weak_weak _) (fun t ht => hsl t (by rw [← weak_sl]; exact ht)) hst
    have hset : ∀ j, (listed.setIfInBounds i true).getD j false = true ↔ (j = i ∨ listed.getD j false = true) := by
      intro j
      by_cases hj : i = j
      · subst hj
        have hlt' : i < listed.size := by rw [hi.cl.1]; exact hlt
        simp [hlt']
      · rw [getD_set_ne false hj]
        exact ⟨.inr, fun h => h.resolve_left fun e => hj e.symm⟩
    have hclosed : Closed ops (listed.setIfInBounds i true) := by
      refine ⟨by rw [Array.size_setIfInBounds]; exact hi.cl.1, fun j hj o2 ho2 e he hb => ?_⟩
      rcases (hset j).1 hj with rfl | hj
      · rw [ho] at ho2
        cases ho2
        exact (hset _).2 (.inr (hall' e he hb))
      · exact (hset _).2 (.inr (hi.cl.2 j hj o2 ho2 e he hb))
    have hcount : (List.range ops.size).countP (fun j => !(listed.setIfInBounds i true).getD j false) ≤ fuel := by
      have := countP_lt (p := fun j => !listed.getD j false) (p' := fun j => !(listed.setIfInBounds i true).getD j false) (l := List.range ops.size) (i := i) (List.mem_range.2 hlt)
        (fun j hj => by
          rcases hb : listed.getD j false with _ | _
          · rfl
          · rw [(hset j).2 (.inr hb)] at hj; cases hj)
        (by simp only [hun]; rfl) (by simp only [(hset i).2 (.inl rfl)]; rfl)
      omega
    have hρi : ∀ x, x < ops.size → (ρ x = i ↔ x = p) := by
      intro x hx
      refine ⟨fun h => ?_, fun h => by rw [h, hρ]⟩
      have := (D.ρlt x hx).2
      rw [h, hpp] at this
      exact this.symm
    -- the state behind
    have hnext : ∀ m2, stepR q P Y (co p).weak s m (Vv p) m2 → (∃ e, e ≤ ops.size ∧ m2 = Mm e ∧ ∀ x, x < ops.size → 2 ≤ (co x).k.cls q → ((listed.setIfInBounds i true).getD (ρ x) false = true ↔ x < e)) →
        wpOpIn (fen rd) Nn P ops Q i (wpAnyIn (fen rd) Nn P .any ops Q fuel (listed.setIfInBounds i true)) a w := by
      intro m2 hs2 hm2
      unfold wpOpIn
      simp only [ho]
      refine step_sound hco hs2 hat hY fun a' w' hat' => ih _ _ m2 a' w' ⟨hclosed, ?_, ?_, hm2⟩ hcount hat'
      · intro t x hx hlx hd
        rcases (hset _).1 hlx with h | h
        · rw [(hρi x hx).1 h] at hd ⊢
          exact put_here hd
        · have hne : x ≠ p := by
            intro e'
            subst e'
            rw [hρ, hun] at h
            cases h
          show put (co p).d (Vv p) s t = Vv x
          rw [put_at fun hd' => D.dst x p hx hp hne t hd hd', hi.v1 t x hx h hd]
      · intro t hn
        show put (co p).d (Vv p) s t = s0 t
        rw [put_at fun hd' => hn p hp ((hset _).2 (.inl hρ)) hd', hi.v2 t fun x hx hlx hd => hn x hx ((hset _).2 (.inr hlx)) hd]
    obtain ⟨e, he, hme, hiff⟩ := hi.mem
    have hsame : (co p).k.cls q < 2 → ∀ x, x < ops.size → 2 ≤ (co x).k.cls q → ((listed.setIfInBounds i true).getD (ρ x) false = true ↔ x < e) := by
      intro hc x hx hcx
      rw [hset, hiff x hx hcx]
      refine ⟨fun h => h.resolve_left fun h' => ?_, .inr⟩
      rw [(hρi x hx).1 h'] at hcx
      omega
    rcases Nat.lt_or_ge ((co p).k.cls q) 2 with hc | hc
    · have hcg : stepR q P Y (co p) (S p) m (Vv p) m → stepR q P Y (co p).weak s m (Vv p) m := fun h => stepR_congr (weak_weak _) (fun t ht => hsl t (by rw [← weak_sl]; exact ht)) h.weak
      rcases Nat.lt_or_ge ((co p).k.cls q) 1 with hc0 | hc1
      · exact hnext m (hcg ((step_cls0 (by omega) (H.st p hp)).2 m)) ⟨e, he, hme, hsame hc⟩
      · have hle : ∀ b, (co p).k.ldB (S p) b → (Mm p).at1 b m := by
          intro b hb'
          rw [hme]
          rcases Nat.lt_or_ge p e with hpe | hpe
          · refine H.memAt D hsep hp hb' e (by omega) he fun x hx1 hx2 => ?_
            rcases Nat.lt_or_ge ((co x).k.cls q) 2 with hcx | hcx
            · exact .inl (by omega)
            · by_cases hxp : x = p
              · subst hxp; omega
              · rcases (D.rd p x hp (by omega) (by omega) hcx).2 (by omega) with h | h | h
                · exact .inl (by omega)
                · have h' := hB x (by omega) h
                  rw [(hiff x (by omega) hcx).2 hx2] at h'
                  cases h'
                · exact .inr h
          · rw [H.memEq p hpe (by omega) fun x hx1 hx2 => ?_]
            · exact fun _ h => h
            · rcases Nat.lt_or_ge ((co x).k.cls q) 2 with hcx | hcx
              · exact hcx
              · have h' := hA x ((D.rd p x hp (by omega) (by omega) hcx).1 hx2)
                have := (hiff x (by omega) hcx).1 h'
                omega
        exact hnext m (hcg ((step_cls1 (by omega) (H.st p hp)).2 m hle)) ⟨e, he, hme, hsame hc⟩
    · have hep : e ≤ p := by
        rcases Nat.lt_or_ge p e with h | h
        · have := (hiff p hp hc).2 h
          rw [hρ, hun] at this
          cases this
        · exact h
      have hmp : Mm p = m := by
        rw [hme]
        refine H.memEq p hep (by omega) fun x hx1 hx2 => ?_
        rcases Nat.lt_or_ge ((co x).k.cls q) 2 with hcx | hcx
        · exact hcx
        · have h' := hA x (D.wr p x hp (by omega) hc hcx hx2)
          have := (hiff x (by omega) hcx).1 h'
          omega
      rw [hmp] at hst'
      refine hnext _ hst' ⟨p + 1, by omega, rfl, fun x hx hcx => ?_⟩
      rw [hset]
      refine ⟨fun h => ?_, fun h => ?_⟩
      · rcases h with h | h
        · rw [(hρi x hx).1 h]; omega
        · have := (hiff x hx hcx).1 h
          omega
      · by_cases hxp : x = p
        · rw [hxp]; exact .inl hρ
        · exact .inr (hA x (D.wr p x hp hx hc hcx (by omega)))
end
end Go.Av
