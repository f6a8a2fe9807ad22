/-
  AvV: The marks for the run: what each step comes to.
  AvX: What is known of functions, one by one; values of Lean as abstract values, and back.
  SnN: Numbers and compact codes of functions.
  SnO: Numbers and compact codes of functions.
  SnQ: Numbers and compact codes of functions.
  SnR: Numbers and compact codes of functions.
-/
import Derived.Test.YthjmodhemglgbaaBC
import Derived.Laws.Strings
import Derived.Test.YthjmodhemglgbaaRows
set_option linter.unusedSimpArgs false
set_option linter.unusedVariables false

namespace Go.Av
open Go.RowKit

section
variable (v : Value) (l cs : List V) (sz t b o k j : Nat) (xs : List (List V)) (f : FuncId) (T : TypeId) (u : V) (m : Mem)
@[simp] theorem one_val : (V.val v).one = true := rfl
@[simp] theorem one_lit : (V.lit sz xs).one = true := rfl
@[simp] theorem one_full : (V.full sz xs).one = true := rfl
@[simp] theorem one_row : (V.row t sz xs).one = true := rfl
@[simp] theorem one_ptr : (V.ptr b o).one = true := rfl
@[simp] theorem one_eptr : (V.eptr cs).one = true := rfl
@[simp] theorem one_func : (V.func f l).one = true := rfl
@[simp] theorem one_iface : (V.iface T u).one = true := rfl
@[simp] theorem one_ref (q : Rk) : (V.ref q b).one = true := rfl
@[simp] theorem cells_ref (q : Rk) : (V.ref q b).cells = [.ref q b] := rfl
@[simp] theorem one_agg : (V.agg l).one = false := rfl
@[simp] theorem one_tuple' : (V.tuple l).one = false := rfl
@[simp] theorem cells_agg : (V.agg l).cells = l := rfl
@[simp] theorem cells_val : (V.val v).cells = [.val v] := rfl
@[simp] theorem cells_lit : (V.lit sz xs).cells = [.lit sz xs] := rfl
@[simp] theorem cells_full : (V.full sz xs).cells = [.full sz xs] := rfl
@[simp] theorem cells_row : (V.row t sz xs).cells = [.row t sz xs] := rfl
@[simp] theorem cells_ptr : (V.ptr b o).cells = [.ptr b o] := rfl
@[simp] theorem cells_eptr : (V.eptr cs).cells = [.eptr cs] := rfl
@[simp] theorem cells_func : (V.func f l).cells = [.func f l] := rfl
@[simp] theorem cells_iface : (V.iface T u).cells = [.iface T u] := rfl
@[simp] theorem top1_val : (V.val v).top1 = .val v := rfl
@[simp] theorem top1_lit : (V.lit sz xs).top1 = .lit sz xs := rfl
@[simp] theorem top1_full : (V.full sz xs).top1 = .lit sz xs := rfl
@[simp] theorem top1_row : (V.row t sz xs).top1 = .lit sz xs := rfl
@[simp] theorem top1_ptr : (V.ptr b o).top1 = .ptr b o := rfl
@[simp] theorem top1_eptr : (V.eptr cs).top1 = .eptr cs := rfl
@[simp] theorem top1_func : (V.func f l).top1 = .func f l := rfl
@[simp] theorem top1_agg : (V.agg l).top1 = .agg l := rfl
@[simp] theorem top1_iface : (V.iface T u).top1 = .iface T u := rfl
@[simp] theorem top_val : (V.val v).top = .val v := rfl
@[simp] theorem top_lit : (V.lit sz xs).top = .lit sz xs := rfl
@[simp] theorem top_full : (V.full sz xs).top = .lit sz xs := rfl
@[simp] theorem top_row : (V.row t sz xs).top = .lit sz xs := rfl
@[simp] theorem top_ptr : (V.ptr b o).top = .ptr b o := rfl
@[simp] theorem top_eptr : (V.eptr cs).top = .eptr cs := rfl
@[simp] theorem top_func : (V.func f l).top = .func f l := rfl
@[simp] theorem top_iface : (V.iface T u).top = .iface T u := rfl
@[simp] theorem top_agg : (V.agg l).top = .agg (l.map V.top1) := rfl
@[simp] theorem top_tuple : (V.tuple l).top = .tuple (l.map V.top1) := rfl
@[simp] theorem shift_row : (V.row t sz xs).shift k = .row (t + k) sz xs := rfl
@[simp] theorem shift_val : (V.val v).shift k = .val v := rfl
@[simp] theorem shift_lit : (V.lit sz xs).shift k = .lit sz xs := rfl
@[simp] theorem shift_full : (V.full sz xs).shift k = .full sz xs := rfl
@[simp] theorem shift_agg : (V.agg l).shift k = .agg l := rfl
@[simp] theorem shift_tuple : (V.tuple l).shift k = .tuple (l.map (V.shift1 k)) := rfl
@[simp] theorem shift1_row : (V.row t sz xs).shift1 k = .row (t + k) sz xs := rfl
@[simp] theorem shift1_val : (V.val v).shift1 k = .val v := rfl
@[simp] theorem shift1_lit : (V.lit sz xs).shift1 k = .lit sz xs := rfl
@[simp] theorem shift1_full : (V.full sz xs).shift1 k = .full sz xs := rfl
@[simp] theorem shift1_agg : (V.agg l).shift1 k = .agg l := rfl
@[simp] theorem at_ptr : (V.ptr b o).at m = (m.boxes[b]?).bind fun cs => if isObj cs = true then none else some (cs.drop o) := rfl
@[simp] theorem isObj_nil : isObj [] = false := rfl
@[simp] theorem isObj_two (a c : V) : isObj (a :: c :: l) = false := by cases a <;> rfl
@[simp] theorem isObj_val : isObj [.val v] = false := rfl
@[simp] theorem isObj_lit : isObj [.lit sz xs] = false := rfl
@[simp] theorem isObj_full : isObj [.full sz xs] = false := rfl
@[simp] theorem isObj_row : isObj [.row t sz xs] = false := rfl
@[simp] theorem isObj_ptr : isObj [.ptr b o] = false := rfl
@[simp] theorem isObj_eptr : isObj [.eptr cs] = false := rfl
@[simp] theorem isObj_func : isObj [.func f l] = false := rfl
@[simp] theorem isObj_iface : isObj [.iface T u] = false := rfl
@[simp] theorem isObj_tuple' : isObj [.tuple l] = true := rfl
@[simp] theorem at_eptr : (V.eptr cs).at m = some cs := rfl
@[simp] theorem one_anyc : V.anyc.one = true := rfl
@[simp] theorem cells_anyc : V.anyc.cells = [.anyc] := rfl
@[simp] theorem isObj_anyc : isObj [.anyc] = false := rfl
@[simp] theorem cells_buf (off n lc : Nat) : (V.buf off sz n lc b).cells = [.buf off sz n lc b] := rfl
@[simp] theorem one_buf (off n lc : Nat) : (V.buf off sz n lc b).one = true := rfl
@[simp] theorem isObj_buf (off n lc : Nat) : isObj [.buf off sz n lc b] = false := rfl
@[simp] theorem top1_buf (off n lc : Nat) : (V.buf off sz n lc b).top1 = .buf off sz n lc b := rfl
@[simp] theorem shift1_buf (off n lc : Nat) : (V.buf off sz n lc b).shift1 k = .buf off sz n lc b := rfl
@[simp] theorem cells_alts : (V.alts l).cells = [.alts l] := rfl
@[simp] theorem one_alts : (V.alts l).one = l.all fun v => match v with | .val _ => true | _ => false := rfl
@[simp] theorem isObj_alts : isObj [.alts l] = false := rfl
@[simp] theorem top1_alts : (V.alts l).top1 = .alts l := rfl
@[simp] theorem top_alts : (V.alts l).top = .alts l := rfl
@[simp] theorem shift_alts : (V.alts l).shift k = .alts l := rfl
@[simp] theorem shift1_alts : (V.alts l).shift1 k = .alts l := rfl
@[simp] theorem elems_lit : (V.lit sz xs).elems = some (sz, xs) := rfl
@[simp] theorem elems_full : (V.full sz xs).elems = some (sz, xs) := rfl
@[simp] theorem elems_row : (V.row t sz xs).elems = some (sz, xs) := rfl
@[simp] theorem elems_val : (V.val v).elems = none := rfl
@[simp] theorem isNil_nil : (V.val (.slice none 0 0)).isNil = true := rfl
@[simp] theorem isNil_lit : (V.lit sz xs).isNil = false := rfl
@[simp] theorem isNil_full : (V.full sz xs).isNil = false := rfl
@[simp] theorem isNil_row : (V.row t sz xs).isNil = false := rfl
@[simp] theorem one_emp : (V.emp sz).one = true := rfl
@[simp] theorem cells_emp : (V.emp sz).cells = [.emp sz] := rfl
@[simp] theorem isObj_emp : isObj [.emp sz] = false := rfl
@[simp] theorem elems_emp : (V.emp sz).elems = some (sz, []) := rfl
@[simp] theorem isNil_emp : (V.emp sz).isNil = false := rfl
@[simp] theorem top1_emp : (V.emp sz).top1 = .lit sz [] := rfl
end

theorem clean_drop (n : Nat) : ∀ (l : List (List V)), cleanX l = true → cleanX (l.drop n) = true := by
  induction n with
  | zero => intro l h; exact h
  | succ n ih =>
    intro l h
    cases l with
    | nil => rfl
    | cons x l => simp only [cleanX, Bool.and_eq_true] at h; exact ih l h.2
theorem clean_take (n : Nat) : ∀ (l : List (List V)), cleanX l = true → cleanX (l.take n) = true := by
  induction n with
  | zero => intro l _; rfl
  | succ n ih =>
    intro l h
    cases l with
    | nil => rfl
    | cons x l => simp only [cleanX, Bool.and_eq_true] at h; simp only [List.take_succ_cons, cleanX, h.1, ih l h.2]; rfl
attribute [simp] V.isClean cleanL cleanX V.under underL underX

-- Two numbers.
def bitAnd (k : IntKind) (a b : Int) : Int := k.wrap (BitVec.ofInt k.bits a &&& BitVec.ofInt k.bits b).toNat
def bitOr (k : IntKind) (a b : Int) : Int := k.wrap (BitVec.ofInt k.bits a ||| BitVec.ofInt k.bits b).toNat
def bitXor (k : IntKind) (a b : Int) : Int := k.wrap (BitVec.ofInt k.bits a ^^^ BitVec.ofInt k.bits b).toNat
@[simp] theorem mxOk_none (s : Nat → V) (h : Int) : mxOk s none h = true := rfl
section
variable (k : IntKind) (a b : Int)
@[simp] theorem binV_feql (k : FloatKind) (a b : Nat) : binV .eql (.val (.float k a)) (.val (.float k b)) = some (.val (.bool (Op.floatEq k a b))) := by simp [binV]
@[simp] theorem binV_fneq (k : FloatKind) (a b : Nat) : binV .neq (.val (.float k a)) (.val (.float k b)) = some (.val (.bool (!Op.floatEq k a b))) := by simp [binV]
@[simp] theorem binV_ceql (k : FloatKind) (a b c d : Nat) : binV .eql (.val (.complex k a b)) (.val (.complex k c d)) = some (.val (.bool (Op.floatEq k a c && Op.floatEq k b d))) := by simp [binV]
@[simp] theorem binV_cneq (k : FloatKind) (a b c d : Nat) : binV .neq (.val (.complex k a b)) (.val (.complex k c d)) = some (.val (.bool (!(Op.floatEq k a c && Op.floatEq k b d)))) := by simp [binV]
@[simp] theorem binV_add : binV .add (.val (.int k a)) (.val (.int k b)) = some (.val (.int k (k.wrap (a + b)))) := by simp [binV]
@[simp] theorem binV_sub : binV .sub (.val (.int k a)) (.val (.int k b)) = some (.val (.int k (k.wrap (a - b)))) := by simp [binV]
@[simp] theorem binV_mul : binV .mul (.val (.int k a)) (.val (.int k b)) = some (.val (.int k (k.wrap (a * b)))) := by simp [binV]
@[simp] theorem binV_quo : binV .quo (.val (.int k a)) (.val (.int k b)) = if b ≠ 0 then some (.val (.int k (k.wrap (a.tdiv b)))) else none := by simp [binV]
@[simp] theorem binV_rem : binV .rem (.val (.int k a)) (.val (.int k b)) = if b ≠ 0 then some (.val (.int k (a.tmod b))) else none := by simp [binV]
@[simp] theorem binV_and : binV .and (.val (.int k a)) (.val (.int k b)) = some (.val (.int k (bitAnd k a b))) := by simp only [binV, if_true]; rfl
@[simp] theorem binV_or : binV .or (.val (.int k a)) (.val (.int k b)) = some (.val (.int k (bitOr k a b))) := by simp only [binV, if_true]; rfl
@[simp] theorem binV_xor : binV .xor (.val (.int k a)) (.val (.int k b)) = some (.val (.int k (bitXor k a b))) := by simp only [binV, if_true]; rfl
@[simp] theorem binV_eql : binV .eql (.val (.int k a)) (.val (.int k b)) = some (.val (.bool (decide (a = b)))) := by simp only [binV, if_true]; rfl
@[simp] theorem binV_neq : binV .neq (.val (.int k a)) (.val (.int k b)) = some (.val (.bool (!decide (a = b)))) := by simp only [binV, if_true]; rfl
@[simp] theorem binV_lss : binV .lss (.val (.int k a)) (.val (.int k b)) = some (.val (.bool (decide (a < b)))) := by simp [binV]
@[simp] theorem binV_leq : binV .leq (.val (.int k a)) (.val (.int k b)) = some (.val (.bool (decide (a ≤ b)))) := by simp [binV]
@[simp] theorem binV_gtr : binV .gtr (.val (.int k a)) (.val (.int k b)) = some (.val (.bool (decide (b < a)))) := by simp [binV]
@[simp] theorem binV_geq : binV .geq (.val (.int k a)) (.val (.int k b)) = some (.val (.bool (decide (b ≤ a)))) := by simp [binV]
@[simp] theorem binV_shl (k' : IntKind) : binV .shl (.val (.int k a)) (.val (.int k' b)) = if 0 ≤ b then some (.val (.int k (k.wrap (a * 2 ^ (min b.toNat k.bits))))) else none := by
  simp only [binV]
  by_cases h : b < 0
  · rw [if_pos h, if_neg (by omega)]
  · rw [if_neg h, if_pos (by omega)]
@[simp] theorem binV_shr (k' : IntKind) : binV .shr (.val (.int k a)) (.val (.int k' b)) = if 0 ≤ b then some (.val (.int k (a.fdiv (2 ^ (min b.toNat k.bits))))) else none := by
  simp only [binV]
  by_cases h : b < 0
  · rw [if_pos h, if_neg (by omega)]
  · rw [if_neg h, if_pos (by omega)]
end

/-- What is to be reckoned. -/
def NF {α : Sort _} (x : α) : α := x
@[simp] theorem NF_def {α : Sort _} (x : α) : NF x = x := Eq.trans rfl rfl
section
variable {q : Bool} {P : Program} {Y : YRel} {D : Orc} {s : Nat → V} {m : Mem} {Q : Exit → (Nat → V) → Mem → Prop} {a b c : C} {F : V → Mem → Prop} {Kt : (Nat → V) → Mem → Prop}
section
variable {α β : Type}
@[congr] theorem letW_congr {v v' : α} {F : α → Prop} (h : NF v = v') : letW v F = letW v' F := by rw [← h]; rfl
@[simp] theorem letW_def {v : α} {F : α → Prop} : letW v F = F v := Eq.trans rfl rfl
@[congr] theorem optW_congr {v v' : Option α} {F : α → Prop} (h : NF v = v') : optW v F = optW v' F := by rw [← h]; rfl
@[simp] theorem optW_some {v : α} {F : α → Prop} : optW (some v) F = F v := Eq.trans rfl rfl
@[simp] theorem optW_none {F : α → Prop} : optW none F = False := Eq.trans rfl rfl
@[simp] theorem optW_guard {c : Prop} [Decidable c] {x : Option α} {F : α → Prop} : optW (if c then x else none) F = (c ∧ optW x F) := by
  split
  · rename_i h; simp [h]
  · rename_i h; simp [h]
@[simp] theorem optW_map {x : Option β} {f : β → α} {F : α → Prop} : optW (x.map f) F = optW x fun y => F (f y) := by
  cases x <;> simp
end
@[congr] theorem intW_congr {v v' : V} {F : IntKind → Int → Prop} (h : NF v = v') : intW v F = intW v' F := by rw [← h]; rfl
@[simp] theorem intW_val {k : IntKind} {n : Int} {F : IntKind → Int → Prop} : intW (.val (.int k n)) F = F k n := Eq.trans rfl rfl
@[congr] theorem boolW_congr {v v' : V} {F : Bool → Prop} (h : NF v = v') : boolW v F = boolW v' F := by rw [← h]; rfl
@[simp] theorem boolW_val {n : Bool} {F : Bool → Prop} : boolW (.val (.bool n)) F = F n := Eq.trans rfl rfl
@[congr] theorem strW_congr {v v' : V} {F : ByteArray → Prop} (h : NF v = v') : strW v F = strW v' F := by rw [← h]; rfl
@[simp] theorem strW_val {n : ByteArray} {F : ByteArray → Prop} : strW (.val (.string n)) F = F n := Eq.trans rfl rfl
@[congr] theorem tupW_congr {v v' : V} {F : List V → Prop} (h : NF v = v') : tupW v F = tupW v' F := by rw [← h]; rfl
@[simp] theorem tupW_tuple {l : List V} {F : List V → Prop} : tupW (.tuple l) F = F l := Eq.trans rfl rfl
@[congr] theorem aggW_congr {v v' : V} {F : List V → Prop} (h : NF v = v') : aggW v F = aggW v' F := by rw [← h]; rfl
@[simp] theorem aggW_agg {l : List V} {F : List V → Prop} : aggW (.agg l) F = F l := Eq.trans rfl rfl
@[congr] theorem ptrW_congr {v v' : V} {F : Nat → Nat → Prop} (h : NF v = v') : ptrW v F = ptrW v' F := by rw [← h]; rfl
@[simp] theorem ptrW_ptr {b o : Nat} {F : Nat → Nat → Prop} : ptrW (.ptr b o) F = F b o := Eq.trans rfl rfl
@[congr] theorem eptrW_congr {v v' : V} {F : List V → Prop} (h : NF v = v') : eptrW v F = eptrW v' F := by rw [← h]; rfl
@[simp] theorem eptrW_eptr {l : List V} {F : List V → Prop} : eptrW (.eptr l) F = F l := Eq.trans rfl rfl
@[congr] theorem fadW_congr {v v' : V} {off : Nat} {F : V → Prop} (h : NF v = v') : fadW v off F = fadW v' off F := by rw [← h]; rfl
@[simp] theorem fadW_ptr {b o off : Nat} {F : V → Prop} : fadW (.ptr b o) off F = letW (.ptr b (o + off)) F := Eq.trans rfl rfl
@[simp] theorem fadW_eptr {cs : List V} {off : Nat} {F : V → Prop} : fadW (.eptr cs) off F = letW (.eptr (cs.drop off)) F := Eq.trans rfl rfl
@[congr] theorem pickW_congr {c c' a b : V} {F : V → Prop} (h : NF c = c') : pickW c a b F = pickW c' a b F := by rw [← h]; rfl
@[simp] theorem pickW_true {a b : V} {F : V → Prop} : pickW (.val (.bool true)) a b F = letW a F := by simp [pickW, letW]
@[simp] theorem pickW_false {a b : V} {F : V → Prop} : pickW (.val (.bool false)) a b F = letW b F := by simp [pickW, letW]
theorem pickW_val {t : Bool} {a b : V} {F : V → Prop} : pickW (.val (.bool t)) a b F = ((t = true → letW a F) ∧ (t = false → letW b F)) := by simp [pickW, letW]
attribute [simp low] pickW_val
@[congr] theorem snilW_congr {v v' : V} {F : Bool → Prop} (h : NF v = v') : snilW v F = snilW v' F := by rw [← h]; rfl
@[simp] theorem snilW_nil {F : Bool → Prop} : snilW (.val (.slice none 0 0)) F = F true := Eq.trans rfl rfl
@[simp] theorem snilW_emp {z : Nat} {F : Bool → Prop} : snilW (.emp z) F = F false := Eq.trans rfl rfl
@[simp] theorem snilW_lit {z : Nat} {x : List V} {l : List (List V)} {F : Bool → Prop} : snilW (.lit z (x :: l)) F = F false := Eq.trans rfl rfl
@[simp] theorem snilW_full {z : Nat} {x : List V} {l : List (List V)} {F : Bool → Prop} : snilW (.full z (x :: l)) F = F false := Eq.trans rfl rfl
@[simp] theorem snilW_row {t z : Nat} {x : List V} {l : List (List V)} {F : Bool → Prop} : snilW (.row t z (x :: l)) F = F false := Eq.trans rfl rfl
@[congr] theorem elemsW_congr {v v' : V} {F : Nat → List (List V) → Prop} (h : NF v = v') : elemsW v F = elemsW v' F := by rw [← h]; rfl
@[simp] theorem elemsW_lit {z : Nat} {l : List (List V)} {F : Nat → List (List V) → Prop} : elemsW (.lit z l) F = F z l := Eq.trans rfl rfl
@[simp] theorem elemsW_full {z : Nat} {l : List (List V)} {F : Nat → List (List V) → Prop} : elemsW (.full z l) F = F z l := Eq.trans rfl rfl
@[simp] theorem elemsW_row {t z : Nat} {l : List (List V)} {F : Nat → List (List V) → Prop} : elemsW (.row t z l) F = F z l := Eq.trans rfl rfl
@[congr] theorem srcW_congr {v v' : V} {sz : Nat} {F : Bool → List (List V) → Prop} (h : NF v = v') : srcW v sz F = srcW v' sz F := by rw [← h]; rfl
section
variable {z sz t : Nat} {l : List (List V)} {F : Bool → List (List V) → Prop}
@[simp] theorem srcW_nil : srcW (.val (.slice none 0 0)) sz F = F true [] := Eq.trans rfl rfl
@[simp] theorem srcW_emp : srcW (.emp z) sz F = (z = sz ∧ F false []) := Eq.trans rfl rfl
@[simp] theorem srcW_lit : srcW (.lit z l) sz F = (z = sz ∧ F false l) := Eq.trans rfl rfl
@[simp] theorem srcW_full : srcW (.full z l) sz F = (z = sz ∧ F false l) := Eq.trans rfl rfl
@[simp] theorem srcW_row : srcW (.row t z l) sz F = (z = sz ∧ F false l) := Eq.trans rfl rfl
end
@[congr] theorem lenW_congr {v v' : V} {F : Int → Prop} (h : NF v = v') : lenW v F = lenW v' F := by rw [← h]; rfl
section
variable {z sz t : Nat} {l : List (List V)} {F : Int → Prop}
@[simp] theorem lenW_nil : lenW (.val (.slice none 0 0)) F = F 0 := Eq.trans rfl rfl
@[simp] theorem lenW_emp : lenW (.emp z) F = F 0 := Eq.trans rfl rfl
@[simp] theorem lenW_lit : lenW (.lit z l) F = letW (l.length : Int) F := Eq.trans rfl rfl
@[simp] theorem lenW_full : lenW (.full z l) F = letW (l.length : Int) F := Eq.trans rfl rfl
@[simp] theorem lenW_row : lenW (.row t z l) F = letW (l.length : Int) F := Eq.trans rfl rfl
@[simp ↓] theorem idxW_none {d : Int} : idxW s none d F = letW d F := Eq.trans rfl rfl
@[simp ↓] theorem idxW_some {d : Int} {x : X} : idxW s (some x) d F = intW (x.ev s) fun _ n => F n := Eq.trans rfl rfl
end
@[simp ↓] theorem newW_true {e sz : Nat} {xs : List (List V)} : newW true m e sz xs F = letW xs fun xs => letW ({ m with tips := m.tips ++ [(e, sz, xs.length)] } : Mem) fun m' => F (.row m.tips.length sz xs) m' := Eq.trans rfl rfl
@[simp ↓] theorem newW_false {e sz : Nat} {xs : List (List V)} : newW false m e sz xs F = letW xs fun xs => F (.lit sz xs) m := Eq.trans rfl rfl
@[congr] theorem appW_congr {v v' : V} {ys : List (List V)} {e sz bytes : Nat} {own : Bool} {m : Mem} (h : NF v = v') : appW v ys e sz bytes own m F = appW v' ys e sz bytes own m F := by rw [← h]; rfl
@[simp] theorem appW_row {t szx : Nat} {xs ys : List (List V)} {e sz bytes : Nat} {own : Bool} : appW (.row t szx xs) ys e sz bytes own m F = ((m.tips[t]? = some (e, sz, xs.length) ∧ szx = sz ∧ (xs.length + ys.length) * bytes ≤ 140737488355328) ∧ letW (xs ++ ys) fun zs => letW ({ m with tips := m.tips.set t (e, sz, zs.length) } : Mem) fun m' => F (.row t sz zs) m') := Eq.trans rfl rfl
@[simp] theorem appW_full {szx : Nat} {xs ys : List (List V)} {e sz bytes : Nat} {own : Bool} : appW (.full szx xs) ys e sz bytes own m F = ((ys = [] → F (.full szx xs) m) ∧ (ys ≠ [] → (szx = sz ∧ (xs.length + ys.length) * bytes ≤ 140737488355328) ∧ newW own m e sz (xs ++ ys) F)) := Eq.trans rfl rfl
@[simp] theorem appW_nil {ys : List (List V)} {e sz bytes : Nat} {own : Bool} : appW (.val (.slice none 0 0)) ys e sz bytes own m F = ((ys = [] → F (.val (.slice none 0 0)) m) ∧ (ys ≠ [] → ys.length * bytes ≤ 140737488355328 ∧ newW own m e sz ys F)) := Eq.trans rfl rfl
/-- A slice that is written. -/
def sliW (v : V) (F : Nat → Nat → Nat → Nat → Prop) : Prop := match v with
  | .ref (.sli off sz n) b => F off sz n b
  | .buf off sz n _ b => F off sz n b
  | _ => False
@[congr] theorem sliW_congr {v v' : V} {F : Nat → Nat → Nat → Nat → Prop} (h : NF v = v') : sliW v F = sliW v' F := by rw [← h]; rfl
@[simp] theorem sliW_sli {off sz n b : Nat} {F : Nat → Nat → Nat → Nat → Prop} : sliW (.ref (.sli off sz n) b) F = F off sz n b := Eq.trans rfl rfl
@[simp] theorem sliW_buf {off sz n lc b : Nat} {F : Nat → Nat → Nat → Nat → Prop} : sliW (.buf off sz n lc b) F = F off sz n b := Eq.trans rfl rfl
/-- From now on as it is; or it is already. -/
def frW (v : V) (A : Nat → Nat → Nat → Nat → Prop) (G : V → Prop) : Prop := match v with
  | .ref (.sli off sz n) b => A off sz n b
  | .buf off sz n _ b => A off sz n b
  | .val (.slice none 0 0) => G (.val (.slice none 0 0))
  | .lit sz xs => G (.lit sz xs)
  | .full sz xs => G (.full sz xs)
  | .row t sz xs => G (.row t sz xs)
  | .emp sz => G (.emp sz)
  | _ => False
section
variable {A : Nat → Nat → Nat → Nat → Prop} {G : V → Prop}
@[congr] theorem frW_congr {v v' : V} (h : NF v = v') : frW v A G = frW v' A G := by rw [← h]; rfl
@[simp] theorem frW_sli {off sz n b : Nat} : frW (.ref (.sli off sz n) b) A G = A off sz n b := Eq.trans rfl rfl
@[simp] theorem frW_buf {off sz n lc b : Nat} : frW (.buf off sz n lc b) A G = A off sz n b := Eq.trans rfl rfl
@[simp] theorem frW_nil : frW (.val (.slice none 0 0)) A G = G (.val (.slice none 0 0)) := Eq.trans rfl rfl
@[simp] theorem frW_lit {sz : Nat} {xs : List (List V)} : frW (.lit sz xs) A G = G (.lit sz xs) := Eq.trans rfl rfl
@[simp] theorem frW_full {sz : Nat} {xs : List (List V)} : frW (.full sz xs) A G = G (.full sz xs) := Eq.trans rfl rfl
@[simp] theorem frW_row {t sz : Nat} {xs : List (List V)} : frW (.row t sz xs) A G = G (.row t sz xs) := Eq.trans rfl rfl
@[simp] theorem frW_emp {sz : Nat} : frW (.emp sz) A G = G (.emp sz) := Eq.trans rfl rfl
end
theorem frzW_eq (v : V) (m : Mem) (F : V → Mem → Prop) : goWp (memE .frz [v] m) F = frW v (fun off sz n b => optW m.boxes[b]? fun cs => (isObj cs = false ∧ off + n * sz ≤ cs.length) ∧ letW (.lit sz (chunkV sz n (cs.drop off))) fun v => letW { m with boxes := m.boxes.set b deadC } fun m' => F v m') fun v => F v m := by
  cases v <;> try rfl
  · rename_i x
    by_cases h : x = .slice none 0 0
    · subst h; rfl
    · have e : V.isNil (.val x) = false := by
        unfold V.isNil
        split
        · rename_i e; cases e; exact absurd rfl h
        · rfl
      have e2 : memE .frz [.val x] m = none := by
        show (if (V.elems (.val x)).isSome = true ∨ V.isNil (.val x) = true then some (V.val x, m) else none) = none
        rw [if_neg]
        rw [e]
        simp [V.elems]
      rw [e2]
      unfold frW
      split
      all_goals first
        | (rename_i e; cases e; done)
        | (rename_i e; cases e; exact absurd rfl h)
        | rfl
  · rename_i k b
    cases k with
    | map => rfl
    | sli off sz n =>
      rw [frW_sli]
      simp only [memE]
      cases m.boxes[b]? with
      | none => rfl
      | some cs =>
        simp only
        split
        · rename_i h; exact propext ⟨fun k => ⟨h, k⟩, fun k => k.2⟩
        · rename_i h; exact propext ⟨fun k => k.elim, fun k => h k.1⟩
  · rename_i off sz n lc b
    rw [frW_buf]
    simp only [memE]
    cases m.boxes[b]? with
    | none => rfl
    | some cs =>
      simp only
      split
      · rename_i h; exact propext ⟨fun k => ⟨h, k⟩, fun k => k.2⟩
      · rename_i h; exact propext ⟨fun k => k.elim, fun k => h k.1⟩
theorem ixrW_eq (v u : V) (sz : Nat) (m : Mem) (F : V → Mem → Prop) : goWp (memE (.ixr sz) [v, u] m) F = sliW v fun off sz' n b => intW u fun _ i => (sz' = sz ∧ 0 ≤ i ∧ i < n) ∧ letW (.ptr b (off + i.toNat * sz)) fun v => F v m := by
  cases v <;> try rfl
  · rename_i k b
    cases k with
    | map => rfl
    | sli off sz' n =>
      rw [sliW_sli]
      cases u <;> try rfl
      rename_i w
      cases w <;> try rfl
      simp only [memE]
      split
      · rename_i h; exact propext ⟨fun k => ⟨h, k⟩, fun k => k.2⟩
      · rename_i h; exact propext ⟨fun k => k.elim, fun k => h k.1⟩
  · rename_i off sz' n lc b
    rw [sliW_buf]
    cases u <;> try rfl
    rename_i w
    cases w <;> try rfl
    simp only [memE]
    split
    · rename_i h; exact propext ⟨fun k => ⟨h, k⟩, fun k => k.2⟩
    · rename_i h; exact propext ⟨fun k => k.elim, fun k => h k.1⟩
/-- How many elements a slice has, wherever it lies. -/
def slnW (v : V) (F : Int → Prop) : Prop := match v with
  | .ref (.sli _ _ n) _ => F n
  | .buf _ _ n _ _ => F n
  | .val (.slice none 0 0) => F 0
  | .lit _ xs | .full _ xs | .row _ _ xs => F xs.length
  | .emp _ => F 0
  | _ => False
@[congr] theorem slnW_congr {v v' : V} {F : Int → Prop} (h : NF v = v') : slnW v F = slnW v' F := by rw [← h]; rfl
@[simp] theorem slnW_sli {off sz n b : Nat} {F : Int → Prop} : slnW (.ref (.sli off sz n) b) F = F n := Eq.trans rfl rfl
@[simp] theorem slnW_buf {off sz n lc b : Nat} {F : Int → Prop} : slnW (.buf off sz n lc b) F = F n := Eq.trans rfl rfl
@[simp] theorem slnW_nil {F : Int → Prop} : slnW (.val (.slice none 0 0)) F = F 0 := Eq.trans rfl rfl
@[simp] theorem slnW_emp {sz : Nat} {F : Int → Prop} : slnW (.emp sz) F = F 0 := Eq.trans rfl rfl
@[simp] theorem slnW_lit {sz : Nat} {xs : List (List V)} {F : Int → Prop} : slnW (.lit sz xs) F = F xs.length := Eq.trans rfl rfl
@[simp] theorem slnW_full {sz : Nat} {xs : List (List V)} {F : Int → Prop} : slnW (.full sz xs) F = F xs.length := Eq.trans rfl rfl
@[simp] theorem slnW_row {t sz : Nat} {xs : List (List V)} {F : Int → Prop} : slnW (.row t sz xs) F = F xs.length := Eq.trans rfl rfl
theorem lnrW_eq (v : V) (m : Mem) (F : V → Mem → Prop) : goWp (memE .lnr [v] m) F = slnW v fun n => F (.val (.int .i64 n)) m := by
  cases v <;> try rfl
  · rename_i x
    simp only [memE, V.elems]
    unfold slnW
    split
    · rename_i e; cases e; rfl
    · rename_i h
      split
      all_goals first
        | (rename_i e; cases e; done)
        | (rename_i e; cases e; exact absurd rfl h)
        | rfl
  · rename_i k b
    cases k <;> rfl
def aggW2 (v : V) (F : List V → Prop) : Prop := match v with
  | .agg l => F l
  | _ => False
@[congr] theorem aggW2_congr {v v' : V} {F : List V → Prop} (h : NF v = v') : aggW2 v F = aggW2 v' F := by rw [← h]; rfl
@[simp] theorem aggW2_agg {l : List V} {F : List V → Prop} : aggW2 (.agg l) F = F l := Eq.trans rfl rfl
theorem aeqW_eq (v u : V) (ne : Bool) (ks : List IntKind) (m : Mem) (F : V → Mem → Prop) : goWp (memE (.aeq ne ks) [v, u] m) F = aggW2 v fun l1 => aggW2 u fun l2 => optW (intsOf ks l1) fun p => optW (intsOf ks l2) fun q => F (.val (.bool (if ne = true then !decide (p = q) else decide (p = q)))) m := by
  cases v <;> try rfl
  rename_i l1
  rw [aggW2_agg]
  cases u <;> try rfl
  rename_i l2
  rw [aggW2_agg]
  simp only [memE]
  cases intsOf ks l1 with
  | none => rfl
  | some p =>
    cases intsOf ks l2 with
    | none => rfl
    | some q => rfl
/-- A slice that lies in a box, and may be appended to. -/
def bufW (v : V) (F : Nat → Nat → Nat → Nat → Prop) : Prop := match v with
  | .buf off sz n _ b => F off sz n b
  | _ => False
@[congr] theorem bufW_congr {v v' : V} {F : Nat → Nat → Nat → Nat → Prop} (h : NF v = v') : bufW v F = bufW v' F := by rw [← h]; rfl
@[simp] theorem bufW_buf {off sz n lc b : Nat} {F : Nat → Nat → Nat → Nat → Prop} : bufW (.buf off sz n lc b) F = F off sz n b := Eq.trans rfl rfl
theorem apuW_go {sz bytes : Nat} {u : V} {ys : List (List V)} {m : Mem} {Φ : V → Mem → Prop} : apuW sz bytes u ys m Φ = goWp (apuE sz bytes u ys m) Φ := by
  have key : ∀ (p : Prop) [Decidable p] (v : V) (m1 : Mem), (p ∧ Φ v m1) = goWp (if p then some (v, m1) else none) Φ := by
    intro p _ v m1
    by_cases h : p
    · rw [if_pos h]; exact propext ⟨fun k => k.2, fun k => ⟨h, k⟩⟩
    · rw [if_neg h]; exact propext ⟨fun k => h k.1, fun k => k.elim⟩
  unfold apuW
  split
  · exact key _ _ _
  · exact key _ _ _
  · rename_i b
    simp only [apuE]
    cases m.boxes[b]? with
    | none => rfl
    | some cs => exact key _ _ _
  · rename_i h1 h2 h3
    have e : apuE sz bytes u ys m = none := by
      unfold apuE
      split
      · exact (h1 rfl).elim
      · exact (h2 _ rfl).elim
      · exact (h3 _ _ _ _ _ rfl).elim
      · rfl
    rw [e]
    rfl
theorem apxW_eq (u v : V) (e sz bytes : Nat) (m : Mem) (F : V → Mem → Prop) : goWp (memE (.apx e sz bytes) [u, v] m) F = apcW sz bytes u v m F := by
  simp only [memE]
  unfold apcW srcV apnE
  cases (if v.isNil = true then some (sz, []) else v.elems) with
  | none => rfl
  | some p =>
    obtain ⟨sz', ys⟩ := p
    by_cases h1 : sz' = sz
    · by_cases h2 : ys = []
      · by_cases h3 : slE u = true <;> simp [h1, h2, h3, goWp]
      · simp [h1, h2, apuW_go]
    · simp [h1, goWp]
theorem ixvW_eq (v u : V) (len sz : Nat) (m : Mem) (F : V → Mem → Prop) : goWp (memE (.ixv len sz) [v, u] m) F = aggW2 v fun l => intW u fun _ n => (0 ≤ n ∧ n < len ∧ n.toNat * sz + sz ≤ l.length) ∧ letW (.agg ((l.drop (n.toNat * sz)).take sz)) fun v => F v m := by
  cases v <;> try rfl
  rename_i l
  rw [aggW2_agg]
  cases u <;> try rfl
  rename_i w
  cases w <;> try rfl
  rename_i ik n
  show goWp (if 0 ≤ n ∧ n < len ∧ n.toNat * sz + sz ≤ l.length then some (.agg ((l.drop (n.toNat * sz)).take sz), m) else none) F = _
  split
  · rename_i h; exact propext ⟨fun k => ⟨h, k⟩, fun k => k.2⟩
  · rename_i h; exact propext ⟨fun k => k.elim, fun k => h k.1⟩
/-- A pointer that is none of none. -/
def nckW (v : V) (F : V → Prop) : Prop := match v with
  | .ptr b o => F (.ptr b o)
  | .eptr cs => F (.eptr cs)
  | _ => False
@[congr] theorem nckW_congr {v v' : V} {F : V → Prop} (h : NF v = v') : nckW v F = nckW v' F := by rw [← h]; rfl
@[simp] theorem nckW_ptr {b o : Nat} {F : V → Prop} : nckW (.ptr b o) F = F (.ptr b o) := Eq.trans rfl rfl
@[simp] theorem nckW_eptr {l : List V} {F : V → Prop} : nckW (.eptr l) F = F (.eptr l) := Eq.trans rfl rfl
theorem nckW_eq (v : V) (m : Mem) (F : V → Mem → Prop) : goWp (memE .nck [v] m) F = nckW v fun u => F u m := by cases v <;> rfl
theorem cvfW_eq (v : V) (k : FloatKind) (m : Mem) (F : V → Mem → Prop) : goWp (memE (.cvf k) [v] m) F = intW v fun _ n => F (.val (.float k (k.nearest n))) m := by
  cases v <;> try rfl
  rename_i w
  cases w <;> rfl
def fltW (v : V) (F : FloatKind → Nat → Prop) : Prop := match v with
  | .val (.float k n) => F k n
  | _ => False
@[congr] theorem fltW_congr {v v' : V} {F : FloatKind → Nat → Prop} (h : NF v = v') : fltW v F = fltW v' F := by rw [← h]; rfl
@[simp] theorem fltW_float {k : FloatKind} {n : Nat} {F : FloatKind → Nat → Prop} : fltW (.val (.float k n)) F = F k n := Eq.trans rfl rfl
def cpxW (v : V) (F : FloatKind → Nat → Nat → Prop) : Prop := match v with
  | .val (.complex k n j) => F k n j
  | _ => False
@[congr] theorem cpxW_congr {v v' : V} {F : FloatKind → Nat → Nat → Prop} (h : NF v = v') : cpxW v F = cpxW v' F := by rw [← h]; rfl
@[simp] theorem cpxW_complex {k : FloatKind} {n j : Nat} {F : FloatKind → Nat → Nat → Prop} : cpxW (.val (.complex k n j)) F = F k n j := Eq.trans rfl rfl
theorem cpxW_eq (v u : V) (m : Mem) (F : V → Mem → Prop) : goWp (memE .cpx [v, u] m) F = fltW v fun k a => fltW u fun k' b => k = k' ∧ F (.val (.complex k a b)) m := by
  cases v <;> try rfl
  rename_i w
  cases w <;> try rfl
  rename_i k a
  cases u <;> try rfl
  rename_i w
  cases w <;> try rfl
  rename_i k' b
  show goWp (memE .cpx [.val (.float k a), .val (.float k' b)] m) F = _
  simp only [memE]
  split
  · rename_i h; exact propext ⟨fun k => ⟨h, k⟩, fun k => k.2⟩
  · rename_i h; exact propext ⟨fun k => k.elim, fun k => h k.1⟩
theorem reiW_eq (v : V) (im : Bool) (m : Mem) (F : V → Mem → Prop) : goWp (memE (.rei im) [v] m) F = cpxW v fun k a b => F (.val (.float k (if im = true then b else a))) m := by
  cases v <;> try rfl
  rename_i w
  cases w <;> rfl
/-- Of nothing, to be appended to. -/
def empW (v : V) (F : Nat → Bool → Prop) : Prop := match v with
  | .val (.slice none 0 0) => F 0 true
  | .full sz [] => F sz false
  | _ => False
@[congr] theorem empW_congr {v v' : V} {F : Nat → Bool → Prop} (h : NF v = v') : empW v F = empW v' F := by rw [← h]; rfl
@[simp] theorem empW_nil {F : Nat → Bool → Prop} : empW (.val (.slice none 0 0)) F = F 0 true := Eq.trans rfl rfl
@[simp] theorem empW_full {sz : Nat} {F : Nat → Bool → Prop} : empW (.full sz []) F = F sz false := Eq.trans rfl rfl
theorem apbW_eq (v u : V) (e sz bytes : Nat) (m : Mem) (F : V → Mem → Prop) : goWp (memE (.apb e sz bytes) [v, u] m) F = empW v fun szx isn => elemsW u fun sz' ys => ((isn = true ∨ szx = sz) ∧ sz' = sz ∧ ys ≠ [] ∧ ys.length * bytes ≤ 140737488355328) ∧ letW { m with boxes := m.boxes ++ [ys.flatten] } fun m' => F (.ref (.sli 0 sz ys.length) m.boxes.length) m' := by
  have hel : ∀ (G : Nat → List (List V) → Prop), elemsW u G = match u.elems with
      | some (sz', ys) => G sz' ys
      | none => False := fun G => by cases u <;> rfl
  cases v <;> try rfl
  · rename_i w
    cases w <;> try rfl
    rename_i b n c
    cases b with
    | some b => rfl
    | none =>
      cases n with
      | succ n => rfl
      | zero =>
        cases c with
        | succ c => rfl
        | zero =>
          rw [empW_nil, hel]
          simp only [memE]
          cases u.elems with
          | none => rfl
          | some p =>
            simp only
            split
            · rename_i h; exact propext ⟨fun k => ⟨⟨.inl trivial, h⟩, k⟩, fun k => k.2⟩
            · rename_i h; exact propext ⟨fun k => k.elim, fun k => h k.1.2⟩
  · rename_i szx xs
    cases xs with
    | cons x xs => rfl
    | nil =>
      rw [empW_full, hel]
      simp only [memE]
      cases u.elems with
      | none => rfl
      | some p =>
        simp only
        split
        · rename_i h; exact propext ⟨fun k => ⟨⟨.inr h.1, h.2⟩, k⟩, fun k => k.2⟩
        · rename_i h; exact propext ⟨fun k => k.elim, fun k => h ⟨k.1.1.resolve_left (by simp), k.1.2⟩⟩
theorem mkbW_eq (v u : V) (e sz bytes : Nat) (z : List V) (m : Mem) (F : V → Mem → Prop) : goWp (memE (.mkb e sz bytes z) [v, u] m) F = intW v fun k a => intW u fun k' b => (k = .i64 ∧ k' = .i64 ∧ a = b ∧ 0 ≤ a ∧ a * bytes ≤ 140737488355328) ∧ letW { m with boxes := m.boxes ++ [(List.replicate a.toNat z).flatten] } fun m' => F (.ref (.sli 0 sz a.toNat) m.boxes.length) m' := by
  cases v <;> try rfl
  rename_i w
  cases w <;> try rfl
  rename_i k a
  cases u <;> try (cases k <;> rfl)
  rename_i w
  cases w <;> try (cases k <;> rfl)
  rename_i k' b
  show goWp (memE (.mkb e sz bytes z) [.val (.int k a), .val (.int k' b)] m) F = (_ ∧ _)
  cases k <;> cases k' <;> try exact propext ⟨fun h => h.elim, fun h => by simp at h⟩
  simp only [memE]
  split
  · rename_i h; exact propext ⟨fun k => ⟨⟨trivial, trivial, h⟩, k⟩, fun k => k.2⟩
  · rename_i h; exact propext ⟨fun k => k.elim, fun k => h k.1.2.2⟩
@[congr] theorem refW_congr {v v' : V} {m m' : Mem} {F : Nat → List (Int × V) → Prop} (h : NF v = v') (h2 : NF m = m') : refW v m F = refW v' m' F := by rw [← h, ← h2]; rfl
@[simp] theorem refW_map {b : Nat} {m : Mem} {F : Nat → List (Int × V) → Prop} : refW (.ref .map b) m F = optW ((m.boxes[b]?).bind mpO) fun kvs => F b kvs := Eq.trans rfl rfl
@[congr] theorem atW_congr {v v' : Option V} {F : V → Prop} {G : Prop} (h : NF v = v') : atW v F G = atW v' F G := by rw [← h]; rfl
@[simp] theorem atW_some {v : V} {F : V → Prop} {G : Prop} : atW (some v) F G = F v := Eq.trans rfl rfl
@[simp] theorem atW_none {F : V → Prop} {G : Prop} : atW none F G = G := Eq.trans rfl rfl
@[simp] theorem keepB_nil {s : Nat → V} {m m' : Mem} : keepB s m m' [] = True := rfl
@[simp] theorem keepB_cons {s : Nat → V} {m m' : Mem} {t : Nat} {r : List Nat} : keepB s m m' (t :: r) = ((match s t with | .ptr b _ => m'.boxes[b]? = m.boxes[b]? | _ => True) ∧ keepB s m m' r) := by
  refine propext (and_congr ⟨fun h => ?_, fun h b o e => ?_⟩ Iff.rfl)
  · split
    · rename_i b o e; exact h b o e
    · trivial
  · rw [e] at h; exact h
theorem mpE_map : ∀ kvs : List (Int × V), mpE (kvs.map fun p => .tuple [.val (.int .i64 p.1), p.2]) = some kvs
  | [] => rfl
  | p :: l => by simp [mpE, mpE_map l]
@[simp] theorem mpO_mpV (kvs : List (Int × V)) : mpO (mpV kvs) = some kvs := mpE_map kvs
@[simp] theorem mpAt_nil (q : Int) : mpAt [] q = none := rfl
@[simp] theorem mpAt_put (v : V) (q r : Int) : ∀ kvs, mpAt (mpPut kvs q v) r = if r = q then some v else mpAt kvs r
  | [] => by
    by_cases h : r = q
    · simp [mpPut, mpAt, h]
    · simp [mpPut, mpAt, h, Ne.symm h]
  | p :: l => by
    have ih := mpAt_put v q r l
    unfold mpPut
    by_cases hp : p.1 = q
    · rw [if_pos hp]
      by_cases h : r = q
      · simp [mpAt, h]
      · have : ¬ p.1 = r := fun e => h (e.symm.trans hp)
        simp [mpAt, h, Ne.symm h, this]
    · rw [if_neg hp]
      by_cases h : p.1 = r
      · have : ¬ r = q := fun e => hp (h.trans e)
        simp [mpAt, h, this]
      · rw [show mpAt (p :: mpPut l q v) r = mpAt (mpPut l q v) r by simp [mpAt, h], ih, show mpAt (p :: l) r = mpAt l r by simp [mpAt, h]]
@[congr] theorem goWp_congr {x x' : Option (V × Mem)} (h : NF x = x') : goWp x F = goWp x' F := by rw [← h]; rfl
@[simp] theorem goWp_some (v : V) (m : Mem) : goWp (some (v, m)) F = F v m := Eq.trans rfl rfl
@[simp] theorem goWp_none : goWp none F = False := Eq.trans rfl rfl
@[simp] theorem goWp_guard {c : Prop} [Decidable c] {x : Option (V × Mem)} : goWp (if c then x else none) F = (c ∧ goWp x F) := by
  split
  · rename_i h; simp [h]
  · rename_i h; simp [h]
theorem goWp_ite {c : Prop} [Decidable c] {x y : Option (V × Mem)} : goWp (if c then x else y) F = ((c → goWp x F) ∧ (¬ c → goWp y F)) := by
  split
  · rename_i h; simp [h]
  · rename_i h; simp [h]
@[simp] theorem goWp_ite2 {c : Prop} [Decidable c] {x y : V × Mem} : goWp (if c then some x else some y) F = ((c → goWp (some x) F) ∧ (¬ c → goWp (some y) F)) := goWp_ite
@[simp] theorem map_guard {α β : Type} {c : Prop} [Decidable c] {x : Option α} {f : α → β} : Option.map f (if c then x else none) = if c then Option.map f x else none := by split <;> rfl
@[simp] theorem bind_guard {α β : Type} {c : Prop} [Decidable c] {x : Option α} {f : α → Option β} : Option.bind (if c then x else none) f = if c then Option.bind x f else none := by split <;> rfl
@[simp] theorem goWp_map {α : Type} (x : Option α) (f : α → V × Mem) : goWp (x.map f) F = ∃ y, x = some y ∧ F (f y).1 (f y).2 := by
  cases x with
  | none => simp
  | some y => simp [goWp]
@[congr] theorem pureW_congr {x x' : Option (V × List Tip)} (h : NF x = x') : pureW x q m F = pureW x' q m F := by rw [← h]; rfl
@[simp] theorem pureW_some (v : V) (tips : List Tip) : pureW (some (v, tips)) false m F = letW (v.shift m.tips.length) fun v => letW (m.more tips) fun m' => F v m' := Eq.trans rfl rfl
@[simp] theorem pureW_quiet (v : V) (tips : List Tip) : pureW (some (v, tips)) true m F = (v.top.isClean = true ∧ letW v.top fun v => F v m) := Eq.trans rfl rfl
@[simp] theorem pureW_none : pureW none q m F = False := Eq.trans rfl rfl
@[simp] theorem pureW_guard {c : Prop} [Decidable c] {x : Option (V × List Tip)} : pureW (if c then x else none) q m F = (c ∧ pureW x q m F) := by
  split
  · rename_i h; simp [h]
  · rename_i h; simp [h]
@[simp] theorem pureW_ite2 {c : Prop} [Decidable c] {x y : V × List Tip} : pureW (if c then some x else some y) q m F = ((c → pureW (some x) q m F) ∧ (¬ c → pureW (some y) q m F)) := by
  split
  · rename_i h; simp [h]
  · rename_i h; simp [h]
@[simp] theorem more_nil : m.more [] = m := rfl
@[simp] theorem more_cons {t : Tip} {l : List Tip} : m.more (t :: l) = { m with tips := m.tips ++ t :: l } := rfl
@[congr] theorem callvW_congr {x x' : V} {args : List V} (h : NF x = x') : callvW q Y D x args m F = callvW q Y D x' args m F := by rw [← h]; rfl
@[simp] theorem callvW_func {f : FuncId} {cap args : List V} : callvW q Y D (.func f cap) args m F = callW D q f (args ++ cap) m F := Eq.trans rfl rfl
@[simp] theorem callvW_yld {b : Nat} {args : List V} : callvW q Y D (.yld b) args m F = (q = false ∧ ∃ v' m', Y b args m v' m' ∧ F v' m') := Eq.trans rfl rfl
@[congr] theorem condG_congr {v v' : V} {w : Bool} {A B C : Prop} (h : NF v = v') : condG v w A B C = condG v' w A B C := by rw [← h]; rfl
@[simp] theorem condG_tt {A B C : Prop} : condG (.val (.bool true)) true A B C = A := by simp [condG]
@[simp] theorem condG_ft {A B C : Prop} : condG (.val (.bool false)) true A B C = B := by simp [condG]
@[simp] theorem condG_tf {A B C : Prop} : condG (.val (.bool true)) false A B C = B := by simp [condG]
@[simp] theorem condG_ff {A B C : Prop} : condG (.val (.bool false)) false A B C = A := by simp [condG]
@[simp] theorem condG_un {w : Bool} {A B C : Prop} : condG (.tuple []) w A B C = C := Eq.trans rfl rfl
theorem condG_t {t : Bool} {A B C : Prop} : condG (.val (.bool t)) true A B C = ((t = true → A) ∧ (t = false → B)) := by simp [condG]
theorem condG_f {t : Bool} {A B C : Prop} : condG (.val (.bool t)) false A B C = ((t = false → A) ∧ (t = true → B)) := by simp [condG]
attribute [simp low] condG_t condG_f
@[congr] theorem condW_congr {v v' : V} {A B : Prop} (h : NF v = v') : condW v A B = condW v' A B := by rw [← h]; rfl
@[simp] theorem condW_true {A B : Prop} : condW (.val (.bool true)) A B = A := by simp [condW]
@[simp] theorem condW_false {A B : Prop} : condW (.val (.bool false)) A B = B := by simp [condW]
theorem condW_val {t : Bool} {A B : Prop} : condW (.val (.bool t)) A B = ((t = true → A) ∧ (t = false → B)) := Eq.trans rfl rfl
attribute [simp low] condW_val

@[simp ↓] theorem wp_skip : wp P Y D .skip s m Q = Q .normal s m := Eq.trans rfl rfl
@[simp ↓] theorem wp_ret : wp P Y D .ret s m Q = Q .ret s m := Eq.trans rfl rfl
@[simp ↓] theorem wp_exit {id : Nat} : wp P Y D (.exit id) s m Q = Q (.exit id) s m := Eq.trans rfl rfl
@[simp ↓] theorem wp_goto {l : Nat} : wp P Y D (.goto l) s m Q = Q (.goto l) s m := Eq.trans rfl rfl
@[simp ↓] theorem wp_label {l : Nat} : wp P Y D (.label l) s m Q = Q .normal s m := Eq.trans rfl rfl
@[simp ↓] theorem wp_dead : wp P Y D .dead s m Q = False := Eq.trans rfl rfl
@[simp ↓] theorem wp_ops {l : List O} : wp P Y D (.ops l) s m Q = runO false Y D l s m (Q .normal) := Eq.trans rfl rfl
@[simp ↓] theorem wp_dops {sp : List (Nat × Nat)} {l : List O} : wp P Y D (.dops q sp l) s m Q = runO q Y D l s m fun s' m' => sepAll s' sp ∧ Q .normal s' m' := Eq.trans rfl rfl
@[simp ↓] theorem wp_seq : wp P Y D (.seq a b) s m Q = wp P Y D a s m (seqQ (fun s' m' => wp P Y D b s' m' Q) Q) := Eq.trans rfl rfl
@[simp ↓] theorem wp_cond {x : X} : wp P Y D (.cond x a b) s m Q = condW (x.ev s) (wp P Y D a s m Q) (wp P Y D b s m Q) := Eq.trans rfl rfl
@[simp ↓] theorem wp_block {id : Nat} : wp P Y D (.block id c) s m Q = wp P Y D c s m (blockQ id Q) := Eq.trans rfl rfl
@[simp ↓] theorem wp_scope : wp P Y D (.scope c) s m Q = wp P Y D c s m (scopeQ Q) := Eq.trans rfl rfl
section
variable {al : FuncId → Bool} {wk : List O → Bool}
@[simp ↓] theorem wpB_skip : wpB al wk P Y D .skip s m Q = Q .normal s m := Eq.trans rfl rfl
@[simp ↓] theorem wpB_ret : wpB al wk P Y D .ret s m Q = Q .ret s m := Eq.trans rfl rfl
@[simp ↓] theorem wpB_exit {id : Nat} : wpB al wk P Y D (.exit id) s m Q = Q (.exit id) s m := Eq.trans rfl rfl
@[simp ↓] theorem wpB_goto {l : Nat} : wpB al wk P Y D (.goto l) s m Q = Q (.goto l) s m := Eq.trans rfl rfl
@[simp ↓] theorem wpB_label {l : Nat} : wpB al wk P Y D (.label l) s m Q = Q .normal s m := Eq.trans rfl rfl
@[simp ↓] theorem wpB_dead : wpB al wk P Y D .dead s m Q = False := Eq.trans rfl rfl
@[simp ↓] theorem wpB_ops {l : List O} : wpB al wk P Y D (.ops l) s m Q = if wk l = true then runS al Y D l s m (IW2 (Q .normal)) else runS al Y D l s m (Q .normal) := by
  show runB al wk Y D l s m (Q .normal) = _
  unfold runB
  split <;> rfl
@[simp ↓] theorem wpB_dops {sp : List (Nat × Nat)} {l : List O} : wpB al wk P Y D (.dops q sp l) s m Q = runO q Y D l s m fun s' m' => sepAll s' sp ∧ Q .normal s' m' := Eq.trans rfl rfl
@[simp ↓] theorem wpB_seq : wpB al wk P Y D (.seq a b) s m Q = wpB al wk P Y D a s m (seqQ (fun s' m' => wpB al wk P Y D b s' m' Q) Q) := Eq.trans rfl rfl
@[simp ↓] theorem wpB_cond {x : X} : wpB al wk P Y D (.cond x a b) s m Q = condW (x.ev s) (wpB al wk P Y D a s m Q) (wpB al wk P Y D b s m Q) := Eq.trans rfl rfl
@[simp ↓] theorem wpB_block {id : Nat} : wpB al wk P Y D (.block id c) s m Q = wpB al wk P Y D c s m (blockQ id Q) := Eq.trans rfl rfl
@[simp ↓] theorem wpB_scope : wpB al wk P Y D (.scope c) s m Q = wpB al wk P Y D c s m (scopeQ Q) := Eq.trans rfl rfl
end
section
variable {al : FuncId → Bool}
@[simp ↓] theorem wpA_skip : wpA al P Y D .skip s m Q = Q .normal s m := Eq.trans rfl rfl
@[simp ↓] theorem wpA_ret : wpA al P Y D .ret s m Q = Q .ret s m := Eq.trans rfl rfl
@[simp ↓] theorem wpA_exit {id : Nat} : wpA al P Y D (.exit id) s m Q = Q (.exit id) s m := Eq.trans rfl rfl
@[simp ↓] theorem wpA_goto {l : Nat} : wpA al P Y D (.goto l) s m Q = Q (.goto l) s m := Eq.trans rfl rfl
@[simp ↓] theorem wpA_label {l : Nat} : wpA al P Y D (.label l) s m Q = Q .normal s m := Eq.trans rfl rfl
@[simp ↓] theorem wpA_dead : wpA al P Y D .dead s m Q = False := Eq.trans rfl rfl
@[simp ↓] theorem wpA_ops {l : List O} : wpA al P Y D (.ops l) s m Q = runS al Y D l s m (Q .normal) := Eq.trans rfl rfl
@[simp ↓] theorem wpA_dops {sp : List (Nat × Nat)} {l : List O} : wpA al P Y D (.dops q sp l) s m Q = runO q Y D l s m fun s' m' => sepAll s' sp ∧ Q .normal s' m' := Eq.trans rfl rfl
@[simp ↓] theorem wpA_seq : wpA al P Y D (.seq a b) s m Q = wpA al P Y D a s m (seqQ (fun s' m' => wpA al P Y D b s' m' Q) Q) := Eq.trans rfl rfl
@[simp ↓] theorem wpA_cond {x : X} : wpA al P Y D (.cond x a b) s m Q = condW (x.ev s) (wpA al P Y D a s m Q) (wpA al P Y D b s m Q) := Eq.trans rfl rfl
@[simp ↓] theorem wpA_block {id : Nat} : wpA al P Y D (.block id c) s m Q = wpA al P Y D c s m (blockQ id Q) := Eq.trans rfl rfl
@[simp ↓] theorem wpA_scope : wpA al P Y D (.scope c) s m Q = wpA al P Y D c s m (scopeQ Q) := Eq.trans rfl rfl
@[simp ↓] theorem runS_nil : runS al Y D [] s m Kt = Kt s m := Eq.trans rfl rfl
theorem runS_cons {d : Option Nat} {k : K} {r : List O} (h : k.alt al = false) (h2 : k.isAp = false) : runS al Y D (⟨d, none, k⟩ :: r) s m Kt = kW false Y D k s m fun v m' => runS al Y D r (put d v s) m' Kt := by
  show (if k.isAp = true then apK ⟨d, none, k⟩ s m (fun v m' => runS al Y D r (put d v s) m' Kt) else kW false Y D k s m fun v m' => if k.alt al = true ∧ d.isSome = true then altW v fun u => runS al Y D r (put d u s) m' Kt else runS al Y D r (put d v s) m' Kt) = _
  simp [h, h2]
theorem runS_alt {d : Nat} {f : FuncId} {xs : List X} {r : List O} (h : al f = true) : runS al Y D (⟨some d, none, .call f xs⟩ :: r) s m Kt = kW false Y D (.call f xs) s m fun v m' => altW v fun u => runS al Y D r (put (some d) u s) m' Kt := by
  show (kW false Y D (.call f xs) s m fun v m' => if al f = true ∧ true = true then altW v fun u => runS al Y D r (put (some d) u s) m' Kt else runS al Y D r (put (some d) v s) m' Kt) = _
  simp [h]
@[simp ↓] theorem runS_consG {d : Option Nat} {g : Nat} {w : Bool} {k : K} {r : List O} : runS al Y D (⟨d, some (g, w), k⟩ :: r) s m Kt = condG (s g) w
      (kW false Y D k (put (some g) (.val (.bool w)) s) m fun v m' => runS al Y D r (put d v (put (some g) (.val (.bool w)) s)) m' Kt)
      (runS al Y D r (put d (.tuple []) (put (some g) (.val (.bool (!w))) s)) m Kt)
      (runS al Y D r (put d (.tuple []) s) m Kt) := Eq.trans rfl rfl
@[congr] theorem altW_congr {v v' : V} {F : V → Prop} (h : NF v = v') : altW v F = altW v' F := by rw [← h]; rfl
@[simp] theorem altW_alts {l : List V} {F : V → Prop} : altW (.alts l) F = ∀ u ∈ l, F u := Eq.trans rfl rfl
@[simp ↓] theorem runSk_mov {d : Option Nat} {r : List O} {a0} : runS al Y D (⟨d, none, (.mov a0)⟩ :: r) s m Kt = kW false Y D (.mov a0) s m fun v m' => runS al Y D r (put d v s) m' Kt := runS_cons rfl rfl
@[simp ↓] theorem runSk_pick {d : Option Nat} {r : List O} {a0 a1 a2} : runS al Y D (⟨d, none, (.pick a0 a1 a2)⟩ :: r) s m Kt = kW false Y D (.pick a0 a1 a2) s m fun v m' => runS al Y D r (put d v s) m' Kt := runS_cons rfl rfl
@[simp ↓] theorem runSk_bin {d : Option Nat} {r : List O} {a0 a1 a2} : runS al Y D (⟨d, none, (.bin a0 a1 a2)⟩ :: r) s m Kt = kW false Y D (.bin a0 a1 a2) s m fun v m' => runS al Y D r (put d v s) m' Kt := runS_cons rfl rfl
@[simp ↓] theorem runSk_beq {d : Option Nat} {r : List O} {a0 a1 a2} : runS al Y D (⟨d, none, (.beq a0 a1 a2)⟩ :: r) s m Kt = kW false Y D (.beq a0 a1 a2) s m fun v m' => runS al Y D r (put d v s) m' Kt := runS_cons rfl rfl
@[simp ↓] theorem runSk_snil {d : Option Nat} {r : List O} {a0 a1} : runS al Y D (⟨d, none, (.snil a0 a1)⟩ :: r) s m Kt = kW false Y D (.snil a0 a1) s m fun v m' => runS al Y D r (put d v s) m' Kt := runS_cons rfl rfl
@[simp ↓] theorem runSk_un {d : Option Nat} {r : List O} {a0 a1} : runS al Y D (⟨d, none, (.un a0 a1)⟩ :: r) s m Kt = kW false Y D (.un a0 a1) s m fun v m' => runS al Y D r (put d v s) m' Kt := runS_cons rfl rfl
@[simp ↓] theorem runSk_conv {d : Option Nat} {r : List O} {a0 a1} : runS al Y D (⟨d, none, (.conv a0 a1)⟩ :: r) s m Kt = kW false Y D (.conv a0 a1) s m fun v m' => runS al Y D r (put d v s) m' Kt := runS_cons rfl rfl
@[simp ↓] theorem runSk_ext {d : Option Nat} {r : List O} {a0 a1} : runS al Y D (⟨d, none, (.ext a0 a1)⟩ :: r) s m Kt = kW false Y D (.ext a0 a1) s m fun v m' => runS al Y D r (put d v s) m' Kt := runS_cons rfl rfl
@[simp ↓] theorem runSk_fad {d : Option Nat} {r : List O} {a0 a1} : runS al Y D (⟨d, none, (.fad a0 a1)⟩ :: r) s m Kt = kW false Y D (.fad a0 a1) s m fun v m' => runS al Y D r (put d v s) m' Kt := runS_cons rfl rfl
@[simp ↓] theorem runSk_ld {d : Option Nat} {r : List O} {a0 a1} : runS al Y D (⟨d, none, (.ld a0 a1)⟩ :: r) s m Kt = kW false Y D (.ld a0 a1) s m fun v m' => runS al Y D r (put d v s) m' Kt := runS_cons rfl rfl
@[simp ↓] theorem runSk_lde {d : Option Nat} {r : List O} {a0 a1} : runS al Y D (⟨d, none, (.lde a0 a1)⟩ :: r) s m Kt = kW false Y D (.lde a0 a1) s m fun v m' => runS al Y D r (put d v s) m' Kt := runS_cons rfl rfl
@[simp ↓] theorem runSk_st {d : Option Nat} {r : List O} {a0 a1 a2} : runS al Y D (⟨d, none, (.st a0 a1 a2)⟩ :: r) s m Kt = kW false Y D (.st a0 a1 a2) s m fun v m' => runS al Y D r (put d v s) m' Kt := runS_cons rfl rfl
@[simp ↓] theorem runSk_ixs {d : Option Nat} {r : List O} {a0 a1 a2} : runS al Y D (⟨d, none, (.ixs a0 a1 a2)⟩ :: r) s m Kt = kW false Y D (.ixs a0 a1 a2) s m fun v m' => runS al Y D r (put d v s) m' Kt := runS_cons rfl rfl
@[simp ↓] theorem runSk_ixa {d : Option Nat} {r : List O} {a0 a1 a2 a3} : runS al Y D (⟨d, none, (.ixa a0 a1 a2 a3)⟩ :: r) s m Kt = kW false Y D (.ixa a0 a1 a2 a3) s m fun v m' => runS al Y D r (put d v s) m' Kt := runS_cons rfl rfl
@[simp ↓] theorem runSk_fld {d : Option Nat} {r : List O} {a0 a1 a2} : runS al Y D (⟨d, none, (.fld a0 a1 a2)⟩ :: r) s m Kt = kW false Y D (.fld a0 a1 a2) s m fun v m' => runS al Y D r (put d v s) m' Kt := runS_cons rfl rfl
@[simp ↓] theorem runSk_slc {d : Option Nat} {r : List O} {a0 a1 a2 a3 a4} : runS al Y D (⟨d, none, (.slc a0 a1 a2 a3 a4)⟩ :: r) s m Kt = kW false Y D (.slc a0 a1 a2 a3 a4) s m fun v m' => runS al Y D r (put d v s) m' Kt := runS_cons rfl rfl
@[simp ↓] theorem runSk_len {d : Option Nat} {r : List O} {a0} : runS al Y D (⟨d, none, (.len a0)⟩ :: r) s m Kt = kW false Y D (.len a0) s m fun v m' => runS al Y D r (put d v s) m' Kt := runS_cons rfl rfl
@[simp ↓] theorem runSk_slen {d : Option Nat} {r : List O} {a0} : runS al Y D (⟨d, none, (.slen a0)⟩ :: r) s m Kt = kW false Y D (.slen a0) s m fun v m' => runS al Y D r (put d v s) m' Kt := runS_cons rfl rfl
@[simp ↓] theorem runSk_mm {d : Option Nat} {r : List O} {a0 a1 a2} : runS al Y D (⟨d, none, (.mm a0 a1 a2)⟩ :: r) s m Kt = kW false Y D (.mm a0 a1 a2) s m fun v m' => runS al Y D r (put d v s) m' Kt := runS_cons rfl rfl
@[simp ↓] theorem runSk_box {d : Option Nat} {r : List O} {a0} : runS al Y D (⟨d, none, (.box a0)⟩ :: r) s m Kt = kW false Y D (.box a0) s m fun v m' => runS al Y D r (put d v s) m' Kt := runS_cons rfl rfl
@[simp ↓] theorem runSk_alc {d : Option Nat} {r : List O} {a0} : runS al Y D (⟨d, none, (.alc a0)⟩ :: r) s m Kt = kW false Y D (.alc a0) s m fun v m' => runS al Y D r (put d v s) m' Kt := runS_cons rfl rfl
@[simp ↓] theorem runSk_alr {d : Option Nat} {r : List O} {a0 a1} : runS al Y D (⟨d, none, (.alr a0 a1)⟩ :: r) s m Kt = kW false Y D (.alr a0 a1) s m fun v m' => runS al Y D r (put d v s) m' Kt := runS_cons rfl rfl
@[simp ↓] theorem runSk_nil {d : Option Nat} {r : List O} {a0 a1 a2} : runS al Y D (⟨d, none, (.nil a0 a1 a2)⟩ :: r) s m Kt = kW false Y D (.nil a0 a1 a2) s m fun v m' => runS al Y D r (put d v s) m' Kt := runS_cons rfl rfl
@[simp ↓] theorem runSk_bld {d : Option Nat} {r : List O} {a0 a1} : runS al Y D (⟨d, none, (.bld a0 a1)⟩ :: r) s m Kt = kW false Y D (.bld a0 a1) s m fun v m' => runS al Y D r (put d v s) m' Kt := runS_cons rfl rfl
@[simp ↓] theorem runSk_mkl {d : Option Nat} {r : List O} {a0 a1 a2 a3} : runS al Y D (⟨d, none, (.mkl a0 a1 a2 a3)⟩ :: r) s m Kt = kW false Y D (.mkl a0 a1 a2 a3) s m fun v m' => runS al Y D r (put d v s) m' Kt := runS_cons rfl rfl
@[simp ↓] theorem runSk_app {d : Option Nat} {r : List O} {a0 a1 a2 a3 a4 a5} : runS al Y D (⟨d, none, (.app a0 a1 a2 a3 a4 a5)⟩ :: r) s m Kt = kW false Y D (.app a0 a1 a2 a3 a4 a5) s m fun v m' => runS al Y D r (put d v s) m' Kt := runS_cons rfl rfl
@[simp ↓] theorem runSk_mks {d : Option Nat} {r : List O} {a0 a1 a2 a3 a4 a5 a6} : runS al Y D (⟨d, none, (.mks a0 a1 a2 a3 a4 a5 a6)⟩ :: r) s m Kt = kW false Y D (.mks a0 a1 a2 a3 a4 a5 a6) s m fun v m' => runS al Y D r (put d v s) m' Kt := runS_cons rfl rfl
@[simp ↓] theorem runSk_mkf {d : Option Nat} {r : List O} {a0 a1} : runS al Y D (⟨d, none, (.mkf a0 a1)⟩ :: r) s m Kt = kW false Y D (.mkf a0 a1) s m fun v m' => runS al Y D r (put d v s) m' Kt := runS_cons rfl rfl
@[simp ↓] theorem runSk_b2s {d : Option Nat} {r : List O} {a0} : runS al Y D (⟨d, none, (.b2s a0)⟩ :: r) s m Kt = kW false Y D (.b2s a0) s m fun v m' => runS al Y D r (put d v s) m' Kt := runS_cons rfl rfl
@[simp ↓] theorem runSk_sidx {d : Option Nat} {r : List O} {a0 a1} : runS al Y D (⟨d, none, (.sidx a0 a1)⟩ :: r) s m Kt = kW false Y D (.sidx a0 a1) s m fun v m' => runS al Y D r (put d v s) m' Kt := runS_cons rfl rfl
@[simp ↓] theorem runSk_srg {d : Option Nat} {r : List O} {a0} : runS al Y D (⟨d, none, (.srg a0)⟩ :: r) s m Kt = kW false Y D (.srg a0) s m fun v m' => runS al Y D r (put d v s) m' Kt := runS_cons rfl rfl
@[simp ↓] theorem runSk_snx {d : Option Nat} {r : List O} {a0} : runS al Y D (⟨d, none, (.snx a0)⟩ :: r) s m Kt = kW false Y D (.snx a0) s m fun v m' => runS al Y D r (put d v s) m' Kt := runS_cons rfl rfl
@[simp ↓] theorem runSk_mkm {d : Option Nat} {r : List O} : runS al Y D (⟨d, none, .mkm⟩ :: r) s m Kt = kW false Y D .mkm s m fun v m' => runS al Y D r (put d v s) m' Kt := runS_cons rfl rfl
@[simp ↓] theorem runSk_mup {d : Option Nat} {r : List O} {a0 a1 a2} : runS al Y D (⟨d, none, (.mup a0 a1 a2)⟩ :: r) s m Kt = kW false Y D (.mup a0 a1 a2) s m fun v m' => runS al Y D r (put d v s) m' Kt := runS_cons rfl rfl
@[simp ↓] theorem runSk_mlk {d : Option Nat} {r : List O} {a0 a1 a2 a3} : runS al Y D (⟨d, none, (.mlk a0 a1 a2 a3)⟩ :: r) s m Kt = kW false Y D (.mlk a0 a1 a2 a3) s m fun v m' => runS al Y D r (put d v s) m' Kt := runS_cons rfl rfl
@[simp ↓] theorem runSk_mem_frz {d : Option Nat} {r : List O} {a1 : List X} : runS al Y D (⟨d, none, (.mem .frz a1)⟩ :: r) s m Kt = kW false Y D (.mem .frz a1) s m fun v m' => runS al Y D r (put d v s) m' Kt := runS_cons rfl rfl
@[simp ↓] theorem runSk_mem_ixr {d : Option Nat} {r : List O} {a1 : List X} {b0} : runS al Y D (⟨d, none, (.mem (.ixr b0) a1)⟩ :: r) s m Kt = kW false Y D (.mem (.ixr b0) a1) s m fun v m' => runS al Y D r (put d v s) m' Kt := runS_cons rfl rfl
@[simp ↓] theorem runSk_mem_lnr {d : Option Nat} {r : List O} {a1 : List X} : runS al Y D (⟨d, none, (.mem .lnr a1)⟩ :: r) s m Kt = kW false Y D (.mem .lnr a1) s m fun v m' => runS al Y D r (put d v s) m' Kt := runS_cons rfl rfl
@[simp ↓] theorem runSk_mem_mkb {d : Option Nat} {r : List O} {a1 : List X} {b0 b1 b2 b3} : runS al Y D (⟨d, none, (.mem (.mkb b0 b1 b2 b3) a1)⟩ :: r) s m Kt = kW false Y D (.mem (.mkb b0 b1 b2 b3) a1) s m fun v m' => runS al Y D r (put d v s) m' Kt := runS_cons rfl rfl
@[simp ↓] theorem runSk_mem_aeq {d : Option Nat} {r : List O} {a1 : List X} {b0 b1} : runS al Y D (⟨d, none, (.mem (.aeq b0 b1) a1)⟩ :: r) s m Kt = kW false Y D (.mem (.aeq b0 b1) a1) s m fun v m' => runS al Y D r (put d v s) m' Kt := runS_cons rfl rfl
@[simp ↓] theorem runSk_mem_nck {d : Option Nat} {r : List O} {a1 : List X} : runS al Y D (⟨d, none, (.mem .nck a1)⟩ :: r) s m Kt = kW false Y D (.mem .nck a1) s m fun v m' => runS al Y D r (put d v s) m' Kt := runS_cons rfl rfl
@[simp ↓] theorem runSk_mem_cvf {d : Option Nat} {r : List O} {a1 : List X} {b0} : runS al Y D (⟨d, none, (.mem (.cvf b0) a1)⟩ :: r) s m Kt = kW false Y D (.mem (.cvf b0) a1) s m fun v m' => runS al Y D r (put d v s) m' Kt := runS_cons rfl rfl
@[simp ↓] theorem runSk_mem_cpx {d : Option Nat} {r : List O} {a1 : List X} : runS al Y D (⟨d, none, (.mem .cpx a1)⟩ :: r) s m Kt = kW false Y D (.mem .cpx a1) s m fun v m' => runS al Y D r (put d v s) m' Kt := runS_cons rfl rfl
@[simp ↓] theorem runSk_mem_rei {d : Option Nat} {r : List O} {a1 : List X} {b0} : runS al Y D (⟨d, none, (.mem (.rei b0) a1)⟩ :: r) s m Kt = kW false Y D (.mem (.rei b0) a1) s m fun v m' => runS al Y D r (put d v s) m' Kt := runS_cons rfl rfl
@[simp ↓] theorem runSk_mem_eml {d : Option Nat} {r : List O} {a1 : List X} {b0} : runS al Y D (⟨d, none, (.mem (.eml b0) a1)⟩ :: r) s m Kt = kW false Y D (.mem (.eml b0) a1) s m fun v m' => runS al Y D r (put d v s) m' Kt := runS_cons rfl rfl
@[simp ↓] theorem runSk_mem_apx {d : Option Nat} {r : List O} {a1 : List X} {b0 b1 b2} : runS al Y D (⟨d, none, (.mem (.apx b0 b1 b2) a1)⟩ :: r) s m Kt = kW false Y D (.mem (.apx b0 b1 b2) a1) s m fun v m' => runS al Y D r (put d v s) m' Kt := runS_cons rfl rfl
@[simp ↓] theorem runSk_mem_ixv {d : Option Nat} {r : List O} {a1 : List X} {b0 b1} : runS al Y D (⟨d, none, (.mem (.ixv b0 b1) a1)⟩ :: r) s m Kt = kW false Y D (.mem (.ixv b0 b1) a1) s m fun v m' => runS al Y D r (put d v s) m' Kt := runS_cons rfl rfl
@[simp ↓] theorem runSk_apb {d : Option Nat} {r : List O} {e sz bytes : Nat} {x y : X} : runS al Y D (⟨d, none, (.mem (.apb e sz bytes) [x, y])⟩ :: r) s m Kt = apcW sz bytes (x.ev s) (y.ev s) m fun v m' => runS al Y D r (put d v s) m' Kt := Eq.trans rfl rfl
@[simp] theorem apcW_eq {sz bytes : Nat} {u v : V} {Φ : V → Mem → Prop} : apcW sz bytes u v m Φ = srcW v sz fun _ ys => (ys = [] → slE u = true ∧ Φ u m) ∧ (ys ≠ [] → apuW sz bytes u ys m Φ) := by
  unfold apcW srcV
  cases v with
  | val x =>
    by_cases hx : x = .slice none 0 0
    · subst hx
      refine propext ⟨fun h => h.2, fun h => ⟨rfl, h⟩⟩
    · have e : V.isNil (.val x) = false := by
        unfold V.isNil
        split
        · rename_i e; cases e; exact absurd rfl hx
        · rfl
      rw [if_neg (by simp [e])]
      refine propext ⟨fun h => h.elim, fun h => ?_⟩
      unfold srcW at h
      split at h
      · rename_i e; cases e; exact absurd rfl hx
      all_goals first | exact h.elim | (rename_i e; cases e)
  | _ => first | rfl | exact propext ⟨fun h => h.elim, fun h => h.elim⟩
@[simp] theorem slE_nil : slE (.val (.slice none 0 0)) = true := Eq.trans rfl rfl
@[simp] theorem slE_full {z : Nat} : slE (.full z []) = true := Eq.trans rfl rfl
@[simp] theorem slE_buf {off z n lc b : Nat} : slE (.buf off z n lc b) = true := Eq.trans rfl rfl
@[congr] theorem apuW_congr {sz bytes : Nat} {u u' : V} {ys : List (List V)} {Φ : V → Mem → Prop} (h : NF u = u') : apuW sz bytes u ys m Φ = apuW sz bytes u' ys m Φ := by rw [← h]; rfl
@[simp] theorem apuW_nil {sz bytes : Nat} {ys : List (List V)} {Φ : V → Mem → Prop} : apuW sz bytes (.val (.slice none 0 0)) ys m Φ = (ys.length * bytes ≤ 140737488355328 ∧ letW ({ m with boxes := m.boxes ++ [ys.flatten] } : Mem) fun m' => Φ (.buf 0 sz ys.length ys.length m.boxes.length) m') := Eq.trans rfl rfl
@[simp] theorem apuW_full {sz szx bytes : Nat} {ys : List (List V)} {Φ : V → Mem → Prop} : apuW sz bytes (.full szx []) ys m Φ = ((szx = sz ∧ ys.length * bytes ≤ 140737488355328) ∧ letW ({ m with boxes := m.boxes ++ [ys.flatten] } : Mem) fun m' => Φ (.buf 0 sz ys.length ys.length m.boxes.length) m') := Eq.trans rfl rfl
@[simp] theorem apuW_buf {off sz szx n lc b bytes : Nat} {ys : List (List V)} {Φ : V → Mem → Prop} : apuW sz bytes (.buf off szx n lc b) ys m Φ = optW m.boxes[b]? fun cs => (off = 0 ∧ szx = sz ∧ (n + ys.length) * bytes ≤ 140737488355328 ∧ isObj cs = false ∧ n * sz ≤ cs.length) ∧
      letW ({ m with boxes := m.boxes.set b deadC ++ [cs.take (n * sz) ++ ys.flatten] } : Mem) fun m' => Φ (.buf 0 sz (n + ys.length) (n + ys.length) m.boxes.length) m' := by
  show (match m.boxes[b]? with | some cs => _ | none => False) = _
  cases m.boxes[b]? <;> rfl
@[simp ↓] theorem runSk_dead {d : Option Nat} {r : List O} : runS al Y D (⟨d, none, .dead⟩ :: r) s m Kt = kW false Y D .dead s m fun v m' => runS al Y D r (put d v s) m' Kt := runS_cons rfl rfl
@[simp ↓] theorem runSk_callq {d : Option Nat} {r : List O} {a0 a1} : runS al Y D (⟨d, none, (.callq a0 a1)⟩ :: r) s m Kt = kW false Y D (.callq a0 a1) s m fun v m' => runS al Y D r (put d v s) m' Kt := runS_cons rfl rfl
@[simp ↓] theorem runSk_callv {d : Option Nat} {r : List O} {a0 a1} : runS al Y D (⟨d, none, (.callv a0 a1)⟩ :: r) s m Kt = kW false Y D (.callv a0 a1) s m fun v m' => runS al Y D r (put d v s) m' Kt := runS_cons rfl rfl
@[simp ↓] theorem runSk_callf {d : Option Nat} {r : List O} {a0 a1 a2} : runS al Y D (⟨d, none, (.callf a0 a1 a2)⟩ :: r) s m Kt = kW false Y D (.callf a0 a1 a2) s m fun v m' => runS al Y D r (put d v s) m' Kt := runS_cons rfl rfl
@[simp ↓] theorem runSk_callr {d : Option Nat} {r : List O} {a0 a1} : runS al Y D (⟨d, none, (.callr a0 a1)⟩ :: r) s m Kt = kW false Y D (.callr a0 a1) s m fun v m' => runS al Y D r (put d v s) m' Kt := runS_cons rfl rfl
@[simp ↓] theorem runS_call {d : Nat} {f : FuncId} {xs : List X} {r : List O} : runS al Y D (⟨some d, none, .call f xs⟩ :: r) s m Kt = if al f = true then (kW false Y D (.call f xs) s m fun v m' => altW v fun u => runS al Y D r (put (some d) u s) m' Kt) else (kW false Y D (.call f xs) s m fun v m' => runS al Y D r (put (some d) v s) m' Kt) := by
  split
  · rename_i h; exact runS_alt h
  · rename_i h; exact runS_cons (by show al f = false; simpa using h) rfl
end
@[simp ↓] theorem runO_nil : runO q Y D [] s m Kt = Kt s m := Eq.trans rfl rfl
@[simp ↓] theorem runO_cons {d : Option Nat} {k : K} {r : List O} : runO q Y D (⟨d, none, k⟩ :: r) s m Kt = kW q Y D k s m fun v m' => runO q Y D r (put d v s) m' Kt := Eq.trans rfl rfl
@[simp ↓] theorem runO_consG {d : Option Nat} {g : Nat} {w : Bool} {k : K} {r : List O} : runO q Y D (⟨d, some (g, w), k⟩ :: r) s m Kt = condG (s g) w
      (kW q Y D k (put (some g) (.val (.bool w)) s) m fun v m' => runO q Y D r (put d v (put (some g) (.val (.bool w)) s)) m' Kt)
      (runO q Y D r (put d (.tuple []) (put (some g) (.val (.bool (!w))) s)) m Kt)
      (runO q Y D r (put d (.tuple []) s) m Kt) := Eq.trans rfl rfl
@[simp ↓] theorem seqQ_normal {W : (Nat → V) → Mem → Prop} : seqQ W Q .normal s m = W s m := Eq.trans rfl rfl
@[simp ↓] theorem seqQ_ret {W : (Nat → V) → Mem → Prop} : seqQ W Q .ret s m = Q .ret s m := Eq.trans rfl rfl
@[simp ↓] theorem seqQ_exit {W : (Nat → V) → Mem → Prop} {i : Nat} : seqQ W Q (.exit i) s m = Q (.exit i) s m := Eq.trans rfl rfl
@[simp ↓] theorem seqQ_goto {W : (Nat → V) → Mem → Prop} {i : Nat} : seqQ W Q (.goto i) s m = Q (.goto i) s m := Eq.trans rfl rfl
@[simp ↓] theorem blockQ_normal {id : Nat} : blockQ id Q .normal s m = Q .normal s m := Eq.trans rfl rfl
@[simp ↓] theorem blockQ_ret {id : Nat} : blockQ id Q .ret s m = Q .ret s m := Eq.trans rfl rfl
@[simp ↓] theorem blockQ_goto {id i : Nat} : blockQ id Q (.goto i) s m = Q (.goto i) s m := Eq.trans rfl rfl
@[simp ↓] theorem blockQ_exit {id i : Nat} : blockQ id Q (.exit i) s m = if i = id then Q .normal s m else Q (.exit i) s m := Eq.trans rfl rfl
@[simp ↓] theorem scopeQ_normal : scopeQ Q .normal s m = Q .normal s m := Eq.trans rfl rfl
@[simp ↓] theorem scopeQ_ret : scopeQ Q .ret s m = Q .ret s m := Eq.trans rfl rfl
@[simp ↓] theorem scopeQ_exit {i : Nat} : scopeQ Q (.exit i) s m = Q (.exit i) s m := Eq.trans rfl rfl
@[simp ↓] theorem scopeQ_goto {i : Nat} : scopeQ Q (.goto i) s m = False := Eq.trans rfl rfl
section
variable {I : Nat → (Nat → V) → Mem → Prop} {k i l : Nat} {J : (Nat → V) → Mem → Prop}
@[simp ↓] theorem loopQ_normal : loopQ I k Q .normal s m = ∃ j, j < k ∧ IW (I j) s m := Eq.trans rfl rfl
@[simp ↓] theorem loopQ_ret : loopQ I k Q .ret s m = Q .ret s m := Eq.trans rfl rfl
@[simp ↓] theorem loopQ_exit : loopQ I k Q (.exit i) s m = Q (.exit i) s m := Eq.trans rfl rfl
@[simp ↓] theorem loopQ_goto : loopQ I k Q (.goto i) s m = Q (.goto i) s m := Eq.trans rfl rfl
@[simp ↓] theorem jumpQ_goto : jumpQ l J Q (.goto i) s m = (i = l ∧ J s m) := Eq.trans rfl rfl
@[simp ↓] theorem jumpQ_normal : jumpQ l J Q .normal s m = Q .normal s m := Eq.trans rfl rfl
@[simp ↓] theorem jumpQ_ret : jumpQ l J Q .ret s m = Q .ret s m := Eq.trans rfl rfl
@[simp ↓] theorem jumpQ_exit : jumpQ l J Q (.exit i) s m = Q (.exit i) s m := Eq.trans rfl rfl
end
@[simp ↓] theorem wpG_wp : wpG (runO false Y D) P Y D c s m Q = wp P Y D c s m Q := Eq.trans rfl rfl
@[simp ↓] theorem wpG_wpB {al : FuncId → Bool} {wk : List O → Bool} : wpG (runB al wk Y D) P Y D c s m Q = wpB al wk P Y D c s m Q := Eq.trans rfl rfl
@[simp ↓] theorem wpG_wpA {al : FuncId → Bool} : wpG (runS al Y D) P Y D c s m Q = wpA al P Y D c s m Q := Eq.trans rfl rfl
/-- A loop, by what holds at each round, and a number that falls. -/
theorem wp_loop (I : Nat → (Nat → V) → Mem → Prop) (k : Nat) (h : IW (I k) s m) (hr : ∀ k s m, I k s m → wp P Y D c s m (loopQ I k Q)) : wp P Y D (.loop c) s m Q := ⟨I, ⟨k, h⟩, hr⟩
/-- Jumps back to a label, by what holds at each, and a number that falls. -/
theorem wp_jumps {l : Nat} {r : C} (J : Nat → (Nat → V) → Mem → Prop) (h1 : wp P Y D c s m (jumpQ l (fun s m => ∃ k, IW (J k) s m) Q)) (h2 : ∀ k s m, J k s m → wp P Y D r s m (jumpQ l (fun s m => ∃ j, j < k ∧ IW (J j) s m) Q)) : wp P Y D (.scopeJ c l r) s m Q :=
  ⟨J, h1, h2⟩
/-- The run up to a place, said in short. -/
theorem wp_seq_cut {W : (Nat → V) → Mem → Prop} (R : (Nat → V) → Mem → Prop) (h : wp P Y D a s m (seqQ R Q)) (h2 : ∀ s' m', R s' m' → W s' m') : wp P Y D a s m (seqQ W Q) := by
  refine wp_mono a (fun e s' m' h' => ?_) h
  cases e with
  | normal => exact h2 s' m' h'
  | _ => exact h'
section
variable {rs : List RV} {R : V → Mem → Prop}
@[simp ↓] theorem Fin_ret : Fin rs R .ret s m = ∃ v, resE rs s m = some v ∧ R v m := Eq.trans rfl rfl
@[simp ↓] theorem Fin_normal : Fin rs R .normal s m = ∃ v, resE rs s m = some v ∧ R v m := Eq.trans rfl rfl
end

section
variable (x y : X) (xs : List X)
@[simp ↓] theorem kW_mov1  : kW q Y D (.mov x) s m F = letW (x.ev s) fun v => F v m := Eq.trans rfl rfl
@[simp ↓] theorem kW_call2 (f : FuncId) : kW q Y D (.call f xs) s m F = callW D q f (xs.map (·.ev s)) m F := Eq.trans rfl rfl
@[simp ↓] theorem kW_callq (f : FuncId) : kW q Y D (.callq f xs) s m F = callW D true f (xs.map (·.ev s)) m F := Eq.trans rfl rfl
@[simp ↓] theorem kW_callv3  : kW q Y D (.callv x xs) s m F = callvW q Y D (x.ev s) (xs.map (·.ev s)) m F := Eq.trans rfl rfl
@[simp ↓] theorem kW_callf (fr : List Nat) : kW q Y D (.callf x xs fr) s m F = callvW q Y D (x.ev s) (xs.map (·.ev s)) m fun v m' => keepB s m m' fr ∧ F v m' := Eq.trans rfl rfl
@[simp ↓] theorem kW_callr : kW q Y D (.callr x xs) s m F = callrW q D (x.ev s) (xs.map (·.ev s)) m F := Eq.trans rfl rfl
@[simp ↓] theorem kW_pick4 (z : X) : kW q Y D (.pick z x y) s m F = pickW (z.ev s) (x.ev s) (y.ev s) fun v => F v m := Eq.trans rfl rfl
@[simp ↓] theorem kW_bin5 (op : BinOp) : kW q Y D (.bin op x y) s m F = optW (binV op (x.ev s) (y.ev s)) fun v => F v m := Eq.trans rfl rfl
@[simp ↓] theorem kW_beq6  : kW q Y D (.beq false x y) s m F = boolW (x.ev s) fun a => boolW (y.ev s) fun b => letW (.val (.bool (a == b))) fun v => F v m := Eq.trans rfl rfl
@[simp ↓] theorem kW_beq7  : kW q Y D (.beq true x y) s m F = boolW (x.ev s) fun a => boolW (y.ev s) fun b => letW (.val (.bool (a != b))) fun v => F v m := Eq.trans rfl rfl
@[simp ↓] theorem kW_snilf : kW q Y D (.snil false x) s m F = snilW (x.ev s) fun b => F (.val (.bool b)) m := by
  show (snilW (x.ev s) fun b => F (.val (.bool (if b = true then !false else false))) m) = _
  congr 1; funext b; cases b <;> rfl
@[simp ↓] theorem kW_snilt : kW q Y D (.snil true x) s m F = snilW (x.ev s) fun b => F (.val (.bool (!b))) m := by
  show (snilW (x.ev s) fun b => F (.val (.bool (if b = true then !true else true))) m) = _
  congr 1; funext b; cases b <;> rfl
@[simp ↓] theorem kW_un8  : kW q Y D (.un .not x) s m F = boolW (x.ev s) fun b => letW (.val (.bool (!b))) fun v => F v m := Eq.trans rfl rfl
@[simp ↓] theorem kW_un9  : kW q Y D (.un .neg x) s m F = intW (x.ev s) fun k n => letW (.val (.int k (k.wrap (0 - n)))) fun v => F v m := Eq.trans rfl rfl
@[simp ↓] theorem kW_conv10 (k : IntKind) : kW q Y D (.conv k x) s m F = optW (convV k (x.ev s)) fun v => letW v fun v => F v m := Eq.trans rfl rfl
@[simp] theorem convV_int (k k' : IntKind) (n : Int) : convV k (.val (.int k' n)) = some (.val (.int k (k.wrap n))) := Eq.trans rfl rfl
@[simp ↓] theorem kW_ext11 (i : Nat) : kW q Y D (.ext x i) s m F = tupW (x.ev s) fun l => optW l[i]? fun v => F v m := Eq.trans rfl rfl
@[simp ↓] theorem kW_fad12 (i : Nat) : kW q Y D (.fad x i) s m F = fadW (x.ev s) i fun v => F v m := Eq.trans rfl rfl
@[simp ↓] theorem kW_ld13  : kW q Y D (.ld x none) s m F = optW ((x.ev s).at m) fun cs => optW cs[0]? fun v => F v m := Eq.trans rfl rfl
@[simp ↓] theorem kW_ld14 (i : Nat) : kW q Y D (.ld x (some i)) s m F = optW ((x.ev s).at m) fun cs => i ≤ cs.length ∧ letW (.agg (cs.take i)) fun v => F v m := Eq.trans rfl rfl
@[simp ↓] theorem kW_lde1 : kW q Y D (.lde x none) s m F = eptrW (x.ev s) fun cs => optW cs[0]? fun v => F v m := Eq.trans rfl rfl
@[simp ↓] theorem kW_lde2 (i : Nat) : kW q Y D (.lde x (some i)) s m F = eptrW (x.ev s) fun cs => i ≤ cs.length ∧ letW (.agg (cs.take i)) fun v => F v m := Eq.trans rfl rfl
@[simp ↓] theorem kW_st15 (n : Nat) : kW q Y D (.st x n y) s m F = ptrW (x.ev s) fun b o => optW m.boxes[b]? fun cs => letW (y.ev s).cells fun yc => (isObj cs = false ∧ yc.length = n ∧ o + n ≤ cs.length ∧ yc.all V.one = true) ∧ letW { m with boxes := m.boxes.set b (cs.take o ++ yc ++ cs.drop (o + n)) } fun m' => F (.tuple []) m' := Eq.trans rfl rfl
@[simp ↓] theorem kW_ixs16 (sz : Nat) : kW q Y D (.ixs x y sz) s m F = elemsW (x.ev s) fun sz' l => intW (y.ev s) fun _ n => (sz' = sz ∧ 0 ≤ n) ∧ optW l[n.toNat]? fun cs => F (.eptr cs) m := Eq.trans rfl rfl
@[simp ↓] theorem kW_ixa17 (len sz : Nat) : kW q Y D (.ixa x y len sz) s m F = ptrW (x.ev s) fun b o => intW (y.ev s) fun _ n => (0 ≤ n ∧ n < len) ∧ letW (.ptr b (o + n.toNat * sz)) fun v => F v m := Eq.trans rfl rfl
@[simp ↓] theorem kW_fld18 (i : Nat) : kW q Y D (.fld x i none) s m F = aggW (x.ev s) fun l => optW l[i]? fun v => F v m := Eq.trans rfl rfl
@[simp ↓] theorem kW_fld19 (i n : Nat) : kW q Y D (.fld x i (some n)) s m F = aggW (x.ev s) fun l => i + n ≤ l.length ∧ letW (.agg ((l.drop i).take n)) fun v => F v m := Eq.trans rfl rfl
@[simp ↓] theorem kW_slc20 (lo hi : Option X) (sz : Nat) : kW q Y D (.slc x lo hi none sz) s m F = srcW (x.ev s) sz fun isn l => idxW s lo 0 fun i => idxW s hi l.length fun h => (0 ≤ i ∧ i ≤ h ∧ h ≤ l.length ∧ mxOk s none h = true) ∧ letW (if isn = true then .val (.slice none 0 0) else if (none : Option X).isSome = true then .full sz ((l.take h.toNat).drop i.toNat) else .lit sz ((l.take h.toNat).drop i.toNat)) fun v => F v m := Eq.trans rfl rfl
@[simp ↓] theorem kW_slc21 (lo hi : Option X) (z : X) (sz : Nat) : kW q Y D (.slc x lo hi (some z) sz) s m F = srcW (x.ev s) sz fun isn l => idxW s lo 0 fun i => idxW s hi l.length fun h => (0 ≤ i ∧ i ≤ h ∧ h ≤ l.length ∧ mxOk s (some z) h = true) ∧ letW (if isn = true then .val (.slice none 0 0) else if (some z).isSome = true then .full sz ((l.take h.toNat).drop i.toNat) else .lit sz ((l.take h.toNat).drop i.toNat)) fun v => F v m := Eq.trans rfl rfl
@[simp ↓ high] theorem kW_slc0 (lo : Option X) (sz : Nat) : kW q Y D (.slc x lo none none sz) s m F = srcW (x.ev s) sz fun isn l => idxW s lo 0 fun i => (0 ≤ i ∧ i ≤ l.length) ∧ letW (if isn = true then .val (.slice none 0 0) else .lit sz (l.drop i.toNat)) fun v => F v m := by
  refine Eq.trans (b := srcW (x.ev s) sz fun isn l => idxW s lo 0 fun i => (0 ≤ i ∧ i ≤ (l.length : Int) ∧ (l.length : Int) ≤ l.length ∧ mxOk s none (l.length : Int) = true) ∧ letW (if isn = true then V.val (.slice none 0 0) else if (none : Option X).isSome = true then .full sz ((l.take (l.length : Int).toNat).drop i.toNat) else .lit sz ((l.take (l.length : Int).toNat).drop i.toNat)) fun v => F v m) rfl ?_
  refine congrArg (srcW (x.ev s) sz) (funext fun isn => funext fun l => congrArg (idxW s lo 0) (funext fun i => ?_))
  have e : (l.take (l.length : Int).toNat) = l := by simp
  show ((0 ≤ i ∧ i ≤ (l.length : Int) ∧ (l.length : Int) ≤ l.length ∧ true = true) ∧ letW (if isn = true then V.val (.slice none 0 0) else .lit sz ((l.take (l.length : Int).toNat).drop i.toNat)) fun v => F v m) = _
  rw [e]
  exact propext ⟨fun ⟨⟨h1, h2, _, _⟩, h⟩ => ⟨⟨h1, h2⟩, h⟩, fun ⟨⟨h1, h2⟩, h⟩ => ⟨⟨h1, h2, Int.le_refl _, rfl⟩, h⟩⟩
@[simp ↓] theorem kW_len22  : kW q Y D (.len x) s m F = lenW (x.ev s) fun n => F (.val (.int .i64 n)) m := Eq.trans rfl rfl
@[simp ↓] theorem kW_slen23  : kW q Y D (.slen x) s m F = strW (x.ev s) fun b => letW (.val (.int .i64 b.size)) fun v => F v m := Eq.trans rfl rfl
@[simp ↓] theorem kW_mm24  : kW q Y D (.mm true x y) s m F = intW (x.ev s) fun k a => intW (y.ev s) fun _ b => letW (.val (.int k (max a b))) fun v => F v m := Eq.trans rfl rfl
@[simp ↓] theorem kW_mm25  : kW q Y D (.mm false x y) s m F = intW (x.ev s) fun k a => intW (y.ev s) fun _ b => letW (.val (.int k (min a b))) fun v => F v m := Eq.trans rfl rfl
@[simp ↓] theorem kW_box26  : kW q Y D (.box x) s m F = letW (x.ev s).cells fun cs => cs.all V.one = true ∧ letW { m with boxes := m.boxes ++ [cs] } fun m' => F (.ptr m.boxes.length 0) m' := Eq.trans rfl rfl
@[simp ↓] theorem kW_alc27 (z : List V) : kW q Y D (.alc z) s m F = letW { m with boxes := m.boxes ++ [z] } fun m' => F (.ptr m.boxes.length 0) m' := Eq.trans rfl rfl
@[simp ↓] theorem kW_alr28 (e sz : Nat) : kW q Y D (.alr e sz) s m F = letW { m with boxes := m.boxes ++ [[.row m.tips.length sz []]], tips := m.tips ++ [(e, sz, 0)] } fun m' => F (.ptr m.boxes.length 0) m' := Eq.trans rfl rfl
@[simp ↓] theorem kW_nil29 (e sz : Nat) (own : Bool) : kW q Y D (.nil e sz own) s m F = newW own m e sz [] F := Eq.trans rfl rfl
@[simp ↓] theorem kW_bld30 (z : List V) (ps : List (Nat × Nat × X)) : kW q Y D (.bld z ps) s m F = (ps.all (fun p => (p.2.2.ev s).cells.all V.one) = true ∧ optW (fillV z s ps) fun r => F (.agg r) m) := Eq.trans rfl rfl
@[simp ↓] theorem kW_mkl31 (e sz : Nat) (own : Bool) : kW q Y D (.mkl e sz xs own) s m F = letW (xs.map fun x => (x.ev s).cells) fun cs => cs.all (fun c => c.length == sz && c.all V.one) = true ∧ newW own m e sz cs F := Eq.trans rfl rfl
@[simp ↓] theorem kW_app32 (e sz bytes : Nat) (own : Bool) : kW q Y D (.app x y e sz bytes own) s m F = srcW (y.ev s) sz fun _ ys => appW (x.ev s) ys e sz bytes own m F := Eq.trans rfl rfl
@[simp ↓] theorem kW_mks33 (e sz bytes : Nat) (z : List V) (own : Bool) : kW q Y D (.mks x y e sz bytes z own) s m F = intW (x.ev s) fun k a => intW (y.ev s) fun k' b => (k = .i64 ∧ k' = .i64 ∧ a = b ∧ 0 ≤ a ∧ a * bytes ≤ 140737488355328) ∧ newW own m e sz (List.replicate a.toNat z) F := Eq.trans rfl rfl
@[simp ↓] theorem kW_mkf34 (f : FuncId) : kW q Y D (.mkf f xs) s m F = letW (xs.map (·.ev s)) fun l => F (.func f l) m := Eq.trans rfl rfl
@[simp ↓] theorem kW_b2s35  : kW q Y D (.b2s x) s m F = srcW (x.ev s) 1 fun _ l => optW (toBytes l) fun l => F (.val (.string ⟨l.toArray⟩)) m := Eq.trans rfl rfl
@[simp ↓] theorem kW_sidx36  : kW q Y D (.sidx x y) s m F = strW (x.ev s) fun b => intW (y.ev s) fun _ n => 0 ≤ n ∧ optW b[n.toNat]? fun c => F (.val (.int .u8 c.toNat)) m := Eq.trans rfl rfl
@[simp ↓] theorem kW_srg37  : kW q Y D (.srg x) s m F = strW (x.ev s) fun b => letW { m with boxes := m.boxes ++ [[.tuple [.val (.string b), .val (.int .i64 0)]]] } fun m' => F (.ptr m.boxes.length 0) m' := Eq.trans rfl rfl
@[simp ↓] theorem kW_snx38  : kW q Y D (.snx x) s m F = goWp (kindE (.snx x) s m) F := Eq.trans rfl rfl
@[simp ↓] theorem kW_frz : kW q Y D (.mem .frz [x]) s m F = frW (x.ev s) (fun off sz n b => optW m.boxes[b]? fun cs => (isObj cs = false ∧ off + n * sz ≤ cs.length) ∧ letW (.lit sz (chunkV sz n (cs.drop off))) fun v => letW { m with boxes := m.boxes.set b deadC } fun m' => F v m') (fun v => F v m) := frzW_eq ..
@[simp ↓] theorem kW_ixr (sz : Nat) : kW q Y D (.mem (.ixr sz) [x, y]) s m F = sliW (x.ev s) fun off sz' n b => intW (y.ev s) fun _ i => (sz' = sz ∧ 0 ≤ i ∧ i < n) ∧ letW (.ptr b (off + i.toNat * sz)) fun v => F v m := ixrW_eq ..
@[simp ↓] theorem kW_aeq (ne : Bool) (ks : List IntKind) : kW q Y D (.mem (.aeq ne ks) [x, y]) s m F = aggW2 (x.ev s) fun l1 => aggW2 (y.ev s) fun l2 => optW (intsOf ks l1) fun p => optW (intsOf ks l2) fun q => F (.val (.bool (if ne = true then !decide (p = q) else decide (p = q)))) m := aeqW_eq ..
@[simp ↓] theorem kW_nck : kW q Y D (.mem .nck [x]) s m F = nckW (x.ev s) fun u => F u m := nckW_eq ..
@[simp ↓] theorem kW_cvf (k : FloatKind) : kW q Y D (.mem (.cvf k) [x]) s m F = intW (x.ev s) fun _ n => F (.val (.float k (k.nearest n))) m := cvfW_eq ..
@[simp ↓] theorem kW_cpx : kW q Y D (.mem .cpx [x, y]) s m F = fltW (x.ev s) fun k a => fltW (y.ev s) fun k' b => k = k' ∧ F (.val (.complex k a b)) m := cpxW_eq ..
@[simp ↓] theorem kW_rei (im : Bool) : kW q Y D (.mem (.rei im) [x]) s m F = cpxW (x.ev s) fun k a b => F (.val (.float k (if im = true then b else a))) m := reiW_eq ..
@[simp ↓] theorem kW_apb (e sz bytes : Nat) : kW q Y D (.mem (.apb e sz bytes) [x, y]) s m F = empW (x.ev s) fun szx isn => elemsW (y.ev s) fun sz' ys => ((isn = true ∨ szx = sz) ∧ sz' = sz ∧ ys ≠ [] ∧ ys.length * bytes ≤ 140737488355328) ∧ letW { m with boxes := m.boxes ++ [ys.flatten] } fun m' => F (.ref (.sli 0 sz ys.length) m.boxes.length) m' := apbW_eq ..
@[simp ↓] theorem kW_eml (sz : Nat) : kW q Y D (.mem (.eml sz) []) s m F = F (.full sz []) m := Eq.trans rfl rfl
@[simp ↓] theorem kW_apx (e sz bytes : Nat) : kW q Y D (.mem (.apx e sz bytes) [x, y]) s m F = apcW sz bytes (x.ev s) (y.ev s) m F := apxW_eq ..
@[simp ↓] theorem kW_ixv (len sz : Nat) : kW q Y D (.mem (.ixv len sz) [x, y]) s m F = aggW2 (x.ev s) fun l => intW (y.ev s) fun _ n => (0 ≤ n ∧ n < len ∧ n.toNat * sz + sz ≤ l.length) ∧ letW (.agg ((l.drop (n.toNat * sz)).take sz)) fun v => F v m := ixvW_eq ..
@[simp ↓] theorem kW_lnr : kW q Y D (.mem .lnr [x]) s m F = slnW (x.ev s) fun n => F (.val (.int .i64 n)) m := lnrW_eq ..
@[simp ↓] theorem kW_mkb (e sz bytes : Nat) (z : List V) : kW q Y D (.mem (.mkb e sz bytes z) [x, y]) s m F = intW (x.ev s) fun k a => intW (y.ev s) fun k' b => (k = .i64 ∧ k' = .i64 ∧ a = b ∧ 0 ≤ a ∧ a * bytes ≤ 140737488355328) ∧ letW { m with boxes := m.boxes ++ [(List.replicate a.toNat z).flatten] } fun m' => F (.ref (.sli 0 sz a.toNat) m.boxes.length) m' := mkbW_eq ..
@[simp ↓] theorem kW_mkm : kW q Y D .mkm s m F = letW { m with boxes := m.boxes ++ [mpV []] } fun m' => F (.ref .map m.boxes.length) m' := Eq.trans rfl rfl
@[simp ↓] theorem kW_mup (z : X) : kW q Y D (.mup x z y) s m F = refW (x.ev s) m fun b kvs => intW (z.ev s) fun ik i => ik = .i64 ∧ letW (mpV (mpPut kvs i (y.ev s))) fun c => letW { m with boxes := m.boxes.set b c } fun m' => F (.tuple []) m' := Eq.trans rfl rfl
@[simp ↓] theorem kW_mlk1 (z : X) (u : V) : kW q Y D (.mlk x z u true) s m F = refW (x.ev s) m fun _ kvs => intW (z.ev s) fun ik i => ik = .i64 ∧ atW (mpAt kvs i) (fun v => F (.tuple [v, .val (.bool true)]) m) (F (.tuple [u, .val (.bool false)]) m) := Eq.trans rfl rfl
@[simp ↓] theorem kW_mlk2 (z : X) (u : V) : kW q Y D (.mlk x z u false) s m F = refW (x.ev s) m fun _ kvs => intW (z.ev s) fun ik i => ik = .i64 ∧ atW (mpAt kvs i) (fun v => F v m) (F u m) := Eq.trans rfl rfl
@[simp ↓] theorem kW_dead39  : kW q Y D (.dead) s m F = False := Eq.trans rfl rfl
end
end
theorem kindE_snx (x : X) (s : Nat → V) (m : Mem) : kindE (.snx x) s m = match x.ev s with
    | .ptr b 0 => match m.boxes[b]? with
      | some [.tuple [.val (.string str), .val (.int .i64 pos)]] => if pos.toNat < str.size then
          some (.tuple [.val (.bool true), .val (.int .i64 pos.toNat), .val (.int .i32 (Utf8.decode str pos.toNat).1)], { m with boxes := m.boxes.set b [.tuple [.val (.string str), .val (.int .i64 (pos.toNat + (Utf8.decode str pos.toNat).2 : Nat))]] })
        else some (.tuple [.val (.bool false)], m)
      | _ => none
    | _ => none := rfl
theorem put_at' (d : Nat) (v : V) (s : Nat → V) (t : Nat) : put (some d) v s t = if t = d then v else s t := Eq.trans rfl rfl
theorem put_no (v : V) (s : Nat → V) : put none v s = s := Eq.trans rfl rfl
attribute [simp] kindE_snx X.ev put_at' put_no argS resE RV.es RV.e oneOr newV sepAll wk1 wkL keepN1 keepNL keepN
end Go.Av

namespace Go.Av
open Go.RowKit

def Orc.nil : Orc := ⟨fun _ _ => none, fun _ _ _ => none, fun _ => false⟩
def Orc.add (D : Orc) (n : FuncId) (sp : List V → Option (V × List Tip)) : Orc := ⟨fun f => if f = n then sp else D.pure f, D.loc, fun f => if f = n then false else D.isLoc f⟩
def Orc.addL (D : Orc) (n : FuncId) (sp : List V → Mem → Option (V × Mem)) : Orc := ⟨D.pure, fun f => if f = n then sp else D.loc f, fun f => if f = n then true else D.isLoc f⟩
/-- An entry's word. -/
def EOk (P : Program) (n : FuncId) (sp : List V → Option (V × List Tip)) : Prop :=
  ∀ args v tips, sp args = some (v, tips) → (∃ args', WkL args args' ∧ Pure P n args' v tips ∧ cleanL args' = true) ∨ (tips = [] ∧ v.isClean = true ∧ ExtR P n args v)
def EOkL (P : Program) (n : FuncId) (sp : List V → Mem → Option (V × Mem)) : Prop := ∀ args m v m', sp args m = some (v, m') → Loc P n args m v m'
theorem OOk.nil {P : Program} : OOk P .nil := ⟨fun _ _ _ _ _ h => (by cases h), fun _ _ _ _ _ _ h => (by cases h)⟩
theorem OOk.add {P : Program} {D : Orc} (h : OOk P D) {n : FuncId} {sp : List V → Option (V × List Tip)} (he : EOk P n sp) : OOk P (D.add n sp) where
  pure f args v tips h1 h2 := by
    simp only [Orc.add] at h1 h2
    by_cases e : f = n
    · subst e
      rw [if_pos rfl] at h2
      exact he args v tips h2
    · rw [if_neg e] at h1 h2
      exact h.pure f args v tips h1 h2
  loc f args m v m' h1 h2 := by
    simp only [Orc.add] at h1 h2
    by_cases e : f = n
    · subst e
      rw [if_pos rfl] at h1
      cases h1
    · rw [if_neg e] at h1
      exact h.loc f args m v m' h1 h2
theorem OOk.addL {P : Program} {D : Orc} (h : OOk P D) {n : FuncId} {sp : List V → Mem → Option (V × Mem)} (he : EOkL P n sp) : OOk P (D.addL n sp) where
  pure f args v tips h1 h2 := by
    simp only [Orc.addL] at h1 h2
    by_cases e : f = n
    · subst e
      rw [if_pos rfl] at h1
      cases h1
    · rw [if_neg e] at h1
      exact h.pure f args v tips h1 h2
  loc f args m v m' h1 h2 := by
    simp only [Orc.addL] at h1 h2
    by_cases e : f = n
    · subst e
      rw [if_pos rfl] at h2
      exact he args m v m' h2
    · rw [if_neg e] at h1 h2
      exact h.loc f args m v m' h1 h2
section
variable {D : Orc} {n f : FuncId} {sp : List V → Option (V × List Tip)} {sl : List V → Mem → Option (V × Mem)} {q : Bool} {args : List V} {m : Mem} {F : V → Mem → Prop}
@[simp ↓] theorem callW_add : callW (D.add n sp) q f args m F = if f = n then pureW (sp args) q m F else callW D q f args m F := by
  unfold callW
  by_cases e : f = n
  · simp [Orc.add, e]
  · simp [Orc.add, e]
@[simp ↓] theorem callW_addL : callW (D.addL n sl) q f args m F = if f = n then (q = false ∧ goWp (sl args m) F) else callW D q f args m F := by
  unfold callW
  by_cases e : f = n
  · simp [Orc.addL, e]
  · simp [Orc.addL, e]
end


section
variable {P : Program} {D : Orc} {own : Nat → Bool} {f : FuncId} {F : F} {args : List V} {r : V}
/-- Of no rows. -/
theorem Pure.ofC (hD : OOk P D) (hm : P.follows .mixedOrders = true) (hF : compF P own f = some F) (hn : args.length ≤ F.n) (hres : r.res = true)
    (h : wp P noY D F.c (argS args) ⟨[], []⟩ (Fin F.rs fun v _ => keepN [] v r)) : Pure P f args r [] :=
  Pure.ofD hD hm hF hn hres (wp_mono _ (fun e s m hq => by
    cases e with
    | normal => obtain ⟨v, h1, h2⟩ := hq; exact ⟨v, h1, OutP.clean h2⟩
    | ret => obtain ⟨v, h1, h2⟩ := hq; exact ⟨v, h1, OutP.clean h2⟩
    | _ => exact hq) h)
/-- Of one row. -/
theorem Pure.ofR (hD : OOk P D) (hm : P.follows .mixedOrders = true) (hF : compF P own f = some F) {tip : Tip} (hn : args.length ≤ F.n) (hres : r.res = true)
    (h : wp P noY D F.c (argS args) ⟨[], []⟩ (Fin F.rs fun v m => ∃ t, keepN [t] v r ∧ m.tips[t]? = some tip)) : Pure P f args r [tip] :=
  Pure.ofD hD hm hF hn hres (wp_mono _ (fun e s m hq => by
    cases e with
    | normal => obtain ⟨v, h1, t, h2, h3⟩ := hq; exact ⟨v, h1, OutP.one h2 h3⟩
    | ret => obtain ⟨v, h1, t, h2, h3⟩ := hq; exact ⟨v, h1, OutP.one h2 h3⟩
    | _ => exact hq) h)
end

-- Values of Lean.
class Enc (α : Type) where
  enc : α → V
  dec : V → Option α
  ok : ∀ (v : V) (a : α), dec v = some a → ∀ (M : Mp) (w : World) (x : Value), Rep M w v x → Rep M w (enc a) x
  cl : ∀ a, (enc a).isClean = true
  de : ∀ a, dec (enc a) = some a
/-- As cells, of a struct, or of an element. -/
class Cel (α : Type) where
  sz : Nat
  cs : α → List V
  dc : List V → Option α
  len : ∀ a, (cs a).length = sz
  ok : ∀ (l : List V) (a : α), dc l = some a → ∀ (M : Mp) (w : World) (us : List Value), RepL M w l us → RepL M w (cs a) us
  cl : ∀ a, cleanL (cs a) = true
  de : ∀ a, dc (cs a) = some a
open Enc (enc dec)
open Cel (cs dc)

instance : Enc Int where
  enc n := .val (.int .i64 n)
  dec v := match v with
    | .val (.int .i64 n) => some n
    | _ => none
  ok v a h M w x hr := by
    split at h
    · cases h; exact hr
    · cases h
  cl _ := rfl
  de _ := rfl
instance : Enc Nat where
  enc n := .val (.int .u64 n)
  dec v := match v with
    | .val (.int .u64 n) => if 0 ≤ n then some n.toNat else none
    | _ => none
  ok v a h M w x hr := by
    split at h
    · split at h
      · cases h
        rename_i n h0
        rw [show ((n.toNat : Nat) : Int) = n by omega]
        exact hr
      · cases h
    · cases h
  cl _ := rfl
  de n := by simp
instance : Enc Bool where
  enc n := .val (.bool n)
  dec v := match v with
    | .val (.bool n) => some n
    | _ => none
  ok v a h M w x hr := by
    split at h
    · cases h; exact hr
    · cases h
  cl _ := rfl
  de _ := rfl
instance : Enc UInt8 where
  enc n := .val (.int .u8 n.toNat)
  dec v := match v with
    | .val (.int .u8 n) => if 0 ≤ n ∧ n < 256 then some (UInt8.ofNat n.toNat) else none
    | _ => none
  ok v a h M w x hr := by
    split at h
    · split at h
      · cases h
        rename_i n h0
        have : n.toNat < 256 := by omega
        rw [show (((UInt8.ofNat n.toNat).toNat : Nat) : Int) = n by simp; omega]
        exact hr
      · cases h
    · cases h
  cl _ := rfl
  de n := by
    have := n.toNat_lt
    simp
    omega
/-- A number of thirty-two bits. -/
instance : Enc UInt32 where
  enc n := .val (.int .u32 n.toNat)
  dec v := match v with
    | .val (.int .u32 n) => if 0 ≤ n ∧ n < 4294967296 then some (UInt32.ofNat n.toNat) else none
    | _ => none
  ok v a h M w x hr := by
    split at h
    · split at h
      · cases h
        rename_i n h0
        rw [show (((UInt32.ofNat n.toNat).toNat : Nat) : Int) = n by simp; omega]
        exact hr
      · cases h
    · cases h
  cl _ := rfl
  de n := by
    have := n.toNat_lt
    simp
    omega
structure Rune where
  v : Int
instance : Enc Rune where
  enc n := .val (.int .i32 n.v)
  dec v := match v with
    | .val (.int .i32 n) => some ⟨n⟩
    | _ => none
  ok v a h M w x hr := by
    split at h
    · cases h; exact hr
    · cases h
  cl _ := rfl
  de _ := rfl
instance : Enc ByteArray where
  enc n := .val (.string n)
  dec v := match v with
    | .val (.string n) => some n
    | _ => none
  ok v a h M w x hr := by
    split at h
    · cases h; exact hr
    · cases h
  cl _ := rfl
  de _ := rfl

def decX {α : Type} [Cel α] : List (List V) → Option (List α)
  | [] => some []
  | e :: r => (dc e).bind fun a => (decX r).bind fun l => some (a :: l)
section
variable {α : Type} [Cel α]
theorem RepC.of_dc {M : Mp} {w : World} {l : List V} {a : α} (h : dc l = some a) {b o : Nat} (hr : RepC M w l b o) : RepC M w (cs a) b o := by
  obtain ⟨us, h1, h2, h3⟩ := hr.list
  exact RepC.of_list (Cel.ok l a h M w us h1) h2 h3
theorem dc_len {M : Mp} {w : World} {l : List V} {a : α} (h : dc l = some a) {us : List Value} (hr : RepL M w l us) : l.length = Cel.sz α := by
  rw [← hr.length, (Cel.ok l a h M w us hr).length, Cel.len]
theorem RepX.of_dc {M : Mp} {w : World} : ∀ {xs : List (List V)} {l : List α}, decX xs = some l → ∀ {b o : Nat}, RepX M w xs b o → RepX M w (l.map cs) b o ∧ xs.length = l.length
  | [], l, h, _, _, _ => by cases h; exact ⟨trivial, rfl⟩
  | e :: r, l, h, b, o, hr => by
    simp only [decX, Option.bind_eq_some_iff] at h
    obtain ⟨a, h1, l', h2, h3⟩ := h
    cases h3
    obtain ⟨us, k1, _, _⟩ := hr.1.list
    obtain ⟨i1, i2⟩ := RepX.of_dc h2 hr.2
    refine ⟨⟨RepC.of_dc h1 hr.1, ?_⟩, by simp [i2]⟩
    rw [Cel.len, ← dc_len h1 k1]
    exact i1
theorem clean_cs : ∀ (l : List α), cleanX (l.map cs) = true
  | [] => rfl
  | a :: l => by simp only [List.map_cons, cleanX, Cel.cl, clean_cs l]; rfl
theorem decX_map : ∀ (l : List α), decX (l.map cs) = some l
  | [] => rfl
  | a :: l => by simp [decX, Cel.de, decX_map l]
theorem decX_append : ∀ (xs ys : List (List V)), (decX (xs ++ ys) : Option (List α)) = (decX xs).bind fun a => (decX ys).bind fun b => some (a ++ b)
  | [], ys => by cases h : (decX ys : Option (List α)) <;> simp [decX, h]
  | e :: r, ys => by
    simp only [List.cons_append, decX, decX_append r ys]
    cases (dc e : Option α) <;> cases (decX r : Option (List α)) <;> cases (decX ys : Option (List α)) <;> simp
instance : Enc (List α) where
  enc l := .lit (Cel.sz α) (l.map cs)
  dec v := match v with
    | .val (.slice none 0 0) => some []
    | .emp _ => some []
    | .lit z xs | .full z xs | .row _ z xs => if z = Cel.sz α then decX xs else none
    | _ => none
  ok v l h M w x hr := by
    have key : ∀ {v : V} {z : Nat} {xs : List (List V)}, Rep M w v x → v.elems = some (z, xs) → z = Cel.sz α → decX xs = some l → Rep M w (.lit (Cel.sz α) (l.map cs)) x := by
      intro v z xs hr he hz hd
      rcases elems_rep hr he with ⟨rfl, rfl⟩ | ⟨ad, c, rfl, h1, h2, h3, h4⟩
      · cases hd; exact .inl ⟨rfl, rfl⟩
      · obtain ⟨i1, i2⟩ := RepX.of_dc hd h4
        refine .inr ⟨ad, c, by rw [i2, List.length_map], by simpa [← i2] using h1, ?_, ?_, i1⟩
        · rcases h2 with rfl | h2
          · cases hd; exact .inl rfl
          · exact .inr h2
        · intro e he
          obtain ⟨a, _, rfl⟩ := List.mem_map.1 he
          exact Cel.len a
    split at h
    · cases h; exact .inl ⟨rfl, hr.1⟩
    · cases h; obtain ⟨ad, c, rfl⟩ := hr; exact .inr ⟨ad, c, rfl, Nat.zero_le _, .inl rfl, by simp, trivial⟩
    · split at h
      · rename_i hz; exact key hr rfl hz h
      · cases h
    · split at h
      · rename_i hz; exact key hr rfl hz h
      · cases h
    · split at h
      · rename_i hz; exact key hr rfl hz h
      · cases h
    · cases h
  cl l := clean_cs l
  de l := by simp [decX_map]
end
/-- A cell that holds a value. -/
def dc1 {α : Type} [Enc α] : List V → Option α
  | [v] => dec v
  | _ => none
theorem dc1_ok {α : Type} [Enc α] (l : List V) (a : α) (h : dc1 l = some a) (M : Mp) (w : World) (us : List Value) (hr : RepL M w l us) : RepL M w [enc a] us := by
  unfold dc1 at h
  split at h
  · obtain ⟨x, r, rfl, h1, h2⟩ := hr
    exact ⟨x, r, rfl, Enc.ok _ _ h M w x h1, h2⟩
  · cases h
instance : Cel UInt8 := ⟨1, fun a => [enc a], dc1, fun _ => rfl, dc1_ok, fun a => by simp [Enc.cl], fun a => by simp [dc1, Enc.de]⟩
instance : Cel Nat := ⟨1, fun a => [enc a], dc1, fun _ => rfl, dc1_ok, fun a => by simp [Enc.cl], fun a => by simp [dc1, Enc.de]⟩
instance : Cel Int := ⟨1, fun a => [enc a], dc1, fun _ => rfl, dc1_ok, fun a => by simp [Enc.cl], fun a => by simp [dc1, Enc.de]⟩
/-- Struct values, by their cells. -/
@[reducible] def encC {α : Type} [Cel α] : Enc α where
  enc a := .agg (cs a)
  dec v := match v with
    | .agg l => dc l
    | _ => none
  ok v a h M w x hr := by
    split at h
    · obtain ⟨vs, rfl, hr⟩ := hr
      exact ⟨vs, rfl, Cel.ok _ _ h M w _ hr⟩
    · cases h
  cl a := Cel.cl a
  de a := Cel.de a

-- What is known of a function, by its arguments.
section
variable {α β γ δ ε : Type} [Enc α] [Enc β] [Enc γ] [Enc δ] [Enc ε]
def sp0 (f : Option (V × List Tip)) : List V → Option (V × List Tip)
  | [] => f
  | _ => none
def sp1 (f : α → Option (V × List Tip)) : List V → Option (V × List Tip)
  | [a] => (dec a).bind f
  | _ => none
def sp2 (f : α → β → Option (V × List Tip)) : List V → Option (V × List Tip)
  | [a, b] => (dec a).bind fun x => (dec b).bind fun y => f x y
  | _ => none
def sp3 (f : α → β → γ → Option (V × List Tip)) : List V → Option (V × List Tip)
  | [a, b, c] => (dec a).bind fun x => (dec b).bind fun y => (dec c).bind fun z => f x y z
  | _ => none
def sp4 (f : α → β → γ → δ → Option (V × List Tip)) : List V → Option (V × List Tip)
  | [a, b, c, d] => (dec a).bind fun x => (dec b).bind fun y => (dec c).bind fun z => (dec d).bind fun u => f x y z u
  | _ => none
def sp5 (f : α → β → γ → δ → ε → Option (V × List Tip)) : List V → Option (V × List Tip)
  | [a, b, c, d, e] => (dec a).bind fun x => (dec b).bind fun y => (dec c).bind fun z => (dec d).bind fun u => (dec e).bind fun v => f x y z u v
  | _ => none
variable {P : Program} {n : FuncId}
theorem wk_dec {l l' : List V} (h : WkL l l') {v : V} {a : α} (hd : dec v = some a) : WkL (v :: l) (enc a :: l') := by
  intro M w m hr
  obtain ⟨x, r, rfl, h1, h2⟩ := hr
  exact ⟨x, r, rfl, Enc.ok v a hd M w x h1, h M w r h2⟩
theorem wk_nil : WkL [] [] := fun _ _ _ h => h
theorem sp0_ok {f : Option (V × List Tip)} (h : ∀ r, f = some r → Pure P n [] r.1 r.2) : EOk P n (sp0 f) := by
  intro args v tips hs
  unfold sp0 at hs
  split at hs
  · exact .inl ⟨_, wk_nil, h _ hs, rfl⟩
  · cases hs
theorem sp1_ok {f : α → Option (V × List Tip)} (h : ∀ a r, f a = some r → Pure P n [enc a] r.1 r.2) : EOk P n (sp1 f) := by
  intro args v tips hs
  unfold sp1 at hs
  split at hs
  · simp only [Option.bind_eq_some_iff] at hs
    obtain ⟨x, hx, hs⟩ := hs
    exact .inl ⟨_, wk_dec wk_nil hx, h _ _ hs, by simp [Enc.cl]⟩
  · cases hs
theorem sp2_ok {f : α → β → Option (V × List Tip)} (h : ∀ a b r, f a b = some r → Pure P n [enc a, enc b] r.1 r.2) : EOk P n (sp2 f) := by
  intro args v tips hs
  unfold sp2 at hs
  split at hs
  · simp only [Option.bind_eq_some_iff] at hs
    obtain ⟨x, hx, y, hy, hs⟩ := hs
    exact .inl ⟨_, wk_dec (wk_dec wk_nil hy) hx, h _ _ _ hs, by simp [Enc.cl]⟩
  · cases hs
theorem sp3_ok {f : α → β → γ → Option (V × List Tip)} (h : ∀ a b c r, f a b c = some r → Pure P n [enc a, enc b, enc c] r.1 r.2) : EOk P n (sp3 f) := by
  intro args v tips hs
  unfold sp3 at hs
  split at hs
  · simp only [Option.bind_eq_some_iff] at hs
    obtain ⟨x, hx, y, hy, z, hz, hs⟩ := hs
    exact .inl ⟨_, wk_dec (wk_dec (wk_dec wk_nil hz) hy) hx, h _ _ _ _ hs, by simp [Enc.cl]⟩
  · cases hs
end

attribute [simp] Enc.cl Enc.de Cel.cl Cel.de clean_cs decX_map decX_append sp0 sp1 sp2 sp3 sp4 sp5 dc1
section
variable {α : Type} [Cel α]
@[simp] theorem enc_int (n : Int) : (enc n : V) = .val (.int .i64 n) := rfl
@[simp] theorem enc_nat (n : Nat) : (enc n : V) = .val (.int .u64 n) := rfl
@[simp] theorem enc_bool (n : Bool) : (enc n : V) = .val (.bool n) := rfl
@[simp] theorem enc_u8 (n : UInt8) : (enc n : V) = .val (.int .u8 n.toNat) := rfl
@[simp] theorem enc_u32 (n : UInt32) : (enc n : V) = .val (.int .u32 n.toNat) := rfl
@[simp] theorem enc_rune (n : Rune) : (enc n : V) = .val (.int .i32 n.v) := rfl
@[simp] theorem enc_str (n : ByteArray) : (enc n : V) = .val (.string n) := rfl
@[simp] theorem enc_list (l : List α) : (enc l : V) = .lit (Cel.sz α) (l.map cs) := rfl
@[simp] theorem dec_int (n : Int) : (dec (.val (.int .i64 n)) : Option Int) = some n := rfl
@[simp] theorem dec_nat (n : Int) : (dec (.val (.int .u64 n)) : Option Nat) = if 0 ≤ n then some n.toNat else none := rfl
@[simp] theorem dec_bool (n : Bool) : (dec (.val (.bool n)) : Option Bool) = some n := rfl
@[simp] theorem dec_u8 (n : Int) : (dec (.val (.int .u8 n)) : Option UInt8) = if 0 ≤ n ∧ n < 256 then some (UInt8.ofNat n.toNat) else none := rfl
@[simp high] theorem dec_u8' (c : UInt8) : (dec (.val (.int .u8 (c.toNat : Int))) : Option UInt8) = some c := Enc.de c
@[simp high] theorem dec_u32' (c : UInt32) : (dec (.val (.int .u32 (c.toNat : Int))) : Option UInt32) = some c := Enc.de c
@[simp] theorem dec_u32 (n : Int) : (dec (.val (.int .u32 n)) : Option UInt32) = if 0 ≤ n ∧ n < 4294967296 then some (UInt32.ofNat n.toNat) else none := rfl
@[simp] theorem dec_rune (n : Int) : (dec (.val (.int .i32 n)) : Option Rune) = some ⟨n⟩ := rfl
@[simp] theorem dec_str (n : ByteArray) : (dec (.val (.string n)) : Option ByteArray) = some n := rfl
@[simp] theorem dec_list_nil : (dec (.val (.slice none 0 0)) : Option (List α)) = some [] := rfl
@[simp] theorem dec_list_emp (z : Nat) : (dec (.emp z) : Option (List α)) = some [] := rfl
@[simp] theorem dec_list_lit (z : Nat) (xs : List (List V)) : (dec (.lit z xs) : Option (List α)) = if z = Cel.sz α then decX xs else none := rfl
@[simp] theorem dec_list_full (z : Nat) (xs : List (List V)) : (dec (.full z xs) : Option (List α)) = if z = Cel.sz α then decX xs else none := rfl
@[simp] theorem dec_list_row (t z : Nat) (xs : List (List V)) : (dec (.row t z xs) : Option (List α)) = if z = Cel.sz α then decX xs else none := rfl
@[simp] theorem decX_nil : (decX [] : Option (List α)) = some [] := rfl
@[simp] theorem decX_cons (e : List V) (r : List (List V)) : (decX (e :: r) : Option (List α)) = (dc e).bind fun a => (decX r).bind fun l => some (a :: l) := rfl
@[simp] theorem sz_u8 : Cel.sz UInt8 = 1 := rfl
@[simp] theorem sz_nat : Cel.sz Nat = 1 := rfl
@[simp] theorem sz_int : Cel.sz Int = 1 := rfl
@[simp] theorem cs_u8 (n : UInt8) : cs n = [.val (.int .u8 n.toNat)] := rfl
@[simp] theorem cs_nat (n : Nat) : cs n = [.val (.int .u64 n)] := rfl
@[simp] theorem cs_int (n : Int) : cs n = [.val (.int .i64 n)] := rfl
@[simp] theorem dc_u8 (l : List V) : (dc l : Option UInt8) = dc1 l := rfl
@[simp] theorem dc_nat (l : List V) : (dc l : Option Nat) = dc1 l := rfl
@[simp] theorem dc_int (l : List V) : (dc l : Option Int) = dc1 l := rfl
@[simp] theorem u64_wrap_nn (n : Int) : 0 ≤ IntKind.u64.wrap n := by simp [IntKind.wrap, IntKind.bits, IntKind.signed]; omega
end

section
variable {α : Type} [Cel α]
theorem decX_drop' : ∀ (n : Nat) (xs : List (List V)) (l : List α), decX xs = some l → decX (xs.drop n) = some (l.drop n)
  | 0, _, _, h => h
  | n + 1, [], l, h => by cases h; rfl
  | n + 1, e :: r, l, h => by
    simp only [decX, Option.bind_eq_some_iff] at h
    obtain ⟨a, _, l', h2, h3⟩ := h
    cases h3
    exact decX_drop' n r l' h2
theorem decX_take' : ∀ (n : Nat) (xs : List (List V)) (l : List α), decX xs = some l → decX (xs.take n) = some (l.take n)
  | 0, _, _, _ => rfl
  | n + 1, [], l, h => by cases h; rfl
  | n + 1, e :: r, l, h => by
    simp only [decX, Option.bind_eq_some_iff] at h
    obtain ⟨a, h1, l', h2, h3⟩ := h
    cases h3
    simp [decX, h1, decX_take' n r l' h2]
@[simp] theorem decX_drop (n : Nat) (xs : List (List V)) (h : (decX xs : Option (List α)).isSome = true) : (decX (xs.drop n) : Option (List α)) = (decX xs).map (·.drop n) := by
  obtain ⟨l, hl⟩ := Option.isSome_iff_exists.1 h
  rw [decX_drop' n xs l hl, hl]; rfl
@[simp] theorem decX_take (n : Nat) (xs : List (List V)) (h : (decX xs : Option (List α)).isSome = true) : (decX (xs.take n) : Option (List α)) = (decX xs).map (·.take n) := by
  obtain ⟨l, hl⟩ := Option.isSome_iff_exists.1 h
  rw [decX_take' n xs l hl, hl]; rfl
end

@[simp] theorem clean_drop' (n : Nat) (l : List (List V)) (h : cleanX l = true) : cleanX (l.drop n) = true := clean_drop n l h
@[simp] theorem clean_take' (n : Nat) (l : List (List V)) (h : cleanX l = true) : cleanX (l.take n) = true := clean_take n l h
@[simp] theorem set_last {α : Type} (l : List α) (a b : α) : (l ++ [a]).set l.length b = l ++ [b] := by
  induction l with
  | nil => rfl
  | cons x l ih => simp
@[simp] theorem clean_rep (n : Nat) (c : List V) (h : cleanL c = true) : cleanX (List.replicate n c) = true := by
  induction n with
  | zero => rfl
  | succ n ih => rw [List.replicate_succ, cleanX, h, ih]; rfl
@[simp] theorem clean_app : ∀ (a b : List (List V)), cleanX (a ++ b) = (cleanX a && cleanX b)
  | [], b => by simp
  | x :: a, b => by simp [clean_app a b, Bool.and_assoc]

theorem toBytes_eq : ∀ (xs : List (List V)), toBytes xs = (decX xs : Option (List UInt8))
  | [] => rfl
  | e :: r => by
    have ih := toBytes_eq r
    unfold toBytes
    split
    · rename_i h; cases h
    · rename_i n r' h
      cases h
      simp only [decX_cons, dc_u8, dc1, dec_u8]
      split
      · rw [ih]; cases (decX r : Option (List UInt8)) <;> simp
      · simp
    · rename_i h1 h2
      simp only [decX_cons, dc_u8]
      have : (dc1 e : Option UInt8) = none := by
        unfold dc1
        split
        · rename_i v
          show (match v with
            | .val (.int .u8 n) => if 0 ≤ n ∧ n < 256 then some (UInt8.ofNat n.toNat) else none
            | _ => none) = none
          split
          · rename_i n; exact absurd rfl (h2 n r)
          · rfl
        · rfl
      rw [this]
      rfl
attribute [simp] toBytes_eq fillV
@[simp] theorem binV_seq (a b : List UInt8) : binV .eql (.val (.string ⟨a.toArray⟩)) (.val (.string ⟨b.toArray⟩)) = some (.val (.bool (a == b))) := by
  show some (V.val (.bool ((ByteArray.mk a.toArray).toList == (ByteArray.mk b.toArray).toList))) = _
  rw [ByteArray.toList_mk, ByteArray.toList_mk]
@[simp] theorem binV_sne (a b : List UInt8) : binV .neq (.val (.string ⟨a.toArray⟩)) (.val (.string ⟨b.toArray⟩)) = some (.val (.bool (!(a == b)))) := by
  show some (V.val (.bool (!((ByteArray.mk a.toArray).toList == (ByteArray.mk b.toArray).toList)))) = _
  rw [ByteArray.toList_mk, ByteArray.toList_mk]

/-- An empty slice is none, or it is not. -/
theorem Pure.lit_cases {P : Program} {f : FuncId} {rest : List V} {r : V} {tips : List Tip} {α : Type} [Cel α] (l : List α) (h0 : l = [] → Pure P f (.val (.slice none 0 0) :: rest) r tips) (h1 : l = [] → Pure P f (.emp (Cel.sz α) :: rest) r tips)
    (h2 : ∀ x t, l = x :: t → Pure P f ((enc l : V) :: rest) r tips) : Pure P f ((enc l : V) :: rest) r tips := by
  cases l with
  | cons x t => exact h2 x t rfl
  | nil =>
    have h0 := h0 rfl
    have h1 := h1 rfl
    refine ⟨h0.1, h0.2.1, fun I w vals hI hr => ?_⟩
    obtain ⟨x, rl, e, hx, hrest⟩ := hr
    rcases hx with ⟨_, rfl⟩ | ⟨ad, c, rfl, _⟩
    · exact h0.2.2 I w vals hI ⟨_, rl, e, ⟨rfl, rfl⟩, hrest⟩
    · exact h1.2.2 I w vals hI ⟨_, rl, e, ⟨ad, c, rfl⟩, hrest⟩
end Go.Av

namespace Go.Av
open Go.Proofs

theorem hm : Try.prog.follows .mixedOrders = true := by kernel_rfl
@[simp] abbrev n_le_may : FuncId := 120
def F_le_may : F := ⟨(.seq (.ops [⟨(some 4), none, (.mov (.c (.bool false)))⟩]) (.seq (.seq (.ops [⟨(some 5), none, (.mov (.t 1))⟩]) (.block 0 (.seq (.seq (.ops [⟨(some 7), none, (.bin .eql (.t 5) (.c (.int .i64 1)))⟩, ⟨(some 6), none, (.mov (.t 7))⟩]) (.cond (.t 6) .skip (.seq (.ops [⟨(some 8), none, (.bin .eql (.t 5) (.c (.int .i64 2)))⟩, ⟨(some 6), none, (.mov (.t 8))⟩]) (.cond (.t 6) .skip (.ops [⟨(some 9), none, (.bin .eql (.t 5) (.c (.int .i64 4)))⟩, ⟨(some 6), none, (.mov (.t 9))⟩]))))) (.cond (.t 6) (.seq (.ops [⟨(some 10), none, (.mov (.t 0))⟩, ⟨(some 11), none, (.mov (.t 1))⟩, ⟨(some 12), none, (.bin .mul (.c (.int .i64 8)) (.t 11))⟩, ⟨(some 13), none, (.bin .shr (.t 10) (.t 12))⟩, ⟨(some 14), none, (.bin .eql (.t 13) (.c (.int .u64 0)))⟩, ⟨(some 4), none, (.mov (.t 14))⟩]) .ret) .skip)))) (.seq (.ops [⟨(some 15), none, (.mov (.t 1))⟩, ⟨(some 16), none, (.bin .eql (.t 15) (.c (.int .i64 8)))⟩, ⟨(some 4), none, (.mov (.t 16))⟩]) .ret))), 17, [(.tmp 4)]⟩
theorem F_le_may_ok : compF Try.prog (fun _ => true) 120 = some F_le_may := by kernel_rfl
@[simp] abbrev n_bytes_Clone : FuncId := 77
def F_bytes_Clone : F := ⟨(.seq (.ops [⟨(some 2), none, (.nil 5 1 true)⟩]) (.seq (.seq (.ops [⟨(some 3), none, (.mov (.t 0))⟩, ⟨(some 4), none, (.snil false (.t 3))⟩]) (.cond (.t 4) (.seq (.ops [⟨(some 2), none, (.nil 5 1 true)⟩]) .ret) .skip)) (.seq (.ops [⟨(some 5), none, (.mkl 5 1 [] true)⟩, ⟨(some 6), none, (.mov (.t 0))⟩, ⟨(some 7), none, (.app (.t 5) (.t 6) 5 1 1 true)⟩, ⟨(some 2), none, (.mov (.t 7))⟩]) .ret))), 8, [(.tmp 2)]⟩
theorem F_bytes_Clone_ok : compF Try.prog (fun _ => true) 77 = some F_bytes_Clone := by kernel_rfl
@[simp] abbrev n_le_Put : FuncId := 69
def F_le_Put_L0 : C := (.seq (.ops [⟨(some 17), none, (.bin .lss (.t 16) (.t 15))⟩]) (.seq (.cond (.t 17) .skip (.exit 0)) (.seq (.block 1 (.seq (.ops [⟨(some 18), none, (.mov (.t 8))⟩, ⟨(some 19), none, (.mov (.t 1))⟩, ⟨(some 20), none, (.conv .u8 (.t 19))⟩, ⟨(some 21), none, (.mkl 5 1 [(.t 20)] false)⟩, ⟨(some 22), none, (.app (.t 18) (.t 21) 5 1 1 true)⟩, ⟨(some 8), none, (.mov (.t 22))⟩]) (.ops [⟨(some 23), none, (.mov (.t 1))⟩, ⟨(some 24), none, (.bin .shr (.t 23) (.c (.int .u64 8)))⟩, ⟨(some 1), none, (.mov (.t 24))⟩]))) (.ops [⟨(some 25), none, (.bin .add (.t 16) (.c (.int .i64 1)))⟩, ⟨(some 16), none, (.mov (.t 25))⟩]))))
def F_le_Put : F := ⟨(.seq (.ops [⟨(some 6), none, (.nil 5 1 true)⟩, ⟨(some 7), none, (.mov (.c (.int .i64 0)))⟩]) (.seq (.seq (.ops [⟨(some 9), none, (.mov (.t 1))⟩, ⟨(some 10), none, (.mov (.t 2))⟩, ⟨(some 11), none, (.call 120 [(.t 9), (.t 10)])⟩, ⟨(some 12), none, (.un .not (.t 11))⟩]) (.cond (.t 12) (.seq (.ops [⟨(some 6), none, (.nil 5 1 true)⟩, ⟨(some 7), none, (.mov (.c (.int .i64 10)))⟩]) .ret) .skip)) (.seq (.ops [⟨(some 13), none, (.mov (.t 0))⟩, ⟨(some 14), none, (.call 77 [(.t 13)])⟩, ⟨(some 8), none, (.mov (.t 14))⟩]) (.seq (.seq (.ops [⟨(some 15), none, (.mov (.t 2))⟩, ⟨(some 16), none, (.mov (.c (.int .i64 0)))⟩]) (.block 0 (.loop F_le_Put_L0))) (.seq (.ops [⟨(some 26), none, (.mov (.t 8))⟩, ⟨(some 6), none, (.mov (.t 26))⟩, ⟨(some 7), none, (.mov (.c (.int .i64 0)))⟩]) .ret))))), 27, [(.tmp 6), (.tmp 7)]⟩
theorem F_le_Put_ok : compF Try.prog (fun d => !([21].contains d)) 69 = some F_le_Put := by kernel_rfl
@[simp] abbrev n_le_Take : FuncId := 90
def F_le_Take_L0 : C := (.seq (.ops [⟨(some 19), none, (.bin .lss (.t 18) (.t 17))⟩]) (.seq (.cond (.t 19) .skip (.exit 0)) (.seq (.block 1 (.seq (.ops [⟨(some 20), none, (.mov (.t 18))⟩, ⟨(some 7), none, (.mov (.t 20))⟩]) (.ops [⟨(some 21), none, (.mov (.t 4))⟩, ⟨(some 22), none, (.mov (.t 0))⟩, ⟨(some 23), none, (.mov (.t 7))⟩, ⟨(some 24), none, (.ixs (.t 22) (.t 23) 1)⟩, ⟨(some 25), none, (.lde (.t 24) none)⟩, ⟨(some 26), none, (.conv .u64 (.t 25))⟩, ⟨(some 27), none, (.mov (.t 7))⟩, ⟨(some 28), none, (.bin .mul (.c (.int .i64 8)) (.t 27))⟩, ⟨(some 29), none, (.bin .shl (.t 26) (.t 28))⟩, ⟨(some 30), none, (.bin .or (.t 21) (.t 29))⟩, ⟨(some 4), none, (.mov (.t 30))⟩]))) (.ops [⟨(some 31), none, (.bin .add (.t 18) (.c (.int .i64 1)))⟩, ⟨(some 18), none, (.mov (.t 31))⟩]))))
def F_le_Take : F := ⟨(.seq (.ops [⟨(some 4), none, (.mov (.c (.int .u64 0)))⟩, ⟨(some 5), none, (.nil 5 1 true)⟩, ⟨(some 6), none, (.mov (.c (.int .i64 0)))⟩]) (.seq (.seq (.ops [⟨(some 8), none, (.mov (.t 1))⟩, ⟨(some 9), none, (.call 120 [(.c (.int .u64 0)), (.t 8)])⟩, ⟨(some 10), none, (.un .not (.t 9))⟩, ⟨(some 11), none, (.mov (.t 10))⟩, ⟨(some 12), (some (11, false)), (.mov (.t 0))⟩, ⟨(some 13), (some (11, false)), (.len (.t 12))⟩, ⟨(some 14), (some (11, false)), (.mov (.t 1))⟩, ⟨(some 15), (some (11, false)), (.bin .lss (.t 13) (.t 14))⟩, ⟨(some 16), none, (.pick (.t 11) (.c (.bool true)) (.t 15))⟩]) (.cond (.t 16) (.seq (.ops [⟨(some 4), none, (.mov (.c (.int .u64 0)))⟩, ⟨(some 5), none, (.nil 5 1 true)⟩, ⟨(some 6), none, (.mov (.c (.int .i64 10)))⟩]) .ret) .skip)) (.seq (.seq (.ops [⟨(some 17), none, (.mov (.t 1))⟩, ⟨(some 18), none, (.mov (.c (.int .i64 0)))⟩]) (.block 0 (.loop F_le_Take_L0))) (.seq (.ops [⟨(some 32), none, (.mov (.t 4))⟩, ⟨(some 33), none, (.mov (.t 0))⟩, ⟨(some 34), none, (.mov (.t 1))⟩, ⟨(some 35), none, (.slc (.t 33) (some (.t 34)) none none 1)⟩, ⟨(some 36), none, (.call 77 [(.t 35)])⟩, ⟨(some 4), none, (.mov (.t 32))⟩, ⟨(some 5), none, (.mov (.t 36))⟩, ⟨(some 6), none, (.mov (.c (.int .i64 0)))⟩]) .ret)))), 37, [(.tmp 4), (.tmp 5), (.tmp 6)]⟩
theorem F_le_Take_ok : compF Try.prog (fun _ => true) 90 = some F_le_Take := by kernel_rfl
@[simp] abbrev n_le_size : FuncId := 121
def F_le_size : F := ⟨(.seq (.ops [⟨(some 2), none, (.mov (.c (.int .i64 0)))⟩]) (.seq (.seq (.ops [⟨(some 4), none, (.mov (.t 0))⟩, ⟨(some 5), none, (.call 170 [(.c (.string ⟨#[98, 104, 119, 113]⟩)), (.t 4)])⟩, ⟨(some 3), none, (.mov (.t 5))⟩]) (.seq (.ops [⟨(some 6), none, (.mov (.t 3))⟩, ⟨(some 7), none, (.bin .geq (.t 6) (.c (.int .i64 0)))⟩]) (.cond (.t 7) (.seq (.ops [⟨(some 8), none, (.mov (.t 3))⟩, ⟨(some 9), none, (.bin .shl (.c (.int .i64 1)) (.t 8))⟩, ⟨(some 2), none, (.mov (.t 9))⟩]) .ret) .skip))) (.seq (.ops [⟨(some 2), none, (.mov (.c (.int .i64 0)))⟩]) .ret))), 10, [(.tmp 2)]⟩
theorem F_le_size_ok : compF Try.prog (fun _ => true) 121 = some F_le_size := by kernel_rfl
@[simp] abbrev n_le_Pack : FuncId := 70
def F_le_Pack_L0 : C := (.seq (.ops [⟨(some 11), none, (.snx (.t 10))⟩, ⟨(some 12), none, (.ext (.t 11) 0)⟩]) (.seq (.cond (.t 12) .skip (.exit 0)) (.block 1 (.seq (.ops [⟨(some 13), none, (.ext (.t 11) 2)⟩, ⟨(some 8), none, (.mov (.t 13))⟩]) (.seq (.seq (.ops [⟨(some 14), none, (.mov (.t 6))⟩, ⟨(some 15), none, (.mov (.t 1))⟩, ⟨(some 16), none, (.len (.t 15))⟩, ⟨(some 17), none, (.bin .eql (.t 14) (.t 16))⟩]) (.cond (.t 17) (.seq (.ops [⟨(some 4), none, (.nil 5 1 true)⟩, ⟨(some 5), none, (.mov (.c (.int .i64 10)))⟩]) .ret) .skip)) (.seq (.seq (.dops false [] [⟨(some 19), none, (.mov (.t 4))⟩, ⟨(some 20), none, (.mov (.t 1))⟩, ⟨(some 21), none, (.mov (.t 6))⟩, ⟨(some 22), none, (.ixs (.t 20) (.t 21) 1)⟩, ⟨(some 23), none, (.lde (.t 22) none)⟩, ⟨(some 24), none, (.mov (.t 8))⟩, ⟨(some 25), none, (.call 121 [(.t 24)])⟩, ⟨(some 26), none, (.call 69 [(.t 19), (.t 23), (.t 25)])⟩, ⟨(some 18), none, (.mov (.t 26))⟩, ⟨(some 27), none, (.ext (.t 18) 0)⟩, ⟨(some 28), none, (.ext (.t 18) 1)⟩, ⟨(some 4), none, (.mov (.t 27))⟩, ⟨(some 5), none, (.mov (.t 28))⟩]) (.seq (.ops [⟨(some 29), none, (.mov (.t 5))⟩, ⟨(some 30), none, (.bin .neq (.t 29) (.c (.int .i64 0)))⟩]) (.cond (.t 30) (.seq (.ops [⟨(some 31), none, (.mov (.t 5))⟩, ⟨(some 4), none, (.nil 5 1 true)⟩, ⟨(some 5), none, (.mov (.t 31))⟩]) .ret) .skip))) (.ops [⟨(some 32), none, (.mov (.t 6))⟩, ⟨(some 33), none, (.bin .add (.t 32) (.c (.int .i64 1)))⟩, ⟨(some 6), none, (.mov (.t 33))⟩])))))))
def F_le_Pack : F := ⟨(.seq (.ops [⟨(some 4), none, (.nil 5 1 true)⟩, ⟨(some 5), none, (.mov (.c (.int .i64 0)))⟩]) (.seq (.ops [⟨(some 6), none, (.mov (.c (.int .i64 0)))⟩]) (.seq (.seq (.ops [⟨(some 9), none, (.mov (.t 0))⟩, ⟨(some 10), none, (.srg (.t 9))⟩]) (.block 0 (.loop F_le_Pack_L0))) (.seq (.seq (.ops [⟨(some 34), none, (.mov (.t 6))⟩, ⟨(some 35), none, (.mov (.t 1))⟩, ⟨(some 36), none, (.len (.t 35))⟩, ⟨(some 37), none, (.bin .lss (.t 34) (.t 36))⟩]) (.cond (.t 37) (.seq (.ops [⟨(some 4), none, (.nil 5 1 true)⟩, ⟨(some 5), none, (.mov (.c (.int .i64 10)))⟩]) .ret) .skip)) (.seq (.ops [⟨(some 38), none, (.mov (.t 4))⟩, ⟨(some 4), none, (.mov (.t 38))⟩, ⟨(some 5), none, (.mov (.c (.int .i64 0)))⟩]) .ret))))), 39, [(.tmp 4), (.tmp 5)]⟩
theorem F_le_Pack_ok : compF Try.prog (fun _ => true) 70 = some F_le_Pack := by kernel_rfl
@[simp] abbrev n_le_Unpack : FuncId := 82
@[simp] abbrev n_r01_may : FuncId := 129
@[simp] abbrev n_r01_size : FuncId := 125
@[simp] abbrev n_r01_Put : FuncId := 78
@[simp] abbrev n_r01_Take : FuncId := 133
@[simp] abbrev n_r01_Pack : FuncId := 73
@[simp] abbrev n_r01_Unpack : FuncId := 85
@[simp] abbrev n_strings_IndexRune : FuncId := 170
def F_strings_IndexRune_L0 : C := (.seq (.seq (.ops [⟨(some 140), none, (.mov (.t 16))⟩, ⟨(some 141), none, (.mov (.t 7))⟩, ⟨(some 142), none, (.slen (.t 141))⟩, ⟨(some 143), none, (.bin .lss (.t 140) (.t 142))⟩]) (.cond (.t 143) .skip (.exit 7))) (.seq (.block 8 (.seq (.dops false [] [⟨(some 146), none, (.mov (.t 0))⟩, ⟨(some 147), none, (.mov (.t 9))⟩, ⟨(some 148), none, (.mov (.t 16))⟩, ⟨(some 149), none, (.bin .sub (.t 147) (.t 148))⟩, ⟨(some 150), none, (.sidx (.t 146) (.t 149))⟩, ⟨(some 151), none, (.mov (.t 7))⟩, ⟨(some 152), none, (.mov (.t 8))⟩, ⟨(some 153), none, (.mov (.t 16))⟩, ⟨(some 154), none, (.bin .sub (.t 152) (.t 153))⟩, ⟨(some 155), none, (.sidx (.t 151) (.t 154))⟩, ⟨(some 156), none, (.bin .neq (.t 150) (.t 155))⟩]) (.cond (.t 156) (.exit 6) .skip))) (.ops [⟨(some 144), none, (.mov (.t 16))⟩, ⟨(some 145), none, (.bin .add (.t 144) (.c (.int .i64 1)))⟩, ⟨(some 16), none, (.mov (.t 145))⟩])))
def F_strings_IndexRune_L1 : C := (.seq (.seq (.ops [⟨(some 121), none, (.mov (.t 9))⟩, ⟨(some 122), none, (.mov (.t 0))⟩, ⟨(some 123), none, (.slen (.t 122))⟩, ⟨(some 124), none, (.bin .lss (.t 121) (.t 123))⟩]) (.cond (.t 124) .skip (.exit 5))) (.seq (.block 6 (.seq (.ops [⟨(some 127), none, (.mov (.t 0))⟩, ⟨(some 128), none, (.mov (.t 9))⟩, ⟨(some 129), none, (.sidx (.t 127) (.t 128))⟩, ⟨(some 130), none, (.mov (.t 14))⟩, ⟨(some 131), none, (.bin .eql (.t 129) (.t 130))⟩, ⟨(some 132), none, (.mov (.t 131))⟩, ⟨(some 133), (some (132, true)), (.mov (.t 0))⟩, ⟨(some 134), (some (132, true)), (.mov (.t 9))⟩, ⟨(some 135), (some (132, true)), (.bin .sub (.t 134) (.c (.int .i64 1)))⟩, ⟨(some 136), (some (132, true)), (.sidx (.t 133) (.t 135))⟩, ⟨(some 137), (some (132, true)), (.mov (.t 15))⟩, ⟨(some 138), (some (132, true)), (.bin .eql (.t 136) (.t 137))⟩, ⟨(some 139), none, (.pick (.t 132) (.t 138) (.c (.bool false)))⟩]) (.cond (.t 139) (.seq (.seq (.ops [⟨(some 16), none, (.mov (.c (.int .i64 2)))⟩]) (.block 7 (.loop F_strings_IndexRune_L0))) (.seq (.ops [⟨(some 157), none, (.mov (.t 9))⟩, ⟨(some 158), none, (.mov (.t 8))⟩, ⟨(some 159), none, (.bin .sub (.t 157) (.t 158))⟩, ⟨(some 4), none, (.mov (.t 159))⟩]) .ret)) .skip))) (.ops [⟨(some 125), none, (.mov (.t 9))⟩, ⟨(some 126), none, (.bin .add (.t 125) (.c (.int .i64 1)))⟩, ⟨(some 9), none, (.mov (.t 126))⟩])))
def F_strings_IndexRune_L2 : C := (.seq (.seq (.ops [⟨(some 48), none, (.mov (.t 12))⟩, ⟨(some 49), none, (.mov (.t 7))⟩, ⟨(some 50), none, (.slen (.t 49))⟩, ⟨(some 51), none, (.bin .lss (.t 48) (.t 50))⟩]) (.cond (.t 51) .skip (.exit 3))) (.seq (.block 4 (.seq (.dops false [] [⟨(some 54), none, (.mov (.t 0))⟩, ⟨(some 55), none, (.mov (.t 9))⟩, ⟨(some 56), none, (.mov (.t 12))⟩, ⟨(some 57), none, (.bin .sub (.t 55) (.t 56))⟩, ⟨(some 58), none, (.sidx (.t 54) (.t 57))⟩, ⟨(some 59), none, (.mov (.t 7))⟩, ⟨(some 60), none, (.mov (.t 8))⟩, ⟨(some 61), none, (.mov (.t 12))⟩, ⟨(some 62), none, (.bin .sub (.t 60) (.t 61))⟩, ⟨(some 63), none, (.sidx (.t 59) (.t 62))⟩, ⟨(some 64), none, (.bin .neq (.t 58) (.t 63))⟩]) (.cond (.t 64) (.goto 0) .skip))) (.ops [⟨(some 52), none, (.mov (.t 12))⟩, ⟨(some 53), none, (.bin .add (.t 52) (.c (.int .i64 1)))⟩, ⟨(some 12), none, (.mov (.t 53))⟩])))
def F_strings_IndexRune_L3 : C := (.seq (.seq (.ops [⟨(some 23), none, (.mov (.t 9))⟩, ⟨(some 24), none, (.mov (.t 0))⟩, ⟨(some 25), none, (.slen (.t 24))⟩, ⟨(some 26), none, (.bin .lss (.t 23) (.t 25))⟩]) (.cond (.t 26) .skip (.exit 1))) (.block 2 (.scopeJ (.seq (.seq (.dops false [] [⟨(some 27), none, (.mov (.t 0))⟩, ⟨(some 28), none, (.mov (.t 9))⟩, ⟨(some 29), none, (.sidx (.t 27) (.t 28))⟩, ⟨(some 30), none, (.mov (.t 7))⟩, ⟨(some 31), none, (.mov (.t 8))⟩, ⟨(some 32), none, (.sidx (.t 30) (.t 31))⟩, ⟨(some 33), none, (.bin .neq (.t 29) (.t 32))⟩]) (.cond (.t 33) (.seq (.dops false [] [⟨(some 34), none, (.mov (.t 0))⟩, ⟨(some 35), none, (.mov (.t 9))⟩, ⟨(some 36), none, (.bin .add (.t 35) (.c (.int .i64 1)))⟩, ⟨(some 37), none, .dead⟩, ⟨(some 38), none, (.mov (.t 7))⟩, ⟨(some 39), none, (.mov (.t 8))⟩, ⟨(some 40), none, (.sidx (.t 38) (.t 39))⟩, ⟨(some 41), none, (.call 195 [(.t 37), (.t 40)])⟩, ⟨(some 11), none, (.mov (.t 41))⟩]) (.seq (.seq (.ops [⟨(some 42), none, (.mov (.t 11))⟩, ⟨(some 43), none, (.bin .lss (.t 42) (.c (.int .i64 0)))⟩]) (.cond (.t 43) (.seq (.ops [⟨(some 4), none, (.mov (.c (.int .i64 (-1))))⟩]) .ret) .skip)) (.ops [⟨(some 44), none, (.mov (.t 9))⟩, ⟨(some 45), none, (.mov (.t 11))⟩, ⟨(some 46), none, (.bin .add (.t 45) (.c (.int .i64 1)))⟩, ⟨(some 47), none, (.bin .add (.t 44) (.t 46))⟩, ⟨(some 9), none, (.mov (.t 47))⟩]))) .skip)) (.seq (.seq (.ops [⟨(some 12), none, (.mov (.c (.int .i64 1)))⟩]) (.block 3 (.loop F_strings_IndexRune_L2))) (.seq (.seq (.ops [⟨(some 65), none, (.mov (.t 9))⟩, ⟨(some 66), none, (.mov (.t 8))⟩, ⟨(some 67), none, (.bin .sub (.t 65) (.t 66))⟩, ⟨(some 4), none, (.mov (.t 67))⟩]) .ret) (.seq (.label 0) (.seq (.ops [⟨(some 68), none, (.mov (.t 10))⟩, ⟨(some 69), none, (.bin .add (.t 68) (.c (.int .i64 1)))⟩, ⟨(some 10), none, (.mov (.t 69))⟩]) (.seq (.ops [⟨(some 70), none, (.mov (.t 9))⟩, ⟨(some 71), none, (.bin .add (.t 70) (.c (.int .i64 1)))⟩, ⟨(some 9), none, (.mov (.t 71))⟩]) (.seq (.ops [⟨(some 72), none, (.mov (.c (.bool true)))⟩, ⟨(some 73), (some (72, true)), (.mov (.t 10))⟩, ⟨(some 74), (some (72, true)), (.mov (.t 9))⟩, ⟨(some 75), (some (72, true)), (.call 197 [(.t 74)])⟩, ⟨(some 76), (some (72, true)), (.bin .gtr (.t 73) (.t 75))⟩, ⟨(some 77), none, (.pick (.t 72) (.t 76) (.c (.bool false)))⟩, ⟨(some 78), none, (.mov (.t 77))⟩, ⟨(some 79), (some (78, true)), (.mov (.t 9))⟩, ⟨(some 80), (some (78, true)), (.mov (.t 0))⟩, ⟨(some 81), (some (78, true)), (.slen (.t 80))⟩, ⟨(some 82), (some (78, true)), (.bin .lss (.t 79) (.t 81))⟩, ⟨(some 83), none, (.pick (.t 78) (.t 82) (.c (.bool false)))⟩, ⟨(some 84), none, (.mov (.t 83))⟩, ⟨(some 85), (some (84, false)), (.mov (.c (.bool false)))⟩, ⟨(some 86), (some (85, true)), (.mov (.t 10))⟩, ⟨(some 87), (some (85, true)), (.mov (.t 9))⟩, ⟨(some 88), (some (85, true)), (.bin .shr (.t 87) (.c (.int .u64 4)))⟩, ⟨(some 89), (some (85, true)), (.bin .add (.c (.int .i64 4)) (.t 88))⟩, ⟨(some 90), (some (85, true)), (.bin .geq (.t 86) (.t 89))⟩, ⟨(some 91), (some (84, false)), (.pick (.t 85) (.t 90) (.c (.bool false)))⟩, ⟨(some 92), (some (84, false)), (.mov (.t 91))⟩, ⟨(some 93), (some (92, true)), (.mov (.t 9))⟩, ⟨(some 94), (some (92, true)), (.mov (.t 0))⟩, ⟨(some 95), (some (92, true)), (.slen (.t 94))⟩, ⟨(some 96), (some (92, true)), (.bin .lss (.t 93) (.t 95))⟩, ⟨(some 97), (some (84, false)), (.pick (.t 92) (.t 96) (.c (.bool false)))⟩, ⟨(some 98), none, (.pick (.t 84) (.c (.bool true)) (.t 97))⟩]) (.cond (.t 98) (.goto 1) .skip)))))))) 0 (.seq .skip (.seq (.ops [⟨(some 68), none, (.mov (.t 10))⟩, ⟨(some 69), none, (.bin .add (.t 68) (.c (.int .i64 1)))⟩, ⟨(some 10), none, (.mov (.t 69))⟩]) (.seq (.ops [⟨(some 70), none, (.mov (.t 9))⟩, ⟨(some 71), none, (.bin .add (.t 70) (.c (.int .i64 1)))⟩, ⟨(some 9), none, (.mov (.t 71))⟩]) (.seq (.ops [⟨(some 72), none, (.mov (.c (.bool true)))⟩, ⟨(some 73), (some (72, true)), (.mov (.t 10))⟩, ⟨(some 74), (some (72, true)), (.mov (.t 9))⟩, ⟨(some 75), (some (72, true)), (.call 197 [(.t 74)])⟩, ⟨(some 76), (some (72, true)), (.bin .gtr (.t 73) (.t 75))⟩, ⟨(some 77), none, (.pick (.t 72) (.t 76) (.c (.bool false)))⟩, ⟨(some 78), none, (.mov (.t 77))⟩, ⟨(some 79), (some (78, true)), (.mov (.t 9))⟩, ⟨(some 80), (some (78, true)), (.mov (.t 0))⟩, ⟨(some 81), (some (78, true)), (.slen (.t 80))⟩, ⟨(some 82), (some (78, true)), (.bin .lss (.t 79) (.t 81))⟩, ⟨(some 83), none, (.pick (.t 78) (.t 82) (.c (.bool false)))⟩, ⟨(some 84), none, (.mov (.t 83))⟩, ⟨(some 85), (some (84, false)), (.mov (.c (.bool false)))⟩, ⟨(some 86), (some (85, true)), (.mov (.t 10))⟩, ⟨(some 87), (some (85, true)), (.mov (.t 9))⟩, ⟨(some 88), (some (85, true)), (.bin .shr (.t 87) (.c (.int .u64 4)))⟩, ⟨(some 89), (some (85, true)), (.bin .add (.c (.int .i64 4)) (.t 88))⟩, ⟨(some 90), (some (85, true)), (.bin .geq (.t 86) (.t 89))⟩, ⟨(some 91), (some (84, false)), (.pick (.t 85) (.t 90) (.c (.bool false)))⟩, ⟨(some 92), (some (84, false)), (.mov (.t 91))⟩, ⟨(some 93), (some (92, true)), (.mov (.t 9))⟩, ⟨(some 94), (some (92, true)), (.mov (.t 0))⟩, ⟨(some 95), (some (92, true)), (.slen (.t 94))⟩, ⟨(some 96), (some (92, true)), (.bin .lss (.t 93) (.t 95))⟩, ⟨(some 97), (some (84, false)), (.pick (.t 92) (.t 96) (.c (.bool false)))⟩, ⟨(some 98), none, (.pick (.t 84) (.c (.bool true)) (.t 97))⟩]) (.cond (.t 98) (.goto 1) .skip))))))))
def F_strings_IndexRune_L4 : C := (.seq (.ops [⟨(some 176), none, (.snx (.t 175))⟩, ⟨(some 177), none, (.ext (.t 176) 0)⟩]) (.seq (.cond (.t 177) .skip (.exit 9)) (.block 10 (.seq (.ops [⟨(some 178), none, (.ext (.t 176) 1)⟩, ⟨(some 179), none, (.ext (.t 176) 2)⟩, ⟨(some 5), none, (.mov (.t 178))⟩, ⟨(some 6), none, (.mov (.t 179))⟩]) (.seq (.ops [⟨(some 180), none, (.mov (.t 6))⟩, ⟨(some 181), none, (.bin .eql (.t 180) (.c (.int .i32 65533)))⟩]) (.cond (.t 181) (.seq (.ops [⟨(some 182), none, (.mov (.t 5))⟩, ⟨(some 4), none, (.mov (.t 182))⟩]) .ret) .skip))))))
def F_strings_IndexRune : F := ⟨(.seq (.ops [⟨(some 4), none, (.mov (.c (.int .i64 0)))⟩]) (.block 0 (.seq (.ops [⟨(some 161), none, (.mov (.t 1))⟩, ⟨(some 162), none, (.bin .leq (.c (.int .i32 0)) (.t 161))⟩, ⟨(some 163), none, (.mov (.t 162))⟩, ⟨(some 164), (some (163, true)), (.mov (.t 1))⟩, ⟨(some 165), (some (163, true)), (.bin .lss (.t 164) (.c (.int .i32 128)))⟩, ⟨(some 166), none, (.pick (.t 163) (.t 165) (.c (.bool false)))⟩, ⟨(some 160), none, (.mov (.t 166))⟩]) (.cond (.t 160) (.seq (.ops [⟨(some 167), none, (.mov (.t 0))⟩, ⟨(some 168), none, (.mov (.t 1))⟩, ⟨(some 169), none, (.conv .u8 (.t 168))⟩, ⟨(some 170), none, (.call 195 [(.t 167), (.t 169)])⟩, ⟨(some 4), none, (.mov (.t 170))⟩]) .ret) (.seq (.ops [⟨(some 172), none, (.mov (.t 1))⟩, ⟨(some 173), none, (.bin .eql (.t 172) (.c (.int .i32 65533)))⟩, ⟨(some 171), none, (.mov (.t 173))⟩]) (.cond (.t 171) (.seq (.seq (.ops [⟨(some 174), none, (.mov (.t 0))⟩, ⟨(some 175), none, (.srg (.t 174))⟩]) (.block 9 (.loop F_strings_IndexRune_L4))) (.seq (.ops [⟨(some 4), none, (.mov (.c (.int .i64 (-1))))⟩]) .ret)) (.seq (.ops [⟨(some 184), none, (.mov (.t 1))⟩, ⟨(some 185), none, (.call 196 [(.t 184)])⟩, ⟨(some 186), none, (.un .not (.t 185))⟩, ⟨(some 183), none, (.mov (.t 186))⟩]) (.cond (.t 183) (.seq (.ops [⟨(some 4), none, (.mov (.c (.int .i64 (-1))))⟩]) .ret) (.scope (.seq (.ops [⟨(some 17), none, (.mov (.t 1))⟩, ⟨(some 18), none, .dead⟩, ⟨(some 7), none, (.mov (.t 18))⟩]) (.seq (.ops [⟨(some 19), none, (.mov (.t 7))⟩, ⟨(some 20), none, (.slen (.t 19))⟩, ⟨(some 21), none, (.bin .sub (.t 20) (.c (.int .i64 1)))⟩, ⟨(some 8), none, (.mov (.t 21))⟩]) (.seq (.ops [⟨(some 22), none, (.mov (.t 8))⟩, ⟨(some 9), none, (.mov (.t 22))⟩]) (.seq (.ops [⟨(some 10), none, (.mov (.c (.int .i64 0)))⟩]) (.seq (.block 1 (.loop F_strings_IndexRune_L3)) (.seq (.seq (.ops [⟨(some 4), none, (.mov (.c (.int .i64 (-1))))⟩]) .ret) (.seq (.label 1) (.seq (.cond (.c (.bool true)) (.seq (.ops [⟨(some 99), none, (.mov (.t 0))⟩, ⟨(some 100), none, (.mov (.t 9))⟩, ⟨(some 101), none, (.mov (.t 8))⟩, ⟨(some 102), none, (.bin .sub (.t 100) (.t 101))⟩, ⟨(some 103), none, .dead⟩, ⟨(some 104), none, (.mov (.t 1))⟩, ⟨(some 105), none, .dead⟩, ⟨(some 106), none, (.call 198 [(.t 103), (.t 105)])⟩, ⟨(some 13), none, (.mov (.t 106))⟩]) (.seq (.ops [⟨(some 107), none, (.mov (.t 13))⟩, ⟨(some 108), none, (.bin .geq (.t 107) (.c (.int .i64 0)))⟩]) (.cond (.t 108) (.seq (.ops [⟨(some 109), none, (.mov (.t 9))⟩, ⟨(some 110), none, (.mov (.t 13))⟩, ⟨(some 111), none, (.bin .add (.t 109) (.t 110))⟩, ⟨(some 112), none, (.mov (.t 8))⟩, ⟨(some 113), none, (.bin .sub (.t 111) (.t 112))⟩, ⟨(some 4), none, (.mov (.t 113))⟩]) .ret) .skip))) (.scope (.seq (.ops [⟨(some 114), none, (.mov (.t 7))⟩, ⟨(some 115), none, (.mov (.t 8))⟩, ⟨(some 116), none, (.sidx (.t 114) (.t 115))⟩, ⟨(some 14), none, (.mov (.t 116))⟩]) (.seq (.ops [⟨(some 117), none, (.mov (.t 7))⟩, ⟨(some 118), none, (.mov (.t 8))⟩, ⟨(some 119), none, (.bin .sub (.t 118) (.c (.int .i64 1)))⟩, ⟨(some 120), none, (.sidx (.t 117) (.t 119))⟩, ⟨(some 15), none, (.mov (.t 120))⟩]) (.seq (.label 2) (.block 5 (.loop F_strings_IndexRune_L1))))))) (.seq (.ops [⟨(some 4), none, (.mov (.c (.int .i64 (-1))))⟩]) .ret)))))))))))))))))), 187, [(.tmp 4)]⟩
theorem F_strings_IndexRune_ok : compF Try.prog (fun _ => true) 170 = some F_strings_IndexRune := by kernel_rfl
@[simp] abbrev n_strings_IndexByte : FuncId := 195
def F_strings_IndexByte : F := ⟨(.seq (.ops [⟨(some 4), none, (.mov (.c (.int .i64 0)))⟩]) (.seq (.ops [⟨(some 5), none, (.mov (.t 0))⟩, ⟨(some 6), none, (.mov (.t 1))⟩, ⟨(some 7), none, (.call 208 [(.t 5), (.t 6)])⟩, ⟨(some 4), none, (.mov (.t 7))⟩]) .ret)), 8, [(.tmp 4)]⟩
theorem F_strings_IndexByte_ok : compF Try.prog (fun _ => true) 195 = some F_strings_IndexByte := by kernel_rfl
@[simp] abbrev n_unicode_utf8_ValidRune : FuncId := 196
@[simp] abbrev n_internal_bytealg_Cutover : FuncId := 197
@[simp] abbrev n_internal_bytealg_IndexString : FuncId := 198
@[simp] abbrev n_internal_stringslite_IndexByte : FuncId := 208
def F_internal_stringslite_IndexByte : F := ⟨(.seq (.ops [⟨(some 4), none, (.mov (.c (.int .i64 0)))⟩]) (.seq (.ops [⟨(some 5), none, (.mov (.t 0))⟩, ⟨(some 6), none, (.mov (.t 1))⟩, ⟨(some 7), none, (.call 216 [(.t 5), (.t 6)])⟩, ⟨(some 4), none, (.mov (.t 7))⟩]) .ret)), 8, [(.tmp 4)]⟩
theorem F_internal_stringslite_IndexByte_ok : compF Try.prog (fun _ => true) 208 = some F_internal_stringslite_IndexByte := by kernel_rfl
@[simp] abbrev n_internal_bytealg_IndexByteString : FuncId := 216
end Go.Av

namespace Go.Av
open Go.Proofs

@[simp] abbrev n_bytes_Equal : FuncId := 130
def F_bytes_Equal : F := ⟨(.seq (.ops [⟨(some 4), none, (.mov (.c (.bool false)))⟩]) (.seq (.ops [⟨(some 5), none, (.mov (.t 0))⟩, ⟨(some 6), none, (.b2s (.t 5))⟩, ⟨(some 7), none, (.mov (.t 1))⟩, ⟨(some 8), none, (.b2s (.t 7))⟩, ⟨(some 9), none, (.bin .eql (.t 6) (.t 8))⟩, ⟨(some 4), none, (.mov (.t 9))⟩]) .ret)), 10, [(.tmp 4)]⟩
theorem F_bytes_Equal_ok : compF Try.prog (fun _ => true) 130 = some F_bytes_Equal := by kernel_rfl
@[simp] abbrev n_crc_halves : FuncId := 199
def F_crc_halves : F := ⟨(.seq (.ops [⟨(some 0), none, (.alc [(.val (.int .u32 0)), (.val (.int .u32 0)), (.val (.int .u32 0)), (.val (.int .u32 0)), (.val (.int .u32 0)), (.val (.int .u32 0)), (.val (.int .u32 0)), (.val (.int .u32 0)), (.val (.int .u32 0)), (.val (.int .u32 0)), (.val (.int .u32 0)), (.val (.int .u32 0)), (.val (.int .u32 0)), (.val (.int .u32 0)), (.val (.int .u32 0)), (.val (.int .u32 0))])⟩]) (.seq (.ops [⟨(some 1), none, (.bld [(.val (.int .u32 0)), (.val (.int .u32 0)), (.val (.int .u32 0)), (.val (.int .u32 0)), (.val (.int .u32 0)), (.val (.int .u32 0)), (.val (.int .u32 0)), (.val (.int .u32 0)), (.val (.int .u32 0)), (.val (.int .u32 0)), (.val (.int .u32 0)), (.val (.int .u32 0)), (.val (.int .u32 0)), (.val (.int .u32 0)), (.val (.int .u32 0)), (.val (.int .u32 0))] [(0, (1, (.c (.int .u32 0)))), (1, (1, (.c (.int .u32 274646895)))), (2, (1, (.c (.int .u32 549293790)))), (3, (1, (.c (.int .u32 820201905)))), (4, (1, (.c (.int .u32 1098587580)))), (5, (1, (.c (.int .u32 1361435347)))), (6, (1, (.c (.int .u32 1640403810)))), (7, (1, (.c (.int .u32 1905808397)))), (8, (1, (.c (.int .u32 2197175160)))), (9, (1, (.c (.int .u32 2460548119)))), (10, (1, (.c (.int .u32 2722870694)))), (11, (1, (.c (.int .u32 2987750089)))), (12, (1, (.c (.int .u32 3280807620)))), (13, (1, (.c (.int .u32 3553878443)))), (14, (1, (.c (.int .u32 3811616794)))), (15, (1, (.c (.int .u32 4084100981))))])⟩, ⟨none, none, (.st (.t 0) 16 (.t 1))⟩]) .ret)), 2, [(.cell 0 (some 16))]⟩
theorem F_crc_halves_ok : compF Try.prog (fun _ => true) 199 = some F_crc_halves := by kernel_rfl
@[simp] abbrev n_crc_More : FuncId := 171
def F_crc_More_L0 : C := (.seq (.ops [⟨(some 14), none, (.bin .lss (.t 13) (.t 12))⟩]) (.seq (.cond (.t 14) .skip (.exit 0)) (.seq (.block 1 (.seq (.ops [⟨(some 15), none, (.ixs (.t 11) (.t 13) 1)⟩, ⟨(some 16), none, (.lde (.t 15) none)⟩, ⟨(some 7), none, (.mov (.t 16))⟩]) (.seq (.ops [⟨(some 17), none, (.mov (.t 0))⟩, ⟨(some 18), none, (.mov (.t 7))⟩, ⟨(some 19), none, (.conv .u32 (.t 18))⟩, ⟨(some 20), none, (.bin .xor (.t 17) (.t 19))⟩, ⟨(some 0), none, (.mov (.t 20))⟩]) (.seq (.ops [⟨(some 21), none, (.mov (.t 0))⟩, ⟨(some 22), none, (.bin .shr (.t 21) (.c (.int .u64 4)))⟩, ⟨(some 23), none, (.mov (.t 0))⟩, ⟨(some 24), none, (.bin .and (.t 23) (.c (.int .u32 15)))⟩, ⟨(some 25), none, (.ixa (.t 5) (.t 24) 16 1)⟩, ⟨(some 26), none, (.ld (.t 25) none)⟩, ⟨(some 27), none, (.bin .xor (.t 22) (.t 26))⟩, ⟨(some 0), none, (.mov (.t 27))⟩]) (.ops [⟨(some 28), none, (.mov (.t 0))⟩, ⟨(some 29), none, (.bin .shr (.t 28) (.c (.int .u64 4)))⟩, ⟨(some 30), none, (.mov (.t 0))⟩, ⟨(some 31), none, (.bin .and (.t 30) (.c (.int .u32 15)))⟩, ⟨(some 32), none, (.ixa (.t 5) (.t 31) 16 1)⟩, ⟨(some 33), none, (.ld (.t 32) none)⟩, ⟨(some 34), none, (.bin .xor (.t 29) (.t 33))⟩, ⟨(some 0), none, (.mov (.t 34))⟩]))))) (.ops [⟨(some 35), none, (.bin .add (.t 13) (.c (.int .i64 1)))⟩, ⟨(some 13), none, (.mov (.t 35))⟩]))))
def F_crc_More : F := ⟨(.seq (.ops [⟨(some 4), none, (.mov (.c (.int .u32 0)))⟩]) (.seq (.ops [⟨(some 8), none, (.call 199 [])⟩, ⟨(some 5), none, (.alc [(.val (.int .u32 0)), (.val (.int .u32 0)), (.val (.int .u32 0)), (.val (.int .u32 0)), (.val (.int .u32 0)), (.val (.int .u32 0)), (.val (.int .u32 0)), (.val (.int .u32 0)), (.val (.int .u32 0)), (.val (.int .u32 0)), (.val (.int .u32 0)), (.val (.int .u32 0)), (.val (.int .u32 0)), (.val (.int .u32 0)), (.val (.int .u32 0)), (.val (.int .u32 0))])⟩, ⟨none, none, (.st (.t 5) 16 (.t 8))⟩]) (.seq (.ops [⟨(some 9), none, (.mov (.t 0))⟩, ⟨(some 10), none, (.bin .xor (.t 9) (.c (.int .u32 4294967295)))⟩, ⟨(some 0), none, (.mov (.t 10))⟩]) (.seq (.seq (.ops [⟨(some 11), none, (.mov (.t 1))⟩, ⟨(some 12), none, (.len (.t 11))⟩, ⟨(some 13), none, (.mov (.c (.int .i64 0)))⟩]) (.block 0 (.loop F_crc_More_L0))) (.seq (.ops [⟨(some 36), none, (.mov (.t 0))⟩, ⟨(some 37), none, (.bin .xor (.t 36) (.c (.int .u32 4294967295)))⟩, ⟨(some 4), none, (.mov (.t 37))⟩]) .ret))))), 38, [(.tmp 4)]⟩
theorem F_crc_More_ok : compF Try.prog (fun _ => true) 171 = some F_crc_More := by kernel_rfl
@[simp] abbrev n_crc_Sum : FuncId := 122
def F_crc_Sum : F := ⟨(.seq (.ops [⟨(some 2), none, (.mov (.c (.int .u32 0)))⟩]) (.seq (.ops [⟨(some 3), none, (.mov (.t 0))⟩, ⟨(some 4), none, (.call 171 [(.c (.int .u32 0)), (.t 3)])⟩, ⟨(some 2), none, (.mov (.t 4))⟩]) .ret)), 5, [(.tmp 2)]⟩
theorem F_crc_Sum_ok : compF Try.prog (fun _ => true) 122 = some F_crc_Sum := by kernel_rfl
@[simp] abbrev n_crc_Seal : FuncId := 71
def F_crc_Seal : F := ⟨(.seq (.ops [⟨(some 2), none, (.nil 5 1 true)⟩]) (.seq (.ops [⟨(some 6), none, (.mov (.t 0))⟩, ⟨(some 7), none, (.mov (.t 0))⟩, ⟨(some 8), none, (.call 122 [(.t 7)])⟩, ⟨(some 9), none, (.conv .u64 (.t 8))⟩, ⟨(some 10), none, (.call 69 [(.t 6), (.t 9), (.c (.int .i64 4))])⟩, ⟨(some 5), none, (.mov (.t 10))⟩, ⟨(some 11), none, (.ext (.t 5) 0)⟩, ⟨(some 12), none, (.ext (.t 5) 1)⟩, ⟨(some 3), none, (.mov (.t 11))⟩, ⟨(some 4), none, (.mov (.t 12))⟩]) (.seq (.ops [⟨(some 13), none, (.mov (.t 3))⟩, ⟨(some 2), none, (.mov (.t 13))⟩]) .ret))), 14, [(.tmp 2)]⟩
theorem F_crc_Seal_ok : compF Try.prog (fun _ => true) 71 = some F_crc_Seal := by kernel_rfl
@[simp] abbrev n_crc_Open : FuncId := 79
@[simp] abbrev n_r02_step : FuncId := 175
@[simp] abbrev n_r02_More : FuncId := 127
@[simp] abbrev n_r02_Seal : FuncId := 75
@[simp] abbrev n_extent_within : FuncId := 169
def F_extent_within : F := ⟨(.seq (.ops [⟨(some 6), none, (.mov (.c (.bool false)))⟩]) (.seq (.ops [⟨(some 7), none, (.mov (.t 0))⟩, ⟨(some 8), none, (.mov (.t 1))⟩, ⟨(some 9), none, (.bin .geq (.t 7) (.t 8))⟩, ⟨(some 10), none, (.mov (.t 9))⟩, ⟨(some 11), (some (10, true)), (.mov (.t 0))⟩, ⟨(some 12), (some (10, true)), (.mov (.t 2))⟩, ⟨(some 13), (some (10, true)), (.bin .leq (.t 11) (.t 12))⟩, ⟨(some 14), none, (.pick (.t 10) (.t 13) (.c (.bool false)))⟩, ⟨(some 6), none, (.mov (.t 14))⟩]) .ret)), 15, [(.tmp 6)]⟩
theorem F_extent_within_ok : compF Try.prog (fun _ => true) 169 = some F_extent_within := by kernel_rfl
@[simp] abbrev n_extent_data : FuncId := 132
def F_extent_data : F := ⟨(.seq (.ops [⟨(some 1), none, (.box (.t 0))⟩, ⟨(some 2), none, (.mov (.c (.int .i64 0)))⟩]) (.seq (.seq (.ops [⟨(some 3), none, (.fad (.t 1) 2)⟩, ⟨(some 4), none, (.ld (.t 3) none)⟩, ⟨(some 5), none, (.bin .eql (.t 4) (.c (.int .i64 2)))⟩]) (.cond (.t 5) (.seq (.ops [⟨(some 6), none, (.fad (.t 1) 1)⟩, ⟨(some 7), none, (.ld (.t 6) none)⟩, ⟨(some 8), none, (.bin .mul (.t 7) (.c (.int .i64 32)))⟩, ⟨(some 2), none, (.mov (.t 8))⟩]) .ret) .skip)) (.seq (.ops [⟨(some 2), none, (.mov (.c (.int .i64 0)))⟩]) .ret))), 9, [(.tmp 2)]⟩
theorem F_extent_data_ok : compF Try.prog (fun _ => true) 132 = some F_extent_data := by kernel_rfl
@[simp] abbrev n_extent_Check : FuncId := 119
def F_extent_Check : F := ⟨(.seq (.ops [⟨(some 1), none, (.box (.t 0))⟩, ⟨(some 2), none, (.mov (.c (.bool false)))⟩]) (.seq (.dops false [] [⟨(some 3), none, (.fad (.t 1) 0)⟩, ⟨(some 4), none, (.ld (.t 3) none)⟩, ⟨(some 5), none, (.callq 169 [(.t 4), (.c (.int .i64 0)), (.c (.int .i64 64))])⟩, ⟨(some 6), none, (.mov (.t 5))⟩, ⟨(some 7), (some (6, true)), (.fad (.t 1) 1)⟩, ⟨(some 8), (some (6, true)), (.ld (.t 7) none)⟩, ⟨(some 9), (some (6, true)), (.fad (.t 1) 0)⟩, ⟨(some 10), (some (6, true)), (.ld (.t 9) none)⟩, ⟨(some 11), (some (6, true)), (.bin .sub (.c (.int .i64 64)) (.t 10))⟩, ⟨(some 12), (some (6, true)), (.callq 169 [(.t 8), (.c (.int .i64 1)), (.t 11)])⟩, ⟨(some 13), none, (.pick (.t 6) (.t 12) (.c (.bool false)))⟩, ⟨(some 14), none, (.mov (.t 13))⟩, ⟨(some 15), (some (14, true)), (.fad (.t 1) 2)⟩, ⟨(some 16), (some (14, true)), (.ld (.t 15) none)⟩, ⟨(some 17), (some (14, true)), (.callq 169 [(.t 16), (.c (.int .i64 0)), (.c (.int .i64 2))])⟩, ⟨(some 18), none, (.pick (.t 14) (.t 17) (.c (.bool false)))⟩, ⟨(some 19), none, (.mov (.t 18))⟩, ⟨(some 20), (some (19, true)), (.fad (.t 1) 3)⟩, ⟨(some 21), (some (19, true)), (.ld (.t 20) none)⟩, ⟨(some 22), (some (19, true)), (.callq 169 [(.t 21), (.c (.int .i64 0)), (.c (.int .i64 2147483647))])⟩, ⟨(some 23), none, (.pick (.t 19) (.t 22) (.c (.bool false)))⟩, ⟨(some 24), none, (.mov (.t 23))⟩, ⟨(some 25), (some (24, true)), (.fad (.t 1) 4)⟩, ⟨(some 26), (some (24, true)), (.ld (.t 25) none)⟩, ⟨(some 27), (some (24, true)), (.len (.t 26))⟩, ⟨(some 28), (some (24, true)), (.ld (.t 1) (some 5))⟩, ⟨(some 29), (some (24, true)), (.callq 132 [(.t 28)])⟩, ⟨(some 30), (some (24, true)), (.bin .eql (.t 27) (.t 29))⟩, ⟨(some 31), none, (.pick (.t 24) (.t 30) (.c (.bool false)))⟩, ⟨(some 2), none, (.mov (.t 31))⟩]) .ret)), 32, [(.tmp 2)]⟩
theorem F_extent_Check_ok : compF Try.prog (fun _ => true) 119 = some F_extent_Check := by kernel_rfl
@[simp] abbrev n_extent_Joins : FuncId := 177
def F_extent_Joins : F := ⟨(.seq (.ops [⟨(some 2), none, (.box (.t 0))⟩, ⟨(some 3), none, (.box (.t 1))⟩, ⟨(some 4), none, (.mov (.c (.bool false)))⟩]) (.seq (.ops [⟨(some 5), none, (.ld (.t 2) (some 5))⟩, ⟨(some 6), none, (.call 119 [(.t 5)])⟩, ⟨(some 7), none, (.mov (.t 6))⟩, ⟨(some 8), (some (7, true)), (.ld (.t 3) (some 5))⟩, ⟨(some 9), (some (7, true)), (.call 119 [(.t 8)])⟩, ⟨(some 10), none, (.pick (.t 7) (.t 9) (.c (.bool false)))⟩, ⟨(some 11), none, (.mov (.t 10))⟩, ⟨(some 12), (some (11, true)), (.fad (.t 2) 0)⟩, ⟨(some 13), (some (11, true)), (.ld (.t 12) none)⟩, ⟨(some 14), (some (11, true)), (.fad (.t 2) 1)⟩, ⟨(some 15), (some (11, true)), (.ld (.t 14) none)⟩, ⟨(some 16), (some (11, true)), (.bin .add (.t 13) (.t 15))⟩, ⟨(some 17), (some (11, true)), (.fad (.t 3) 0)⟩, ⟨(some 18), (some (11, true)), (.ld (.t 17) none)⟩, ⟨(some 19), (some (11, true)), (.bin .eql (.t 16) (.t 18))⟩, ⟨(some 20), none, (.pick (.t 11) (.t 19) (.c (.bool false)))⟩, ⟨(some 21), none, (.mov (.t 20))⟩, ⟨(some 22), (some (21, true)), (.fad (.t 2) 2)⟩, ⟨(some 23), (some (21, true)), (.ld (.t 22) none)⟩, ⟨(some 24), (some (21, true)), (.fad (.t 3) 2)⟩, ⟨(some 25), (some (21, true)), (.ld (.t 24) none)⟩, ⟨(some 26), (some (21, true)), (.bin .eql (.t 23) (.t 25))⟩, ⟨(some 27), none, (.pick (.t 21) (.t 26) (.c (.bool false)))⟩, ⟨(some 28), none, (.mov (.t 27))⟩, ⟨(some 29), (some (28, true)), (.fad (.t 2) 3)⟩, ⟨(some 30), (some (28, true)), (.ld (.t 29) none)⟩, ⟨(some 31), (some (28, true)), (.fad (.t 3) 3)⟩, ⟨(some 32), (some (28, true)), (.ld (.t 31) none)⟩, ⟨(some 33), (some (28, true)), (.bin .eql (.t 30) (.t 32))⟩, ⟨(some 34), none, (.pick (.t 28) (.t 33) (.c (.bool false)))⟩, ⟨(some 4), none, (.mov (.t 34))⟩]) .ret)), 35, [(.tmp 4)]⟩
theorem F_extent_Joins_ok : compF Try.prog (fun _ => true) 177 = some F_extent_Joins := by kernel_rfl
@[simp] abbrev n_extent_Cut : FuncId := 141
def F_extent_Cut : F := ⟨(.seq (.ops [⟨(some 3), none, (.box (.t 0))⟩, ⟨(some 6), none, (.alc [(.val (.int .i64 0)), (.val (.int .i64 0)), (.val (.int .i64 0)), (.val (.int .i64 0)), (.lit 1 [])])⟩, ⟨(some 7), none, (.mov (.c (.bool false)))⟩]) (.seq (.seq (.ops [⟨(some 11), none, (.ld (.t 3) (some 5))⟩, ⟨(some 12), none, (.call 119 [(.t 11)])⟩, ⟨(some 13), none, (.un .not (.t 12))⟩, ⟨(some 14), none, (.mov (.t 13))⟩, ⟨(some 15), (some (14, false)), (.mov (.t 1))⟩, ⟨(some 16), (some (14, false)), (.call 169 [(.t 15), (.c (.int .i64 0)), (.c (.int .i64 64))])⟩, ⟨(some 17), (some (14, false)), (.un .not (.t 16))⟩, ⟨(some 18), none, (.pick (.t 14) (.c (.bool true)) (.t 17))⟩, ⟨(some 19), none, (.mov (.t 18))⟩, ⟨(some 20), (some (19, false)), (.mov (.t 2))⟩, ⟨(some 21), (some (19, false)), (.call 169 [(.t 20), (.c (.int .i64 0)), (.c (.int .i64 64))])⟩, ⟨(some 22), (some (19, false)), (.un .not (.t 21))⟩, ⟨(some 23), none, (.pick (.t 19) (.c (.bool true)) (.t 22))⟩]) (.cond (.t 23) (.seq (.ops [⟨(some 24), none, (.bld [(.val (.int .i64 0)), (.val (.int .i64 0)), (.val (.int .i64 0)), (.val (.int .i64 0)), (.lit 1 [])] [])⟩, ⟨none, none, (.st (.t 6) 5 (.t 24))⟩, ⟨(some 7), none, (.mov (.c (.bool false)))⟩]) .ret) .skip)) (.seq (.dops false [] [⟨(some 25), none, (.fad (.t 3) 0)⟩, ⟨(some 26), none, (.ld (.t 25) none)⟩, ⟨(some 27), none, (.mov (.t 1))⟩, ⟨(some 28), none, (.mm true (.t 26) (.t 27))⟩, ⟨(some 29), none, (.fad (.t 3) 0)⟩, ⟨(some 30), none, (.ld (.t 29) none)⟩, ⟨(some 31), none, (.fad (.t 3) 1)⟩, ⟨(some 32), none, (.ld (.t 31) none)⟩, ⟨(some 33), none, (.bin .add (.t 30) (.t 32))⟩, ⟨(some 34), none, (.mov (.t 1))⟩, ⟨(some 35), none, (.mov (.t 2))⟩, ⟨(some 36), none, (.bin .add (.t 34) (.t 35))⟩, ⟨(some 37), none, (.mm false (.t 33) (.t 36))⟩, ⟨(some 8), none, (.mov (.t 28))⟩, ⟨(some 9), none, (.mov (.t 37))⟩]) (.seq (.seq (.ops [⟨(some 38), none, (.mov (.t 8))⟩, ⟨(some 39), none, (.mov (.t 9))⟩, ⟨(some 40), none, (.bin .geq (.t 38) (.t 39))⟩]) (.cond (.t 40) (.seq (.ops [⟨(some 41), none, (.bld [(.val (.int .i64 0)), (.val (.int .i64 0)), (.val (.int .i64 0)), (.val (.int .i64 0)), (.lit 1 [])] [])⟩, ⟨none, none, (.st (.t 6) 5 (.t 41))⟩, ⟨(some 7), none, (.mov (.c (.bool false)))⟩]) .ret) .skip)) (.seq (.ops [⟨(some 42), none, (.fad (.t 3) 4)⟩, ⟨(some 43), none, (.ld (.t 42) none)⟩, ⟨(some 10), none, (.mov (.t 43))⟩]) (.seq (.seq (.ops [⟨(some 44), none, (.fad (.t 3) 4)⟩, ⟨none, none, (.st (.t 44) 1 (.c (.slice none 0 0)))⟩]) (.seq (.ops [⟨(some 45), none, (.fad (.t 3) 2)⟩, ⟨(some 46), none, (.ld (.t 45) none)⟩, ⟨(some 47), none, (.bin .eql (.t 46) (.c (.int .i64 2)))⟩]) (.cond (.t 47) (.ops [⟨(some 48), none, (.mov (.t 10))⟩, ⟨(some 49), none, (.mov (.t 8))⟩, ⟨(some 50), none, (.fad (.t 3) 0)⟩, ⟨(some 51), none, (.ld (.t 50) none)⟩, ⟨(some 52), none, (.bin .sub (.t 49) (.t 51))⟩, ⟨(some 53), none, (.bin .mul (.t 52) (.c (.int .i64 32)))⟩, ⟨(some 54), none, (.mov (.t 9))⟩, ⟨(some 55), none, (.fad (.t 3) 0)⟩, ⟨(some 56), none, (.ld (.t 55) none)⟩, ⟨(some 57), none, (.bin .sub (.t 54) (.t 56))⟩, ⟨(some 58), none, (.bin .mul (.t 57) (.c (.int .i64 32)))⟩, ⟨(some 59), none, (.slc (.t 48) (some (.t 53)) (some (.t 58)) none 1)⟩, ⟨(some 60), none, (.call 77 [(.t 59)])⟩, ⟨(some 61), none, (.fad (.t 3) 4)⟩, ⟨none, none, (.st (.t 61) 1 (.t 60))⟩]) .skip))) (.seq (.ops [⟨(some 62), none, (.mov (.t 8))⟩, ⟨(some 63), none, (.mov (.t 9))⟩, ⟨(some 64), none, (.mov (.t 8))⟩, ⟨(some 65), none, (.bin .sub (.t 63) (.t 64))⟩, ⟨(some 66), none, (.fad (.t 3) 0)⟩, ⟨none, none, (.st (.t 66) 1 (.t 62))⟩, ⟨(some 67), none, (.fad (.t 3) 1)⟩, ⟨none, none, (.st (.t 67) 1 (.t 65))⟩]) (.seq (.ops [⟨(some 68), none, (.ld (.t 3) (some 5))⟩, ⟨none, none, (.st (.t 6) 5 (.t 68))⟩, ⟨(some 7), none, (.mov (.c (.bool true)))⟩]) .ret)))))))), 69, [(.cell 6 (some 5)), (.tmp 7)]⟩
theorem F_extent_Cut_ok : compF Try.prog (fun _ => true) 141 = some F_extent_Cut := by kernel_rfl
@[simp] abbrev n_extent_Write : FuncId := 68
def F_extent_Write_L0 : C := (.seq (.ops [⟨(some 16), none, (.bin .lss (.t 15) (.t 14))⟩]) (.seq (.cond (.t 16) .skip (.exit 0)) (.seq (.block 1 (.seq (.ops [⟨(some 17), none, (.ixs (.t 13) (.t 15) 5)⟩, ⟨(some 18), none, (.lde (.t 17) (some 5))⟩, ⟨(some 6), none, (.alc [(.val (.int .i64 0)), (.val (.int .i64 0)), (.val (.int .i64 0)), (.val (.int .i64 0)), (.lit 1 [])])⟩, ⟨none, none, (.st (.t 6) 5 (.t 18))⟩]) (.seq (.ops [⟨(some 20), none, (.fad (.t 6) 0)⟩, ⟨(some 21), none, (.ld (.t 20) none)⟩, ⟨(some 22), none, (.conv .u64 (.t 21))⟩, ⟨(some 23), none, (.fad (.t 6) 1)⟩, ⟨(some 24), none, (.ld (.t 23) none)⟩, ⟨(some 25), none, (.conv .u64 (.t 24))⟩, ⟨(some 26), none, (.fad (.t 6) 2)⟩, ⟨(some 27), none, (.ld (.t 26) none)⟩, ⟨(some 28), none, (.conv .u64 (.t 27))⟩, ⟨(some 29), none, (.fad (.t 6) 3)⟩, ⟨(some 30), none, (.ld (.t 29) none)⟩, ⟨(some 31), none, (.conv .u64 (.t 30))⟩, ⟨(some 32), none, (.mkl 114 1 [(.t 22), (.t 25), (.t 28), (.t 31)] true)⟩, ⟨(some 33), none, (.call 70 [(.c (.string ⟨#[98, 98, 98, 119]⟩)), (.t 32)])⟩, ⟨(some 19), none, (.mov (.t 33))⟩, ⟨(some 34), none, (.ext (.t 19) 0)⟩, ⟨(some 35), none, (.ext (.t 19) 1)⟩, ⟨(some 7), none, (.mov (.t 34))⟩, ⟨(some 8), none, (.mov (.t 35))⟩]) (.seq (.seq (.ops [⟨(some 36), none, (.ld (.t 6) (some 5))⟩, ⟨(some 37), none, (.call 119 [(.t 36)])⟩, ⟨(some 38), none, (.un .not (.t 37))⟩, ⟨(some 39), none, (.mov (.t 38))⟩, ⟨(some 40), (some (39, false)), (.mov (.t 8))⟩, ⟨(some 41), (some (39, false)), (.bin .neq (.t 40) (.c (.int .i64 0)))⟩, ⟨(some 42), none, (.pick (.t 39) (.c (.bool true)) (.t 41))⟩]) (.cond (.t 42) (.seq (.ops [⟨(some 2), none, (.nil 5 1 true)⟩, ⟨(some 3), none, (.mov (.c (.int .i64 70)))⟩]) .ret) .skip)) (.dops false [] [⟨(some 43), none, (.mov (.t 4))⟩, ⟨(some 44), none, (.mov (.t 7))⟩, ⟨(some 46), none, (.fad (.t 6) 4)⟩, ⟨(some 47), none, (.ld (.t 46) none)⟩, ⟨(some 45), none, (.app (.t 43) (.t 44) 5 1 1 true)⟩, ⟨(some 48), none, (.app (.t 45) (.t 47) 5 1 1 true)⟩, ⟨(some 4), none, (.mov (.t 48))⟩]))))) (.ops [⟨(some 49), none, (.bin .add (.t 15) (.c (.int .i64 1)))⟩, ⟨(some 15), none, (.mov (.t 49))⟩]))))
def F_extent_Write : F := ⟨(.seq (.ops [⟨(some 2), none, (.nil 5 1 true)⟩, ⟨(some 3), none, (.mov (.c (.int .i64 0)))⟩]) (.seq (.ops [⟨(some 9), none, (.mov (.t 0))⟩, ⟨(some 10), none, (.len (.t 9))⟩, ⟨(some 11), none, (.conv .u8 (.t 10))⟩, ⟨(some 12), none, (.mkl 5 1 [(.t 11)] true)⟩, ⟨(some 4), none, (.mov (.t 12))⟩]) (.seq (.seq (.ops [⟨(some 13), none, (.mov (.t 0))⟩, ⟨(some 14), none, (.len (.t 13))⟩, ⟨(some 15), none, (.mov (.c (.int .i64 0)))⟩]) (.block 0 (.loop F_extent_Write_L0))) (.seq (.seq (.ops [⟨(some 50), none, (.mov (.t 0))⟩, ⟨(some 51), none, (.len (.t 50))⟩, ⟨(some 52), none, (.bin .gtr (.t 51) (.c (.int .i64 64)))⟩]) (.cond (.t 52) (.seq (.ops [⟨(some 2), none, (.nil 5 1 true)⟩, ⟨(some 3), none, (.mov (.c (.int .i64 70)))⟩]) .ret) .skip)) (.seq (.ops [⟨(some 53), none, (.mov (.t 4))⟩, ⟨(some 2), none, (.mov (.t 53))⟩, ⟨(some 3), none, (.mov (.c (.int .i64 0)))⟩]) .ret))))), 54, [(.tmp 2), (.tmp 3)]⟩
theorem F_extent_Write_ok : compF Try.prog (fun _ => true) 68 = some F_extent_Write := by kernel_rfl
@[simp] abbrev n_extent_Read : FuncId := 84
@[simp] abbrev n_extent_Read_1 : FuncId := 131
@[simp] abbrev n_r07_Check : FuncId := 174
@[simp] abbrev n_r07_Joins : FuncId := 200
@[simp] abbrev n_r07_Bytes : FuncId := 201
@[simp] abbrev n_r07_Write : FuncId := 126
@[simp] abbrev n_r07_Read : FuncId := 134
@[simp] abbrev n_r07_Same : FuncId := 135
@[simp] abbrev n_r07_All : FuncId := 87
end Go.Av

namespace Go.Av
open Go.Proofs

@[simp] abbrev n_extmap_New : FuncId := 118
@[simp] abbrev n_extmap_Check : FuncId := 138
def F_extmap_Check_L0 : C := (.seq (.ops [⟨(some 11), none, (.bin .lss (.t 10) (.t 9))⟩]) (.seq (.cond (.t 11) .skip (.exit 0)) (.seq (.block 1 (.seq (.ops [⟨(some 12), none, (.mov (.t 10))⟩, ⟨(some 13), none, (.ixs (.t 8) (.t 10) 5)⟩, ⟨(some 14), none, (.lde (.t 13) (some 5))⟩, ⟨(some 7), none, (.alc [(.val (.int .i64 0)), (.val (.int .i64 0)), (.val (.int .i64 0)), (.val (.int .i64 0)), (.lit 1 [])])⟩, ⟨(some 6), none, (.mov (.t 12))⟩, ⟨none, none, (.st (.t 7) 5 (.t 14))⟩]) (.seq (.seq (.dops false [] [⟨(some 15), none, (.ld (.t 7) (some 5))⟩, ⟨(some 16), none, (.call 119 [(.t 15)])⟩, ⟨(some 17), none, (.un .not (.t 16))⟩, ⟨(some 18), none, (.mov (.t 17))⟩, ⟨(some 19), (some (18, false)), (.fad (.t 7) 0)⟩, ⟨(some 20), (some (18, false)), (.ld (.t 19) none)⟩, ⟨(some 21), (some (18, false)), (.mov (.t 5))⟩, ⟨(some 22), (some (18, false)), (.bin .neq (.t 20) (.t 21))⟩, ⟨(some 23), none, (.pick (.t 18) (.c (.bool true)) (.t 22))⟩, ⟨(some 24), none, (.mov (.t 23))⟩, ⟨(some 25), (some (24, false)), (.mov (.t 6))⟩, ⟨(some 26), (some (24, false)), (.bin .gtr (.t 25) (.c (.int .i64 0)))⟩, ⟨(some 27), (some (24, false)), (.mov (.t 26))⟩, ⟨(some 28), (some (27, true)), (.mov (.t 1))⟩, ⟨(some 29), (some (27, true)), (.mov (.t 6))⟩, ⟨(some 30), (some (27, true)), (.bin .sub (.t 29) (.c (.int .i64 1)))⟩, ⟨(some 31), (some (27, true)), (.ixs (.t 28) (.t 30) 5)⟩, ⟨(some 32), (some (27, true)), (.lde (.t 31) (some 5))⟩, ⟨(some 33), (some (27, true)), (.ld (.t 7) (some 5))⟩, ⟨(some 34), (some (27, true)), (.call 177 [(.t 32), (.t 33)])⟩, ⟨(some 35), (some (24, false)), (.pick (.t 27) (.t 34) (.c (.bool false)))⟩, ⟨(some 36), none, (.pick (.t 24) (.c (.bool true)) (.t 35))⟩]) (.cond (.t 36) (.seq (.ops [⟨(some 4), none, (.mov (.c (.bool false)))⟩]) .ret) .skip)) (.ops [⟨(some 37), none, (.mov (.t 5))⟩, ⟨(some 38), none, (.fad (.t 7) 1)⟩, ⟨(some 39), none, (.ld (.t 38) none)⟩, ⟨(some 40), none, (.bin .add (.t 37) (.t 39))⟩, ⟨(some 5), none, (.mov (.t 40))⟩])))) (.ops [⟨(some 41), none, (.bin .add (.t 10) (.c (.int .i64 1)))⟩, ⟨(some 10), none, (.mov (.t 41))⟩]))))
def F_extmap_Check : F := ⟨(.seq (.ops [⟨(some 4), none, (.mov (.c (.bool false)))⟩]) (.seq (.ops [⟨(some 5), none, (.mov (.c (.int .i64 0)))⟩]) (.seq (.seq (.ops [⟨(some 8), none, (.mov (.t 1))⟩, ⟨(some 9), none, (.len (.t 8))⟩, ⟨(some 10), none, (.mov (.c (.int .i64 0)))⟩]) (.block 0 (.loop F_extmap_Check_L0))) (.seq (.ops [⟨(some 42), none, (.mov (.t 1))⟩, ⟨(some 43), none, (.len (.t 42))⟩, ⟨(some 44), none, (.bin .gtr (.t 43) (.c (.int .i64 0)))⟩, ⟨(some 45), none, (.mov (.t 44))⟩, ⟨(some 46), (some (45, true)), (.mov (.t 5))⟩, ⟨(some 47), (some (45, true)), (.mov (.t 0))⟩, ⟨(some 48), (some (45, true)), (.bin .eql (.t 46) (.t 47))⟩, ⟨(some 49), none, (.pick (.t 45) (.t 48) (.c (.bool false)))⟩, ⟨(some 4), none, (.mov (.t 49))⟩]) .ret)))), 50, [(.tmp 4)]⟩
theorem F_extmap_Check_ok : compF Try.prog (fun _ => true) 138 = some F_extmap_Check := by kernel_rfl
@[simp] abbrev n_r08_Check : FuncId := 172
@[simp] abbrev n_slices_ContainsFunc_Extent : FuncId := 139
def F_slices_ContainsFunc_Extent : F := ⟨(.seq (.ops [⟨(some 4), none, (.mov (.c (.bool false)))⟩]) (.seq (.ops [⟨(some 5), none, (.mov (.t 0))⟩, ⟨(some 6), none, (.mov (.t 1))⟩, ⟨(some 7), none, (.call 178 [(.t 5), (.t 6)])⟩, ⟨(some 8), none, (.bin .geq (.t 7) (.c (.int .i64 0)))⟩, ⟨(some 4), none, (.mov (.t 8))⟩]) .ret)), 9, [(.tmp 4)]⟩
theorem F_slices_ContainsFunc_Extent_ok : compF Try.prog (fun _ => true) 139 = some F_slices_ContainsFunc_Extent := by kernel_rfl
@[simp] abbrev n_slices_IndexFunc_Extent : FuncId := 178
def F_slices_IndexFunc_Extent_L0 : C := (.seq (.ops [⟨(some 9), none, (.bin .lss (.t 8) (.t 7))⟩]) (.seq (.cond (.t 9) .skip (.exit 0)) (.seq (.block 1 (.seq (.ops [⟨(some 10), none, (.mov (.t 8))⟩, ⟨(some 5), none, (.mov (.t 10))⟩]) (.seq (.ops [⟨(some 11), none, (.mov (.t 1))⟩, ⟨(some 12), none, (.mov (.t 0))⟩, ⟨(some 13), none, (.mov (.t 5))⟩, ⟨(some 14), none, (.ixs (.t 12) (.t 13) 5)⟩, ⟨(some 15), none, (.lde (.t 14) (some 5))⟩, ⟨(some 16), none, (.callv (.t 11) [(.t 15)])⟩]) (.cond (.t 16) (.seq (.ops [⟨(some 17), none, (.mov (.t 5))⟩, ⟨(some 4), none, (.mov (.t 17))⟩]) .ret) .skip)))) (.ops [⟨(some 18), none, (.bin .add (.t 8) (.c (.int .i64 1)))⟩, ⟨(some 8), none, (.mov (.t 18))⟩]))))
def F_slices_IndexFunc_Extent : F := ⟨(.seq (.ops [⟨(some 4), none, (.mov (.c (.int .i64 0)))⟩]) (.seq (.seq (.ops [⟨(some 6), none, (.mov (.t 0))⟩, ⟨(some 7), none, (.len (.t 6))⟩, ⟨(some 8), none, (.mov (.c (.int .i64 0)))⟩]) (.block 0 (.loop F_slices_IndexFunc_Extent_L0))) (.seq (.ops [⟨(some 4), none, (.mov (.c (.int .i64 (-1))))⟩]) .ret))), 19, [(.tmp 4)]⟩
theorem F_slices_IndexFunc_Extent_ok : compF Try.prog (fun _ => true) 178 = some F_slices_IndexFunc_Extent := by kernel_rfl
@[simp] abbrev n_state_within : FuncId := 93
def F_state_within : F := ⟨(.seq (.ops [⟨(some 6), none, (.mov (.c (.bool false)))⟩]) (.seq (.ops [⟨(some 7), none, (.mov (.t 0))⟩, ⟨(some 8), none, (.mov (.t 1))⟩, ⟨(some 9), none, (.bin .geq (.t 7) (.t 8))⟩, ⟨(some 10), none, (.mov (.t 9))⟩, ⟨(some 11), (some (10, true)), (.mov (.t 0))⟩, ⟨(some 12), (some (10, true)), (.mov (.t 2))⟩, ⟨(some 13), (some (10, true)), (.bin .leq (.t 11) (.t 12))⟩, ⟨(some 14), none, (.pick (.t 10) (.t 13) (.c (.bool false)))⟩, ⟨(some 6), none, (.mov (.t 14))⟩]) .ret)), 15, [(.tmp 6)]⟩
theorem F_state_within_ok : compF Try.prog (fun _ => true) 93 = some F_state_within := by kernel_rfl
@[simp] abbrev n_state_upto : FuncId := 92
def F_state_upto : F := ⟨(.seq (.ops [⟨(some 5), none, (.box (.t 2))⟩, ⟨(some 6), none, (.mov (.c (.bool false)))⟩]) (.seq (.ops [⟨(some 7), none, (.mov (.t 0))⟩, ⟨(some 8), none, (.mov (.t 1))⟩, ⟨(some 9), none, (.call 138 [(.t 7), (.t 8)])⟩, ⟨(some 10), none, (.mov (.t 9))⟩, ⟨(some 11), (some (10, true)), (.mov (.t 1))⟩, ⟨(some 12), (some (10, true)), (.mkf 140 [(.t 5)])⟩, ⟨(some 13), (some (10, true)), (.call 139 [(.t 11), (.t 12)])⟩, ⟨(some 14), (some (10, true)), (.un .not (.t 13))⟩, ⟨(some 15), none, (.pick (.t 10) (.t 14) (.c (.bool false)))⟩, ⟨(some 6), none, (.mov (.t 15))⟩]) .ret)), 16, [(.tmp 6)]⟩
theorem F_state_upto_ok : compF Try.prog (fun _ => true) 92 = some F_state_upto := by kernel_rfl
@[simp] abbrev n_state_upto_1 : FuncId := 140
def F_state_upto_1 : F := ⟨(.seq (.ops [⟨(some 2), none, (.box (.t 0))⟩, ⟨(some 3), none, (.mov (.c (.bool false)))⟩]) (.seq (.ops [⟨(some 4), none, (.fad (.t 2) 3)⟩, ⟨(some 5), none, (.ld (.t 4) none)⟩, ⟨(some 6), none, (.ld (.t 1) none)⟩, ⟨(some 7), none, (.bin .gtr (.t 5) (.t 6))⟩, ⟨(some 3), none, (.mov (.t 7))⟩]) .ret)), 8, [(.tmp 3)]⟩
theorem F_state_upto_1_ok : compF Try.prog (fun _ => true) 140 = some F_state_upto_1 := by kernel_rfl
@[simp] abbrev n_state_kept : FuncId := 94
def F_state_kept_L0 : C := (.seq (.ops [⟨(some 28), none, (.bin .lss (.t 27) (.t 26))⟩]) (.seq (.cond (.t 28) .skip (.exit 2)) (.seq (.block 3 (.seq (.ops [⟨(some 29), none, (.ixs (.t 25) (.t 27) 5)⟩, ⟨(some 30), none, (.lde (.t 29) (some 5))⟩, ⟨(some 10), none, (.alc [(.val (.int .i64 0)), (.val (.int .i64 0)), (.val (.int .i64 0)), (.val (.int .i64 0)), (.lit 1 [])])⟩, ⟨none, none, (.st (.t 10) 5 (.t 30))⟩]) (.seq (.ops [⟨(some 32), none, (.ld (.t 10) (some 5))⟩, ⟨(some 33), none, (.fad (.t 8) 0)⟩, ⟨(some 34), none, (.ld (.t 33) none)⟩, ⟨(some 35), none, (.fad (.t 8) 1)⟩, ⟨(some 36), none, (.ld (.t 35) none)⟩, ⟨(some 37), none, (.call 141 [(.t 32), (.t 34), (.t 36)])⟩, ⟨(some 31), none, (.mov (.t 37))⟩, ⟨(some 38), none, (.ext (.t 31) 0)⟩, ⟨(some 39), none, (.ext (.t 31) 1)⟩, ⟨(some 11), none, (.alc [(.val (.int .i64 0)), (.val (.int .i64 0)), (.val (.int .i64 0)), (.val (.int .i64 0)), (.lit 1 [])])⟩, ⟨none, none, (.st (.t 11) 5 (.t 38))⟩, ⟨(some 12), none, (.mov (.t 39))⟩]) (.seq (.seq (.ops [⟨(some 40), none, (.mov (.t 12))⟩, ⟨(some 41), none, (.un .not (.t 40))⟩]) (.cond (.t 41) (.exit 3) .skip)) (.seq (.ops [⟨(some 43), none, (.ld (.t 8) (some 5))⟩, ⟨(some 44), none, (.fad (.t 11) 0)⟩, ⟨(some 45), none, (.ld (.t 44) none)⟩, ⟨(some 46), none, (.fad (.t 11) 1)⟩, ⟨(some 47), none, (.ld (.t 46) none)⟩, ⟨(some 48), none, (.call 141 [(.t 43), (.t 45), (.t 47)])⟩, ⟨(some 42), none, (.mov (.t 48))⟩, ⟨(some 49), none, (.ext (.t 42) 0)⟩, ⟨(some 50), none, (.ext (.t 42) 1)⟩, ⟨(some 13), none, (.alc [(.val (.int .i64 0)), (.val (.int .i64 0)), (.val (.int .i64 0)), (.val (.int .i64 0)), (.lit 1 [])])⟩, ⟨none, none, (.st (.t 13) 5 (.t 49))⟩, ⟨(some 14), none, (.mov (.t 50))⟩]) (.seq (.ops [⟨(some 51), none, (.fad (.t 13) 2)⟩, ⟨(some 52), none, (.ld (.t 51) none)⟩, ⟨(some 53), none, (.fad (.t 11) 2)⟩, ⟨(some 54), none, (.ld (.t 53) none)⟩, ⟨(some 55), none, (.bin .neq (.t 52) (.t 54))⟩, ⟨(some 56), none, (.mov (.t 55))⟩, ⟨(some 57), (some (56, false)), (.fad (.t 13) 3)⟩, ⟨(some 58), (some (56, false)), (.ld (.t 57) none)⟩, ⟨(some 59), (some (56, false)), (.fad (.t 11) 3)⟩, ⟨(some 60), (some (56, false)), (.ld (.t 59) none)⟩, ⟨(some 61), (some (56, false)), (.bin .neq (.t 58) (.t 60))⟩, ⟨(some 62), none, (.pick (.t 56) (.c (.bool true)) (.t 61))⟩, ⟨(some 63), none, (.mov (.t 62))⟩, ⟨(some 64), (some (63, false)), (.fad (.t 13) 4)⟩, ⟨(some 65), (some (63, false)), (.ld (.t 64) none)⟩, ⟨(some 66), (some (63, false)), (.fad (.t 11) 4)⟩, ⟨(some 67), (some (63, false)), (.ld (.t 66) none)⟩, ⟨(some 68), (some (63, false)), (.call 130 [(.t 65), (.t 67)])⟩, ⟨(some 69), (some (63, false)), (.un .not (.t 68))⟩, ⟨(some 70), none, (.pick (.t 63) (.c (.bool true)) (.t 69))⟩]) (.cond (.t 70) (.seq (.ops [⟨(some 6), none, (.mov (.c (.bool false)))⟩]) .ret) .skip))))))) (.ops [⟨(some 71), none, (.bin .add (.t 27) (.c (.int .i64 1)))⟩, ⟨(some 27), none, (.mov (.t 71))⟩]))))
def F_state_kept_L1 : C := (.seq (.ops [⟨(some 18), none, (.bin .lss (.t 17) (.t 16))⟩]) (.seq (.cond (.t 18) .skip (.exit 0)) (.seq (.block 1 (.seq (.ops [⟨(some 19), none, (.ixs (.t 15) (.t 17) 5)⟩, ⟨(some 20), none, (.lde (.t 19) (some 5))⟩, ⟨(some 8), none, (.alc [(.val (.int .i64 0)), (.val (.int .i64 0)), (.val (.int .i64 0)), (.val (.int .i64 0)), (.lit 1 [])])⟩, ⟨none, none, (.st (.t 8) 5 (.t 20))⟩]) (.seq (.seq (.ops [⟨(some 21), none, (.fad (.t 8) 3)⟩, ⟨(some 22), none, (.ld (.t 21) none)⟩, ⟨(some 23), none, (.mov (.t 2))⟩, ⟨(some 24), none, (.bin .gtr (.t 22) (.t 23))⟩]) (.cond (.t 24) (.exit 1) .skip)) (.seq (.ops [⟨(some 25), none, (.mov (.t 0))⟩, ⟨(some 26), none, (.len (.t 25))⟩, ⟨(some 27), none, (.mov (.c (.int .i64 0)))⟩]) (.block 2 (.loop F_state_kept_L0)))))) (.ops [⟨(some 72), none, (.bin .add (.t 17) (.c (.int .i64 1)))⟩, ⟨(some 17), none, (.mov (.t 72))⟩]))))
def F_state_kept : F := ⟨(.seq (.ops [⟨(some 6), none, (.mov (.c (.bool false)))⟩]) (.seq (.seq (.ops [⟨(some 15), none, (.mov (.t 1))⟩, ⟨(some 16), none, (.len (.t 15))⟩, ⟨(some 17), none, (.mov (.c (.int .i64 0)))⟩]) (.block 0 (.loop F_state_kept_L1))) (.seq (.ops [⟨(some 6), none, (.mov (.c (.bool true)))⟩]) .ret))), 73, [(.tmp 6)]⟩
theorem F_state_kept_ok : compF Try.prog (fun _ => true) 94 = some F_state_kept := by kernel_rfl
@[simp] abbrev n_state_Check : FuncId := 34
def F_state_Check_L0 : C := (.seq (.ops [⟨(some 40), none, (.bin .lss (.t 39) (.t 38))⟩]) (.seq (.cond (.t 40) .skip (.exit 0)) (.seq (.block 1 (.seq (.ops [⟨(some 41), none, (.ixs (.t 37) (.t 39) 3)⟩, ⟨(some 42), none, (.lde (.t 41) (some 3))⟩, ⟨(some 6), none, (.alc [(.val (.int .i64 0)), (.val (.int .i64 0)), (.lit 5 [])])⟩, ⟨none, none, (.st (.t 6) 3 (.t 42))⟩]) (.seq (.ops [⟨(some 43), none, (.mov (.t 3))⟩, ⟨(some 44), none, (.mov (.t 43))⟩, ⟨(some 45), (some (44, true)), (.fad (.t 1) 0)⟩, ⟨(some 46), (some (44, true)), (.ld (.t 45) none)⟩, ⟨(some 47), (some (44, true)), (.fad (.t 6) 2)⟩, ⟨(some 48), (some (44, true)), (.ld (.t 47) none)⟩, ⟨(some 49), (some (44, true)), (.fad (.t 6) 1)⟩, ⟨(some 50), (some (44, true)), (.ld (.t 49) none)⟩, ⟨(some 51), (some (44, true)), (.call 92 [(.t 46), (.t 48), (.t 50)])⟩, ⟨(some 52), none, (.pick (.t 44) (.t 51) (.c (.bool false)))⟩, ⟨(some 53), none, (.mov (.t 52))⟩, ⟨(some 54), (some (53, true)), (.fad (.t 6) 0)⟩, ⟨(some 55), (some (53, true)), (.ld (.t 54) none)⟩, ⟨(some 56), (some (53, true)), (.fad (.t 4) 0)⟩, ⟨(some 57), (some (53, true)), (.ld (.t 56) none)⟩, ⟨(some 58), (some (53, true)), (.bin .gtr (.t 55) (.t 57))⟩, ⟨(some 59), none, (.pick (.t 53) (.t 58) (.c (.bool false)))⟩, ⟨(some 60), none, (.mov (.t 59))⟩, ⟨(some 61), (some (60, true)), (.fad (.t 6) 0)⟩, ⟨(some 62), (some (60, true)), (.ld (.t 61) none)⟩, ⟨(some 63), (some (60, true)), (.fad (.t 1) 4)⟩, ⟨(some 64), (some (60, true)), (.ld (.t 63) none)⟩, ⟨(some 65), (some (60, true)), (.bin .leq (.t 62) (.t 64))⟩, ⟨(some 66), none, (.pick (.t 60) (.t 65) (.c (.bool false)))⟩, ⟨(some 67), none, (.mov (.t 66))⟩, ⟨(some 68), (some (67, true)), (.fad (.t 6) 1)⟩, ⟨(some 69), (some (67, true)), (.ld (.t 68) none)⟩, ⟨(some 70), (some (67, true)), (.fad (.t 4) 1)⟩, ⟨(some 71), (some (67, true)), (.ld (.t 70) none)⟩, ⟨(some 72), (some (67, true)), (.bin .gtr (.t 69) (.t 71))⟩, ⟨(some 73), none, (.pick (.t 67) (.t 72) (.c (.bool false)))⟩, ⟨(some 74), none, (.mov (.t 73))⟩, ⟨(some 75), (some (74, true)), (.fad (.t 6) 1)⟩, ⟨(some 76), (some (74, true)), (.ld (.t 75) none)⟩, ⟨(some 77), (some (74, true)), (.fad (.t 1) 1)⟩, ⟨(some 78), (some (74, true)), (.ld (.t 77) none)⟩, ⟨(some 79), (some (74, true)), (.bin .lss (.t 76) (.t 78))⟩, ⟨(some 80), none, (.pick (.t 74) (.t 79) (.c (.bool false)))⟩, ⟨(some 81), none, (.mov (.t 80))⟩, ⟨(some 82), (some (81, true)), (.fad (.t 4) 2)⟩, ⟨(some 83), (some (81, true)), (.ld (.t 82) none)⟩, ⟨(some 84), (some (81, true)), (.fad (.t 6) 2)⟩, ⟨(some 85), (some (81, true)), (.ld (.t 84) none)⟩, ⟨(some 86), (some (81, true)), (.fad (.t 4) 1)⟩, ⟨(some 87), (some (81, true)), (.ld (.t 86) none)⟩, ⟨(some 88), (some (81, true)), (.call 94 [(.t 83), (.t 85), (.t 87)])⟩, ⟨(some 89), none, (.pick (.t 81) (.t 88) (.c (.bool false)))⟩, ⟨(some 3), none, (.mov (.t 89))⟩]) (.ops [⟨(some 90), none, (.ld (.t 6) (some 3))⟩, ⟨none, none, (.st (.t 4) 3 (.t 90))⟩])))) (.ops [⟨(some 91), none, (.bin .add (.t 39) (.c (.int .i64 1)))⟩, ⟨(some 39), none, (.mov (.t 91))⟩]))))
def F_state_Check : F := ⟨(.seq (.ops [⟨(some 1), none, (.box (.t 0))⟩, ⟨(some 2), none, (.mov (.c (.int .i64 0)))⟩]) (.seq (.ops [⟨(some 7), none, (.fad (.t 1) 0)⟩, ⟨(some 8), none, (.ld (.t 7) none)⟩, ⟨(some 9), none, (.fad (.t 1) 2)⟩, ⟨(some 10), none, (.ld (.t 9) none)⟩, ⟨(some 11), none, (.fad (.t 1) 1)⟩, ⟨(some 12), none, (.ld (.t 11) none)⟩, ⟨(some 13), none, (.call 92 [(.t 8), (.t 10), (.t 12)])⟩, ⟨(some 14), none, (.mov (.t 13))⟩, ⟨(some 15), (some (14, true)), (.fad (.t 1) 1)⟩, ⟨(some 16), (some (14, true)), (.ld (.t 15) none)⟩, ⟨(some 17), (some (14, true)), (.call 93 [(.t 16), (.c (.int .i64 1)), (.c (.int .i64 2147483647))])⟩, ⟨(some 18), none, (.pick (.t 14) (.t 17) (.c (.bool false)))⟩, ⟨(some 19), none, (.mov (.t 18))⟩, ⟨(some 20), (some (19, true)), (.fad (.t 1) 3)⟩, ⟨(some 21), (some (19, true)), (.ld (.t 20) none)⟩, ⟨(some 22), (some (19, true)), (.len (.t 21))⟩, ⟨(some 23), (some (19, true)), (.bin .leq (.t 22) (.c (.int .i64 4)))⟩, ⟨(some 24), none, (.pick (.t 19) (.t 23) (.c (.bool false)))⟩, ⟨(some 25), none, (.mov (.t 24))⟩, ⟨(some 26), (some (25, true)), (.fad (.t 1) 4)⟩, ⟨(some 27), (some (25, true)), (.ld (.t 26) none)⟩, ⟨(some 28), (some (25, true)), (.call 93 [(.t 27), (.c (.int .i64 0)), (.c (.int .i64 2147483647))])⟩, ⟨(some 29), none, (.pick (.t 25) (.t 28) (.c (.bool false)))⟩, ⟨(some 30), none, (.mov (.t 29))⟩, ⟨(some 31), (some (30, true)), (.fad (.t 1) 5)⟩, ⟨(some 32), (some (30, true)), (.ld (.t 31) none)⟩, ⟨(some 33), (some (30, true)), (.len (.t 32))⟩, ⟨(some 34), (some (30, true)), (.bin .leq (.t 33) (.c (.int .i64 4000)))⟩, ⟨(some 35), none, (.pick (.t 30) (.t 34) (.c (.bool false)))⟩, ⟨(some 3), none, (.mov (.t 35))⟩]) (.seq (.ops [⟨(some 4), none, (.alc [(.val (.int .i64 0)), (.val (.int .i64 0)), (.lit 5 [])])⟩]) (.seq (.seq (.ops [⟨(some 36), none, (.fad (.t 1) 3)⟩, ⟨(some 37), none, (.ld (.t 36) none)⟩, ⟨(some 38), none, (.len (.t 37))⟩, ⟨(some 39), none, (.mov (.c (.int .i64 0)))⟩]) (.block 0 (.loop F_state_Check_L0))) (.seq (.seq (.ops [⟨(some 92), none, (.mov (.t 3))⟩, ⟨(some 93), none, (.un .not (.t 92))⟩, ⟨(some 94), none, (.mov (.t 93))⟩, ⟨(some 95), (some (94, false)), (.fad (.t 4) 2)⟩, ⟨(some 96), (some (94, false)), (.ld (.t 95) none)⟩, ⟨(some 97), (some (94, false)), (.fad (.t 1) 2)⟩, ⟨(some 98), (some (94, false)), (.ld (.t 97) none)⟩, ⟨(some 99), (some (94, false)), (.fad (.t 4) 1)⟩, ⟨(some 100), (some (94, false)), (.ld (.t 99) none)⟩, ⟨(some 101), (some (94, false)), (.call 94 [(.t 96), (.t 98), (.t 100)])⟩, ⟨(some 102), (some (94, false)), (.un .not (.t 101))⟩, ⟨(some 103), none, (.pick (.t 94) (.c (.bool true)) (.t 102))⟩]) (.cond (.t 103) (.seq (.ops [⟨(some 2), none, (.mov (.c (.int .i64 110)))⟩]) .ret) .skip)) (.seq (.ops [⟨(some 2), none, (.mov (.c (.int .i64 0)))⟩]) .ret)))))), 104, [(.tmp 2)]⟩
theorem F_state_Check_ok : compF Try.prog (fun _ => true) 34 = some F_state_Check := by kernel_rfl
@[simp] abbrev n_state_New : FuncId := 64
@[simp] abbrev n_r11_upto : FuncId := 123
@[simp] abbrev n_r11_kept : FuncId := 124
@[simp] abbrev n_r11_Check : FuncId := 72
@[simp] abbrev n_r11_Points : FuncId := 88
@[simp] abbrev n_r11_Same : FuncId := 31
@[simp] abbrev n_r05_Same : FuncId := 55
@[simp] abbrev n_r05_All : FuncId := 30
end Go.Av

namespace Go.Av
open Go.Proofs

@[simp] abbrev n_snap_Write : FuncId := 24
def F_snap_Write_L0 : C := (.seq (.ops [⟨(some 53), none, (.bin .lss (.t 52) (.t 51))⟩]) (.seq (.cond (.t 53) .skip (.exit 0)) (.seq (.block 1 (.seq (.ops [⟨(some 54), none, (.ixs (.t 50) (.t 52) 3)⟩, ⟨(some 55), none, (.lde (.t 54) (some 3))⟩, ⟨(some 10), none, (.alc [(.val (.int .i64 0)), (.val (.int .i64 0)), (.lit 5 [])])⟩, ⟨none, none, (.st (.t 10) 3 (.t 55))⟩]) (.seq (.dops false [] [⟨(some 56), none, (.ld (.t 7) none)⟩, ⟨(some 57), none, (.fad (.t 10) 0)⟩, ⟨(some 58), none, (.ld (.t 57) none)⟩, ⟨(some 59), none, (.conv .u64 (.t 58))⟩, ⟨(some 60), none, (.fad (.t 10) 1)⟩, ⟨(some 61), none, (.ld (.t 60) none)⟩, ⟨(some 62), none, (.conv .u64 (.t 61))⟩, ⟨(some 63), none, (.mkl 114 1 [(.t 59), (.t 62)] true)⟩, ⟨(some 64), none, (.callq 70 [(.c (.string ⟨#[119, 119]⟩)), (.t 63)])⟩, ⟨(some 65), none, (.ext (.t 64) 0)⟩, ⟨(some 66), none, (.ext (.t 64) 1)⟩, ⟨(some 67), none, (.callv (.t 56) [(.t 65), (.t 66)])⟩]) (.ops [⟨(some 68), none, (.mov (.t 8))⟩, ⟨(some 69), none, (.fad (.t 10) 2)⟩, ⟨(some 70), none, (.ld (.t 69) none)⟩, ⟨(some 71), none, (.callv (.t 68) [(.t 70)])⟩])))) (.ops [⟨(some 72), none, (.bin .add (.t 52) (.c (.int .i64 1)))⟩, ⟨(some 52), none, (.mov (.t 72))⟩]))))
def F_snap_Write : F := ⟨(.seq (.ops [⟨(some 1), none, (.box (.t 0))⟩, ⟨(some 2), none, (.nil 5 1 true)⟩, ⟨(some 3), none, (.mov (.c (.int .i64 0)))⟩]) (.seq (.seq (.ops [⟨(some 11), none, (.ld (.t 1) (some 6))⟩, ⟨(some 12), none, (.call 34 [(.t 11)])⟩, ⟨(some 4), none, (.mov (.t 12))⟩]) (.seq (.ops [⟨(some 13), none, (.mov (.t 4))⟩, ⟨(some 14), none, (.bin .neq (.t 13) (.c (.int .i64 0)))⟩]) (.cond (.t 14) (.seq (.ops [⟨(some 15), none, (.mov (.t 4))⟩, ⟨(some 2), none, (.nil 5 1 true)⟩, ⟨(some 3), none, (.mov (.t 15))⟩]) .ret) .skip))) (.seq (.ops [⟨(some 5), none, (.alr 5 1)⟩]) (.seq (.ops [⟨(some 6), none, (.alc [(.val (.int .i64 0))])⟩]) (.seq (.ops [⟨(some 16), none, (.mkf 66 [(.t 5), (.t 6)])⟩, ⟨(some 7), none, (.alc [(.val .nilFunc)])⟩, ⟨none, none, (.st (.t 7) 1 (.t 16))⟩]) (.seq (.ops [⟨(some 17), none, (.mkf 67 [(.t 7)])⟩, ⟨(some 8), none, (.mov (.t 17))⟩]) (.seq (.dops false [] [⟨(some 18), none, (.ld (.t 7) none)⟩, ⟨(some 19), none, (.fad (.t 1) 0)⟩, ⟨(some 20), none, (.ld (.t 19) none)⟩, ⟨(some 21), none, (.conv .u64 (.t 20))⟩, ⟨(some 22), none, (.fad (.t 1) 1)⟩, ⟨(some 23), none, (.ld (.t 22) none)⟩, ⟨(some 24), none, (.conv .u64 (.t 23))⟩, ⟨(some 25), none, (.fad (.t 1) 4)⟩, ⟨(some 26), none, (.ld (.t 25) none)⟩, ⟨(some 27), none, (.conv .u64 (.t 26))⟩, ⟨(some 28), none, (.fad (.t 1) 3)⟩, ⟨(some 29), none, (.ld (.t 28) none)⟩, ⟨(some 30), none, (.len (.t 29))⟩, ⟨(some 31), none, (.conv .u64 (.t 30))⟩, ⟨(some 32), none, (.fad (.t 1) 5)⟩, ⟨(some 33), none, (.ld (.t 32) none)⟩, ⟨(some 34), none, (.len (.t 33))⟩, ⟨(some 35), none, (.conv .u64 (.t 34))⟩, ⟨(some 36), none, (.mkl 114 1 [(.t 21), (.t 24), (.t 27), (.t 31), (.t 35)] true)⟩, ⟨(some 37), none, (.callq 70 [(.c (.string ⟨#[98, 119, 119, 98, 104]⟩)), (.t 36)])⟩, ⟨(some 38), none, (.ext (.t 37) 0)⟩, ⟨(some 39), none, (.ext (.t 37) 1)⟩, ⟨(some 40), none, (.callv (.t 18) [(.t 38), (.t 39)])⟩]) (.seq (.ops [⟨(some 41), none, (.ld (.t 7) none)⟩, ⟨(some 42), none, (.fad (.t 1) 5)⟩, ⟨(some 43), none, (.ld (.t 42) none)⟩, ⟨(some 44), none, (.callv (.t 41) [(.t 43), (.c (.int .i64 0))])⟩]) (.seq (.ops [⟨(some 45), none, (.mov (.t 8))⟩, ⟨(some 46), none, (.fad (.t 1) 2)⟩, ⟨(some 47), none, (.ld (.t 46) none)⟩, ⟨(some 48), none, (.callv (.t 45) [(.t 47)])⟩]) (.seq (.seq (.ops [⟨(some 49), none, (.fad (.t 1) 3)⟩, ⟨(some 50), none, (.ld (.t 49) none)⟩, ⟨(some 51), none, (.len (.t 50))⟩, ⟨(some 52), none, (.mov (.c (.int .i64 0)))⟩]) (.block 0 (.loop F_snap_Write_L0))) (.seq (.seq (.ops [⟨(some 73), none, (.ld (.t 6) none)⟩, ⟨(some 74), none, (.bin .neq (.t 73) (.c (.int .i64 0)))⟩]) (.cond (.t 74) (.seq (.ops [⟨(some 2), none, (.nil 5 1 true)⟩, ⟨(some 3), none, (.mov (.c (.int .i64 110)))⟩]) .ret) .skip)) (.seq (.ops [⟨(some 75), none, (.ld (.t 5) none)⟩, ⟨(some 76), none, (.call 71 [(.t 75)])⟩, ⟨(some 2), none, (.mov (.t 76))⟩, ⟨(some 3), none, (.mov (.c (.int .i64 0)))⟩]) .ret)))))))))))), 77, [(.tmp 2), (.tmp 3)]⟩
theorem F_snap_Write_ok : compF Try.prog (fun _ => true) 24 = some F_snap_Write := by kernel_rfl
@[simp] abbrev n_snap_Write_1 : FuncId := 66
def F_snap_Write_1 : F := ⟨(.dops false [(3, 2)] [⟨(some 6), none, (.ld (.t 2) none)⟩, ⟨(some 7), none, (.mov (.t 0))⟩, ⟨(some 9), none, (.ld (.t 3) none)⟩, ⟨(some 10), none, (.mov (.t 1))⟩, ⟨(some 11), none, (.mm true (.t 9) (.t 10))⟩, ⟨(some 8), none, (.app (.t 6) (.t 7) 5 1 1 true)⟩, ⟨none, none, (.st (.t 2) 1 (.t 8))⟩, ⟨none, none, (.st (.t 3) 1 (.t 11))⟩]), 12, []⟩
theorem F_snap_Write_1_ok : compF Try.prog (fun _ => true) 66 = some F_snap_Write_1 := by kernel_rfl
@[simp] abbrev n_snap_Write_2 : FuncId := 67
def F_snap_Write_2 : F := ⟨(.seq (.ops [⟨(some 6), none, (.mov (.t 0))⟩, ⟨(some 7), none, (.call 68 [(.t 6)])⟩, ⟨(some 5), none, (.mov (.t 7))⟩, ⟨(some 8), none, (.ext (.t 5) 0)⟩, ⟨(some 9), none, (.ext (.t 5) 1)⟩, ⟨(some 3), none, (.mov (.t 8))⟩, ⟨(some 4), none, (.mov (.t 9))⟩]) (.seq (.dops false [] [⟨(some 10), none, (.ld (.t 1) none)⟩, ⟨(some 11), none, (.mov (.t 3))⟩, ⟨(some 12), none, (.len (.t 11))⟩, ⟨(some 13), none, (.conv .u64 (.t 12))⟩, ⟨(some 14), none, (.callq 69 [(.c (.slice none 0 0)), (.t 13), (.c (.int .i64 2))])⟩, ⟨(some 15), none, (.ext (.t 14) 0)⟩, ⟨(some 16), none, (.ext (.t 14) 1)⟩, ⟨(some 17), none, (.callv (.t 10) [(.t 15), (.t 16)])⟩]) (.ops [⟨(some 18), none, (.ld (.t 1) none)⟩, ⟨(some 19), none, (.mov (.t 3))⟩, ⟨(some 20), none, (.mov (.t 4))⟩, ⟨(some 21), none, (.callv (.t 18) [(.t 19), (.t 20)])⟩]))), 22, []⟩
theorem F_snap_Write_2_ok : compF Try.prog (fun _ => true) 67 = some F_snap_Write_2 := by kernel_rfl
@[simp] abbrev n_snap_Read : FuncId := 28
@[simp] abbrev n_snap_Read_1 : FuncId := 80
@[simp] abbrev n_snap_Read_2 : FuncId := 81
@[simp] abbrev n_snap_Read_3 : FuncId := 83
@[simp] abbrev n_snap_parts : FuncId := 76
def F_snap_parts : F := ⟨(.seq (.ops [⟨(some 2), none, (.mov (.c .nilFunc))⟩]) (.seq (.ops [⟨(some 3), none, (.mov (.t 0))⟩, ⟨(some 4), none, (.call 128 [(.t 3), (.c (.int .i64 4096))])⟩, ⟨(some 2), none, (.mov (.t 4))⟩]) .ret)), 5, [(.tmp 2)]⟩
theorem F_snap_parts_ok : compF Try.prog (fun _ => true) 76 = some F_snap_parts := by kernel_rfl
@[simp] abbrev n_slices_Chunk_byte : FuncId := 128
def F_slices_Chunk_byte : F := ⟨(.seq (.ops [⟨(some 2), none, (.box (.t 0))⟩, ⟨(some 3), none, (.box (.t 1))⟩, ⟨(some 4), none, (.mov (.c .nilFunc))⟩]) (.seq (.seq (.ops [⟨(some 5), none, (.ld (.t 3) none)⟩, ⟨(some 6), none, (.bin .lss (.t 5) (.c (.int .i64 1)))⟩]) (.cond (.t 6) (.ops [⟨(some 7), none, .dead⟩, ⟨none, none, .dead⟩]) .skip)) (.seq (.ops [⟨(some 8), none, (.mkf 176 [(.t 2), (.t 3)])⟩, ⟨(some 4), none, (.mov (.t 8))⟩]) .ret))), 9, [(.tmp 4)]⟩
theorem F_slices_Chunk_byte_ok : compF Try.prog (fun _ => true) 128 = some F_slices_Chunk_byte := by kernel_rfl
@[simp] abbrev n_slices_Chunk_byte_1 : FuncId := 176
def F_slices_Chunk_byte_1_L0 : C := (.seq (.seq (.ops [⟨(some 6), none, (.mov (.t 4))⟩, ⟨(some 7), none, (.ld (.t 1) none)⟩, ⟨(some 8), none, (.len (.t 7))⟩, ⟨(some 9), none, (.bin .lss (.t 6) (.t 8))⟩]) (.cond (.t 9) .skip (.exit 0))) (.seq (.block 1 (.seq (.dops false [] [⟨(some 13), none, (.ld (.t 2) none)⟩, ⟨(some 14), none, (.ld (.t 1) none)⟩, ⟨(some 15), none, (.mov (.t 4))⟩, ⟨(some 16), none, (.slc (.t 14) (some (.t 15)) none none 1)⟩, ⟨(some 17), none, (.len (.t 16))⟩, ⟨(some 18), none, (.mm false (.t 13) (.t 17))⟩, ⟨(some 5), none, (.mov (.t 18))⟩]) (.seq (.ops [⟨(some 19), none, (.mov (.t 0))⟩, ⟨(some 20), none, (.ld (.t 1) none)⟩, ⟨(some 21), none, (.mov (.t 4))⟩, ⟨(some 22), none, (.mov (.t 4))⟩, ⟨(some 23), none, (.mov (.t 5))⟩, ⟨(some 24), none, (.bin .add (.t 22) (.t 23))⟩, ⟨(some 25), none, (.mov (.t 4))⟩, ⟨(some 26), none, (.mov (.t 5))⟩, ⟨(some 27), none, (.bin .add (.t 25) (.t 26))⟩, ⟨(some 28), none, (.slc (.t 20) (some (.t 21)) (some (.t 24)) (some (.t 27)) 1)⟩, ⟨(some 29), none, (.callv (.t 19) [(.t 28)])⟩, ⟨(some 30), none, (.un .not (.t 29))⟩]) (.cond (.t 30) .ret .skip)))) (.ops [⟨(some 10), none, (.mov (.t 4))⟩, ⟨(some 11), none, (.ld (.t 2) none)⟩, ⟨(some 12), none, (.bin .add (.t 10) (.t 11))⟩, ⟨(some 4), none, (.mov (.t 12))⟩])))
def F_slices_Chunk_byte_1 : F := ⟨(.seq (.ops [⟨(some 4), none, (.mov (.c (.int .i64 0)))⟩]) (.block 0 (.loop F_slices_Chunk_byte_1_L0))), 31, []⟩
theorem F_slices_Chunk_byte_1_ok : compF Try.prog (fun _ => true) 176 = some F_slices_Chunk_byte_1 := by kernel_rfl
@[simp] abbrev n_snap_Records : FuncId := 26
def F_snap_Records : F := ⟨(.seq (.ops [⟨(some 2), none, (.box (.t 0))⟩, ⟨(some 3), none, (.box (.t 1))⟩, ⟨(some 4), none, (.alr 36 3)⟩, ⟨(some 5), none, (.mov (.c (.int .i64 0)))⟩]) (.seq (.ops [⟨(some 10), none, (.ld (.t 2) (some 6))⟩, ⟨(some 11), none, (.call 24 [(.t 10)])⟩, ⟨(some 9), none, (.mov (.t 11))⟩, ⟨(some 12), none, (.ext (.t 9) 0)⟩, ⟨(some 13), none, (.ext (.t 9) 1)⟩, ⟨(some 6), none, (.mov (.t 12))⟩, ⟨(some 5), none, (.mov (.t 13))⟩]) (.seq (.seq (.ops [⟨(some 14), none, (.mov (.t 5))⟩, ⟨(some 15), none, (.bin .neq (.t 14) (.c (.int .i64 0)))⟩]) (.cond (.t 15) (.seq (.ops [⟨(some 16), none, (.mov (.t 5))⟩, ⟨none, none, (.st (.t 4) 1 (.c (.slice none 0 0)))⟩, ⟨(some 5), none, (.mov (.t 16))⟩]) .ret) .skip)) (.seq (.seq (.ops [⟨(some 17), none, (.ld (.t 3) none)⟩, ⟨(some 18), none, (.bin .lss (.t 17) (.c (.int .i64 0)))⟩, ⟨(some 19), none, (.mov (.t 18))⟩, ⟨(some 20), (some (19, false)), (.ld (.t 3) none)⟩, ⟨(some 21), (some (19, false)), (.bin .gtr (.t 20) (.c (.int .i64 2305843009213693952)))⟩, ⟨(some 22), none, (.pick (.t 19) (.c (.bool true)) (.t 21))⟩]) (.cond (.t 22) (.seq (.ops [⟨none, none, (.st (.t 4) 1 (.c (.slice none 0 0)))⟩, ⟨(some 5), none, (.mov (.c (.int .i64 120)))⟩]) .ret) .skip)) (.seq (.seq (.ops [⟨(some 23), none, (.mov (.t 6))⟩, ⟨(some 24), none, (.call 76 [(.t 23)])⟩]) (.block 0 (.rangeF false (.t 24) [25] (.ops [⟨(some 7), none, (.mov (.t 25))⟩]) (.block 1 (.dops false [] [⟨(some 26), none, (.ld (.t 4) none)⟩, ⟨(some 27), none, (.ld (.t 3) none)⟩, ⟨(some 28), none, (.ld (.t 4) none)⟩, ⟨(some 29), none, (.len (.t 28))⟩, ⟨(some 30), none, (.bin .add (.t 27) (.t 29))⟩, ⟨(some 31), none, (.mov (.t 7))⟩, ⟨(some 32), none, (.callq 77 [(.t 31)])⟩, ⟨(some 33), none, (.bld [(.val (.int .i64 0)), (.val (.int .i64 0)), (.lit 1 [])] [(0, (1, (.c (.int .i64 2)))), (1, (1, (.t 30))), (2, (1, (.t 32)))])⟩, ⟨(some 34), none, (.mkl 36 3 [(.t 33)] false)⟩, ⟨(some 35), none, (.app (.t 26) (.t 34) 36 3 40 true)⟩, ⟨none, none, (.st (.t 4) 1 (.t 35))⟩]))))) (.seq (.ops [⟨(some 37), none, (.ld (.t 4) none)⟩, ⟨(some 38), none, (.len (.t 37))⟩, ⟨(some 39), none, (.conv .u64 (.t 38))⟩, ⟨(some 40), none, (.call 69 [(.c (.slice none 0 0)), (.t 39), (.c (.int .i64 2))])⟩, ⟨(some 36), none, (.mov (.t 40))⟩, ⟨(some 41), none, (.ext (.t 36) 0)⟩, ⟨(some 42), none, (.ext (.t 36) 1)⟩, ⟨(some 8), none, (.mov (.t 41))⟩, ⟨(some 5), none, (.mov (.t 42))⟩]) (.seq (.ops [⟨(some 43), none, (.ld (.t 4) none)⟩, ⟨(some 44), none, (.ld (.t 3) none)⟩, ⟨(some 45), none, (.ld (.t 4) none)⟩, ⟨(some 46), none, (.len (.t 45))⟩, ⟨(some 47), none, (.bin .add (.t 44) (.t 46))⟩, ⟨(some 48), none, (.mov (.t 8))⟩, ⟨(some 49), none, (.bld [(.val (.int .i64 0)), (.val (.int .i64 0)), (.lit 1 [])] [(0, (1, (.c (.int .i64 3)))), (1, (1, (.t 47))), (2, (1, (.t 48)))])⟩, ⟨(some 50), none, (.mkl 36 3 [(.t 49)] false)⟩, ⟨(some 51), none, (.app (.t 43) (.t 50) 36 3 40 true)⟩, ⟨(some 52), none, (.mov (.t 5))⟩, ⟨none, none, (.st (.t 4) 1 (.t 51))⟩, ⟨(some 5), none, (.mov (.t 52))⟩]) .ret))))))), 53, [(.cell 4 none), (.tmp 5)]⟩
theorem F_snap_Records_ok : compF Try.prog (fun d => !([34, 50].contains d)) 26 = some F_snap_Records := by kernel_rfl
@[simp] abbrev n_snap_Found : FuncId := 32
@[simp] abbrev n_slices_Backward_Found : FuncId := 89
@[simp] abbrev n_slices_Backward_Found_1 : FuncId := 136
@[simp] abbrev n_r12_counted : FuncId := 74
@[simp] abbrev n_r12_Write : FuncId := 25
@[simp] abbrev n_r12_take : FuncId := 86
@[simp] abbrev n_r12_Read : FuncId := 29
@[simp] abbrev n_r12_Records : FuncId := 27
@[simp] abbrev n_r12_at : FuncId := 137
@[simp] abbrev n_r12_whole : FuncId := 91
@[simp] abbrev n_r12_Found : FuncId := 33
@[simp] abbrev n_w12_awake : FuncId := 22
@[simp] abbrev n_w12_found : FuncId := 35
@[simp] abbrev n_w11_Few : FuncId := 23
def F_w11_Few_L0 : C := (.seq (.seq (.ops [⟨(some 20), none, (.mov (.t 3))⟩, ⟨(some 21), none, (.fad (.t 1) 3)⟩, ⟨(some 22), none, (.ld (.t 21) none)⟩, ⟨(some 23), none, (.len (.t 22))⟩, ⟨(some 24), none, (.bin .lss (.t 20) (.t 23))⟩]) (.cond (.t 24) .skip (.exit 0))) (.seq (.block 1 (.seq (.ops [⟨(some 27), none, (.fad (.t 1) 3)⟩, ⟨(some 28), none, (.ld (.t 27) none)⟩, ⟨(some 29), none, (.mov (.t 3))⟩, ⟨(some 30), none, (.ixs (.t 28) (.t 29) 3)⟩, ⟨(some 31), none, (.fad (.t 30) 2)⟩, ⟨(some 32), none, (.lde (.t 31) none)⟩, ⟨(some 33), none, (.call 65 [(.t 32)])⟩, ⟨(some 34), none, (.un .not (.t 33))⟩]) (.cond (.t 34) (.seq (.ops [⟨(some 2), none, (.mov (.c (.bool false)))⟩]) .ret) .skip))) (.ops [⟨(some 25), none, (.mov (.t 3))⟩, ⟨(some 26), none, (.bin .add (.t 25) (.c (.int .i64 1)))⟩, ⟨(some 3), none, (.mov (.t 26))⟩])))
def F_w11_Few : F := ⟨(.seq (.ops [⟨(some 1), none, (.box (.t 0))⟩, ⟨(some 2), none, (.mov (.c (.bool false)))⟩]) (.seq (.seq (.ops [⟨(some 4), none, (.fad (.t 1) 3)⟩, ⟨(some 5), none, (.ld (.t 4) none)⟩, ⟨(some 6), none, (.len (.t 5))⟩, ⟨(some 7), none, (.bin .gtr (.t 6) (.c (.int .i64 10)))⟩, ⟨(some 8), none, (.mov (.t 7))⟩, ⟨(some 9), (some (8, false)), (.fad (.t 1) 5)⟩, ⟨(some 10), (some (8, false)), (.ld (.t 9) none)⟩, ⟨(some 11), (some (8, false)), (.len (.t 10))⟩, ⟨(some 12), (some (8, false)), (.bin .gtr (.t 11) (.c (.int .i64 6000)))⟩, ⟨(some 13), none, (.pick (.t 8) (.c (.bool true)) (.t 12))⟩, ⟨(some 14), none, (.mov (.t 13))⟩, ⟨(some 15), (some (14, false)), (.fad (.t 1) 2)⟩, ⟨(some 16), (some (14, false)), (.ld (.t 15) none)⟩, ⟨(some 17), (some (14, false)), (.call 65 [(.t 16)])⟩, ⟨(some 18), (some (14, false)), (.un .not (.t 17))⟩, ⟨(some 19), none, (.pick (.t 14) (.c (.bool true)) (.t 18))⟩]) (.cond (.t 19) (.seq (.ops [⟨(some 2), none, (.mov (.c (.bool false)))⟩]) .ret) .skip)) (.seq (.seq (.ops [⟨(some 3), none, (.mov (.c (.int .i64 0)))⟩]) (.block 0 (.loop F_w11_Few_L0))) (.seq (.ops [⟨(some 2), none, (.mov (.c (.bool true)))⟩]) .ret)))), 35, [(.tmp 2)]⟩
theorem F_w11_Few_ok : compF Try.prog (fun _ => true) 23 = some F_w11_Few := by kernel_rfl
@[simp] abbrev n_w10_Few : FuncId := 36
def F_w10_Few : F := ⟨(.seq (.ops [⟨(some 1), none, (.box (.t 0))⟩, ⟨(some 2), none, (.mov (.c (.bool false)))⟩]) (.seq (.ops [⟨(some 3), none, (.fad (.t 1) 4)⟩, ⟨(some 4), none, (.ld (.t 3) none)⟩, ⟨(some 5), none, (.len (.t 4))⟩, ⟨(some 6), none, (.bin .leq (.t 5) (.c (.int .i64 5000)))⟩, ⟨(some 7), none, (.mov (.t 6))⟩, ⟨(some 8), (some (7, true)), (.fad (.t 1) 5)⟩, ⟨(some 9), (some (7, true)), (.ld (.t 8) none)⟩, ⟨(some 10), (some (7, true)), (.call 65 [(.t 9)])⟩, ⟨(some 11), none, (.pick (.t 7) (.t 10) (.c (.bool false)))⟩, ⟨(some 2), none, (.mov (.t 11))⟩]) .ret)), 12, [(.tmp 2)]⟩
theorem F_w10_Few_ok : compF Try.prog (fun _ => true) 36 = some F_w10_Few := by kernel_rfl
@[simp] abbrev n_w07_Few : FuncId := 65
def F_w07_Few_L0 : C := (.seq (.seq (.ops [⟨(some 7), none, (.mov (.t 3))⟩, ⟨(some 8), none, (.mov (.t 0))⟩, ⟨(some 9), none, (.len (.t 8))⟩, ⟨(some 10), none, (.bin .lss (.t 7) (.t 9))⟩]) (.cond (.t 10) .skip (.exit 0))) (.seq (.block 1 (.seq (.ops [⟨(some 13), none, (.mov (.t 0))⟩, ⟨(some 14), none, (.mov (.t 3))⟩, ⟨(some 15), none, (.ixs (.t 13) (.t 14) 5)⟩, ⟨(some 16), none, (.fad (.t 15) 4)⟩, ⟨(some 17), none, (.lde (.t 16) none)⟩, ⟨(some 18), none, (.len (.t 17))⟩, ⟨(some 19), none, (.bin .gtr (.t 18) (.c (.int .i64 3000)))⟩]) (.cond (.t 19) (.seq (.ops [⟨(some 2), none, (.mov (.c (.bool false)))⟩]) .ret) .skip))) (.ops [⟨(some 11), none, (.mov (.t 3))⟩, ⟨(some 12), none, (.bin .add (.t 11) (.c (.int .i64 1)))⟩, ⟨(some 3), none, (.mov (.t 12))⟩])))
def F_w07_Few : F := ⟨(.seq (.ops [⟨(some 2), none, (.mov (.c (.bool false)))⟩]) (.seq (.seq (.ops [⟨(some 4), none, (.mov (.t 0))⟩, ⟨(some 5), none, (.len (.t 4))⟩, ⟨(some 6), none, (.bin .gtr (.t 5) (.c (.int .i64 70)))⟩]) (.cond (.t 6) (.seq (.ops [⟨(some 2), none, (.mov (.c (.bool false)))⟩]) .ret) .skip)) (.seq (.seq (.ops [⟨(some 3), none, (.mov (.c (.int .i64 0)))⟩]) (.block 0 (.loop F_w07_Few_L0))) (.seq (.ops [⟨(some 2), none, (.mov (.c (.bool true)))⟩]) .ret)))), 20, [(.tmp 2)]⟩
theorem F_w07_Few_ok : compF Try.prog (fun _ => true) 65 = some F_w07_Few := by kernel_rfl
@[simp] abbrev n_w12_SnapTells : FuncId := 4
@[simp] abbrev n_w12_SnapFinds : FuncId := 5
@[simp] abbrev n_w12_SnapBack : FuncId := 6
@[simp] abbrev n_w12_SnapLast : FuncId := 7
@[simp] abbrev n_w12_SnapSizes : FuncId := 9
end Go.Av
