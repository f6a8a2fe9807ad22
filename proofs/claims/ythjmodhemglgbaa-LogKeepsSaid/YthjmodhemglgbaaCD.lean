/-
  AvV: The marks for the run: what each step comes to.
  AvX: What is known of functions, one by one; values of Lean as abstract values, and back.
  SnN: Numbers and compact codes of functions.
  SnO: Numbers and compact codes of functions.
-/
import Derived.Test.YthjmodhemglgbaaCC
import Derived.Laws.Strings
import Derived.Test.YthjmodhemglgbaaRows
set_option linter.unusedSimpArgs false
set_option linter.unusedVariables false

namespace Go.Av
open Go.RowKit

section
variable (v : Value) (l cs : List V) (sz t b o k j : Nat) (xs : List (List V)) (f : FuncId) (T : TypeId) (u : V) (m : Mem)
@[simp] theorem one_val : (V.val v).one = true := rfl
@[simp] theorem one_lit : (V.lit sz xs).one = true := rfl
@[simp] theorem one_full : (V.full sz xs).one = true := rfl
@[simp] theorem one_row : (V.row t sz xs).one = true := rfl
@[simp] theorem one_ptr : (V.ptr b o).one = true := rfl
@[simp] theorem one_eptr : (V.eptr cs).one = true := rfl
@[simp] theorem one_func : (V.func f l).one = true := rfl
@[simp] theorem one_iface : (V.iface T u).one = true := rfl
@[simp] theorem one_ref (q : Rk) : (V.ref q b).one = true := rfl
@[simp] theorem cells_ref (q : Rk) : (V.ref q b).cells = [.ref q b] := rfl
@[simp] theorem one_agg : (V.agg l).one = false := rfl
@[simp] theorem one_tuple' : (V.tuple l).one = false := rfl
@[simp] theorem cells_agg : (V.agg l).cells = l := rfl
@[simp] theorem cells_val : (V.val v).cells = [.val v] := rfl
@[simp] theorem cells_lit : (V.lit sz xs).cells = [.lit sz xs] := rfl
@[simp] theorem cells_full : (V.full sz xs).cells = [.full sz xs] := rfl
@[simp] theorem cells_row : (V.row t sz xs).cells = [.row t sz xs] := rfl
@[simp] theorem cells_ptr : (V.ptr b o).cells = [.ptr b o] := rfl
@[simp] theorem cells_eptr : (V.eptr cs).cells = [.eptr cs] := rfl
@[simp] theorem cells_func : (V.func f l).cells = [.func f l] := rfl
@[simp] theorem cells_iface : (V.iface T u).cells = [.iface T u] := rfl
@[simp] theorem top1_val : (V.val v).top1 = .val v := rfl
@[simp] theorem top1_lit : (V.lit sz xs).top1 = .lit sz xs := rfl
@[simp] theorem top1_full : (V.full sz xs).top1 = .lit sz xs := rfl
@[simp] theorem top1_row : (V.row t sz xs).top1 = .lit sz xs := rfl
@[simp] theorem top1_ptr : (V.ptr b o).top1 = .ptr b o := rfl
@[simp] theorem top1_eptr : (V.eptr cs).top1 = .eptr cs := rfl
@[simp] theorem top1_func : (V.func f l).top1 = .func f l := rfl
@[simp] theorem top1_agg : (V.agg l).top1 = .agg l := rfl
@[simp] theorem top1_iface : (V.iface T u).top1 = .iface T u := rfl
@[simp] theorem top_val : (V.val v).top = .val v := rfl
@[simp] theorem top_lit : (V.lit sz xs).top = .lit sz xs := rfl
@[simp] theorem top_full : (V.full sz xs).top = .lit sz xs := rfl
@[simp] theorem top_row : (V.row t sz xs).top = .lit sz xs := rfl
@[simp] theorem top_ptr : (V.ptr b o).top = .ptr b o := rfl
@[simp] theorem top_eptr : (V.eptr cs).top = .eptr cs := rfl
@[simp] theorem top_func : (V.func f l).top = .func f l := rfl
@[simp] theorem top_iface : (V.iface T u).top = .iface T u := rfl
@[simp] theorem top_agg : (V.agg l).top = .agg (l.map V.top1) := rfl
@[simp] theorem top_tuple : (V.tuple l).top = .tuple (l.map V.top1) := rfl
@[simp] theorem shift_row : (V.row t sz xs).shift k = .row (t + k) sz xs := rfl
@[simp] theorem shift_val : (V.val v).shift k = .val v := rfl
@[simp] theorem shift_lit : (V.lit sz xs).shift k = .lit sz xs := rfl
@[simp] theorem shift_full : (V.full sz xs).shift k = .full sz xs := rfl
@[simp] theorem shift_agg : (V.agg l).shift k = .agg l := rfl
@[simp] theorem shift_tuple : (V.tuple l).shift k = .tuple (l.map (V.shift1 k)) := rfl
@[simp] theorem shift1_row : (V.row t sz xs).shift1 k = .row (t + k) sz xs := rfl
@[simp] theorem shift1_val : (V.val v).shift1 k = .val v := rfl
@[simp] theorem shift1_lit : (V.lit sz xs).shift1 k = .lit sz xs := rfl
@[simp] theorem shift1_full : (V.full sz xs).shift1 k = .full sz xs := rfl
@[simp] theorem shift1_agg : (V.agg l).shift1 k = .agg l := rfl
@[simp] theorem at_ptr : (V.ptr b o).at m = (m.boxes[b]?).bind fun cs => if isObj cs = true then none else some (cs.drop o) := rfl
@[simp] theorem isObj_nil : isObj [] = false := rfl
@[simp] theorem isObj_two (a c : V) : isObj (a :: c :: l) = false := by cases a <;> rfl
@[simp] theorem isObj_val : isObj [.val v] = false := rfl
@[simp] theorem isObj_lit : isObj [.lit sz xs] = false := rfl
@[simp] theorem isObj_full : isObj [.full sz xs] = false := rfl
@[simp] theorem isObj_row : isObj [.row t sz xs] = false := rfl
@[simp] theorem isObj_ptr : isObj [.ptr b o] = false := rfl
@[simp] theorem isObj_eptr : isObj [.eptr cs] = false := rfl
@[simp] theorem isObj_func : isObj [.func f l] = false := rfl
@[simp] theorem isObj_iface : isObj [.iface T u] = false := rfl
@[simp] theorem isObj_tuple' : isObj [.tuple l] = true := rfl
@[simp] theorem at_eptr : (V.eptr cs).at m = some cs := rfl
@[simp] theorem cells_alts : (V.alts l).cells = [.alts l] := rfl
@[simp] theorem one_alts : (V.alts l).one = l.all fun v => match v with | .val _ => true | _ => false := rfl
@[simp] theorem isObj_alts : isObj [.alts l] = false := rfl
@[simp] theorem top1_alts : (V.alts l).top1 = .alts l := rfl
@[simp] theorem top_alts : (V.alts l).top = .alts l := rfl
@[simp] theorem shift_alts : (V.alts l).shift k = .alts l := rfl
@[simp] theorem shift1_alts : (V.alts l).shift1 k = .alts l := rfl
@[simp] theorem elems_lit : (V.lit sz xs).elems = some (sz, xs) := rfl
@[simp] theorem elems_full : (V.full sz xs).elems = some (sz, xs) := rfl
@[simp] theorem elems_row : (V.row t sz xs).elems = some (sz, xs) := rfl
@[simp] theorem elems_val : (V.val v).elems = none := rfl
@[simp] theorem isNil_nil : (V.val (.slice none 0 0)).isNil = true := rfl
@[simp] theorem isNil_lit : (V.lit sz xs).isNil = false := rfl
@[simp] theorem isNil_full : (V.full sz xs).isNil = false := rfl
@[simp] theorem isNil_row : (V.row t sz xs).isNil = false := rfl
@[simp] theorem one_emp : (V.emp sz).one = true := rfl
@[simp] theorem cells_emp : (V.emp sz).cells = [.emp sz] := rfl
@[simp] theorem isObj_emp : isObj [.emp sz] = false := rfl
@[simp] theorem elems_emp : (V.emp sz).elems = some (sz, []) := rfl
@[simp] theorem isNil_emp : (V.emp sz).isNil = false := rfl
@[simp] theorem top1_emp : (V.emp sz).top1 = .lit sz [] := rfl
end

theorem clean_drop (n : Nat) : ∀ (l : List (List V)), cleanX l = true → cleanX (l.drop n) = true := by
  induction n with
  | zero => intro l h; exact h
  | succ n ih =>
    intro l h
    cases l with
    | nil => rfl
    | cons x l => simp only [cleanX, Bool.and_eq_true] at h; exact ih l h.2
theorem clean_take (n : Nat) : ∀ (l : List (List V)), cleanX l = true → cleanX (l.take n) = true := by
  induction n with
  | zero => intro l _; rfl
  | succ n ih =>
    intro l h
    cases l with
    | nil => rfl
    | cons x l => simp only [cleanX, Bool.and_eq_true] at h; simp only [List.take_succ_cons, cleanX, h.1, ih l h.2]; rfl
attribute [simp] V.isClean cleanL cleanX V.under underL underX

-- Two numbers.
def bitAnd (k : IntKind) (a b : Int) : Int := k.wrap (BitVec.ofInt k.bits a &&& BitVec.ofInt k.bits b).toNat
def bitOr (k : IntKind) (a b : Int) : Int := k.wrap (BitVec.ofInt k.bits a ||| BitVec.ofInt k.bits b).toNat
def bitXor (k : IntKind) (a b : Int) : Int := k.wrap (BitVec.ofInt k.bits a ^^^ BitVec.ofInt k.bits b).toNat
@[simp] theorem mxOk_none (s : Nat → V) (h : Int) : mxOk s none h = true := rfl
section
variable (k : IntKind) (a b : Int)
@[simp] theorem binV_feql (k : FloatKind) (a b : Nat) : binV .eql (.val (.float k a)) (.val (.float k b)) = some (.val (.bool (Op.floatEq k a b))) := by simp [binV]
@[simp] theorem binV_fneq (k : FloatKind) (a b : Nat) : binV .neq (.val (.float k a)) (.val (.float k b)) = some (.val (.bool (!Op.floatEq k a b))) := by simp [binV]
@[simp] theorem binV_ceql (k : FloatKind) (a b c d : Nat) : binV .eql (.val (.complex k a b)) (.val (.complex k c d)) = some (.val (.bool (Op.floatEq k a c && Op.floatEq k b d))) := by simp [binV]
@[simp] theorem binV_cneq (k : FloatKind) (a b c d : Nat) : binV .neq (.val (.complex k a b)) (.val (.complex k c d)) = some (.val (.bool (!(Op.floatEq k a c && Op.floatEq k b d)))) := by simp [binV]
@[simp] theorem binV_add : binV .add (.val (.int k a)) (.val (.int k b)) = some (.val (.int k (k.wrap (a + b)))) := by simp [binV]
@[simp] theorem binV_sub : binV .sub (.val (.int k a)) (.val (.int k b)) = some (.val (.int k (k.wrap (a - b)))) := by simp [binV]
@[simp] theorem binV_mul : binV .mul (.val (.int k a)) (.val (.int k b)) = some (.val (.int k (k.wrap (a * b)))) := by simp [binV]
@[simp] theorem binV_quo : binV .quo (.val (.int k a)) (.val (.int k b)) = if b ≠ 0 then some (.val (.int k (k.wrap (a.tdiv b)))) else none := by simp [binV]
@[simp] theorem binV_rem : binV .rem (.val (.int k a)) (.val (.int k b)) = if b ≠ 0 then some (.val (.int k (a.tmod b))) else none := by simp [binV]
@[simp] theorem binV_and : binV .and (.val (.int k a)) (.val (.int k b)) = some (.val (.int k (bitAnd k a b))) := by simp only [binV, if_true]; rfl
@[simp] theorem binV_or : binV .or (.val (.int k a)) (.val (.int k b)) = some (.val (.int k (bitOr k a b))) := by simp only [binV, if_true]; rfl
@[simp] theorem binV_xor : binV .xor (.val (.int k a)) (.val (.int k b)) = some (.val (.int k (bitXor k a b))) := by simp only [binV, if_true]; rfl
@[simp] theorem binV_eql : binV .eql (.val (.int k a)) (.val (.int k b)) = some (.val (.bool (decide (a = b)))) := by simp only [binV, if_true]; rfl
@[simp] theorem binV_neq : binV .neq (.val (.int k a)) (.val (.int k b)) = some (.val (.bool (!decide (a = b)))) := by simp only [binV, if_true]; rfl
@[simp] theorem binV_lss : binV .lss (.val (.int k a)) (.val (.int k b)) = some (.val (.bool (decide (a < b)))) := by simp [binV]
@[simp] theorem binV_leq : binV .leq (.val (.int k a)) (.val (.int k b)) = some (.val (.bool (decide (a ≤ b)))) := by simp [binV]
@[simp] theorem binV_gtr : binV .gtr (.val (.int k a)) (.val (.int k b)) = some (.val (.bool (decide (b < a)))) := by simp [binV]
@[simp] theorem binV_geq : binV .geq (.val (.int k a)) (.val (.int k b)) = some (.val (.bool (decide (b ≤ a)))) := by simp [binV]
@[simp] theorem binV_shl (k' : IntKind) : binV .shl (.val (.int k a)) (.val (.int k' b)) = if 0 ≤ b then some (.val (.int k (k.wrap (a * 2 ^ (min b.toNat k.bits))))) else none := by
  simp only [binV]
  by_cases h : b < 0
  · rw [if_pos h, if_neg (by omega)]
  · rw [if_neg h, if_pos (by omega)]
@[simp] theorem binV_shr (k' : IntKind) : binV .shr (.val (.int k a)) (.val (.int k' b)) = if 0 ≤ b then some (.val (.int k (a.fdiv (2 ^ (min b.toNat k.bits))))) else none := by
  simp only [binV]
  by_cases h : b < 0
  · rw [if_pos h, if_neg (by omega)]
  · rw [if_neg h, if_pos (by omega)]
end

/-- What is to be reckoned. -/
def NF {α : Sort _} (x : α) : α := x
@[simp] theorem NF_def {α : Sort _} (x : α) : NF x = x := Eq.trans rfl rfl
section
variable {q : Bool} {P : Program} {Y : YRel} {D : Orc} {s : Nat → V} {m : Mem} {Q : Exit → (Nat → V) → Mem → Prop} {a b c : C} {F : V → Mem → Prop} {Kt : (Nat → V) → Mem → Prop}
section
variable {α β : Type}
@[congr] theorem letW_congr {v v' : α} {F : α → Prop} (h : NF v = v') : letW v F = letW v' F := by rw [← h]; rfl
@[simp] theorem letW_def {v : α} {F : α → Prop} : letW v F = F v := Eq.trans rfl rfl
@[congr] theorem optW_congr {v v' : Option α} {F : α → Prop} (h : NF v = v') : optW v F = optW v' F := by rw [← h]; rfl
@[simp] theorem optW_some {v : α} {F : α → Prop} : optW (some v) F = F v := Eq.trans rfl rfl
@[simp] theorem optW_none {F : α → Prop} : optW none F = False := Eq.trans rfl rfl
@[simp] theorem optW_guard {c : Prop} [Decidable c] {x : Option α} {F : α → Prop} : optW (if c then x else none) F = (c ∧ optW x F) := by
  split
  · rename_i h; simp [h]
  · rename_i h; simp [h]
@[simp] theorem optW_map {x : Option β} {f : β → α} {F : α → Prop} : optW (x.map f) F = optW x fun y => F (f y) := by
  cases x <;> simp
theorem optW_get {l : List α} {i : Nat} {F : α → Prop} : optW l[i]? F = ∃ h : i < l.length, F l[i] := by
  by_cases h : i < l.length
  · rw [List.getElem?_eq_getElem h, optW_some]
    exact propext ⟨fun h' => ⟨h, h'⟩, fun ⟨_, h'⟩ => h'⟩
  · rw [List.getElem?_eq_none (by omega), optW_none]
    exact propext ⟨fun h' => h'.elim, fun ⟨h', _⟩ => h h'⟩
end
@[congr] theorem intW_congr {v v' : V} {F : IntKind → Int → Prop} (h : NF v = v') : intW v F = intW v' F := by rw [← h]; rfl
@[simp] theorem intW_val {k : IntKind} {n : Int} {F : IntKind → Int → Prop} : intW (.val (.int k n)) F = F k n := Eq.trans rfl rfl
@[congr] theorem boolW_congr {v v' : V} {F : Bool → Prop} (h : NF v = v') : boolW v F = boolW v' F := by rw [← h]; rfl
@[simp] theorem boolW_val {n : Bool} {F : Bool → Prop} : boolW (.val (.bool n)) F = F n := Eq.trans rfl rfl
@[congr] theorem strW_congr {v v' : V} {F : ByteArray → Prop} (h : NF v = v') : strW v F = strW v' F := by rw [← h]; rfl
@[simp] theorem strW_val {n : ByteArray} {F : ByteArray → Prop} : strW (.val (.string n)) F = F n := Eq.trans rfl rfl
@[congr] theorem tupW_congr {v v' : V} {F : List V → Prop} (h : NF v = v') : tupW v F = tupW v' F := by rw [← h]; rfl
@[simp] theorem tupW_tuple {l : List V} {F : List V → Prop} : tupW (.tuple l) F = F l := Eq.trans rfl rfl
@[congr] theorem aggW_congr {v v' : V} {F : List V → Prop} (h : NF v = v') : aggW v F = aggW v' F := by rw [← h]; rfl
@[simp] theorem aggW_agg {l : List V} {F : List V → Prop} : aggW (.agg l) F = F l := Eq.trans rfl rfl
@[congr] theorem ptrW_congr {v v' : V} {F : Nat → Nat → Prop} (h : NF v = v') : ptrW v F = ptrW v' F := by rw [← h]; rfl
@[simp] theorem ptrW_ptr {b o : Nat} {F : Nat → Nat → Prop} : ptrW (.ptr b o) F = F b o := Eq.trans rfl rfl
@[congr] theorem eptrW_congr {v v' : V} {F : List V → Prop} (h : NF v = v') : eptrW v F = eptrW v' F := by rw [← h]; rfl
@[simp] theorem eptrW_eptr {l : List V} {F : List V → Prop} : eptrW (.eptr l) F = F l := Eq.trans rfl rfl
@[congr] theorem fadW_congr {v v' : V} {off : Nat} {F : V → Prop} (h : NF v = v') : fadW v off F = fadW v' off F := by rw [← h]; rfl
@[simp] theorem fadW_ptr {b o off : Nat} {F : V → Prop} : fadW (.ptr b o) off F = letW (.ptr b (o + off)) F := Eq.trans rfl rfl
@[simp] theorem fadW_eptr {cs : List V} {off : Nat} {F : V → Prop} : fadW (.eptr cs) off F = letW (.eptr (cs.drop off)) F := Eq.trans rfl rfl
@[congr] theorem pickW_congr {c c' a b : V} {F : V → Prop} (h : NF c = c') : pickW c a b F = pickW c' a b F := by rw [← h]; rfl
@[simp] theorem pickW_true {a b : V} {F : V → Prop} : pickW (.val (.bool true)) a b F = letW a F := by simp [pickW, letW]
@[simp] theorem pickW_false {a b : V} {F : V → Prop} : pickW (.val (.bool false)) a b F = letW b F := by simp [pickW, letW]
theorem pickW_val {t : Bool} {a b : V} {F : V → Prop} : pickW (.val (.bool t)) a b F = ((t = true → letW a F) ∧ (t = false → letW b F)) := by simp [pickW, letW]
attribute [simp low] pickW_val
@[congr] theorem snilW_congr {v v' : V} {F : Bool → Prop} (h : NF v = v') : snilW v F = snilW v' F := by rw [← h]; rfl
@[simp] theorem snilW_nil {F : Bool → Prop} : snilW (.val (.slice none 0 0)) F = F true := Eq.trans rfl rfl
@[simp] theorem snilW_emp {z : Nat} {F : Bool → Prop} : snilW (.emp z) F = F false := Eq.trans rfl rfl
@[simp] theorem snilW_lit {z : Nat} {x : List V} {l : List (List V)} {F : Bool → Prop} : snilW (.lit z (x :: l)) F = F false := Eq.trans rfl rfl
@[simp] theorem snilW_full {z : Nat} {x : List V} {l : List (List V)} {F : Bool → Prop} : snilW (.full z (x :: l)) F = F false := Eq.trans rfl rfl
@[simp] theorem snilW_row {t z : Nat} {x : List V} {l : List (List V)} {F : Bool → Prop} : snilW (.row t z (x :: l)) F = F false := Eq.trans rfl rfl
@[congr] theorem elemsW_congr {v v' : V} {F : Nat → List (List V) → Prop} (h : NF v = v') : elemsW v F = elemsW v' F := by rw [← h]; rfl
@[simp] theorem elemsW_lit {z : Nat} {l : List (List V)} {F : Nat → List (List V) → Prop} : elemsW (.lit z l) F = F z l := Eq.trans rfl rfl
@[simp] theorem elemsW_full {z : Nat} {l : List (List V)} {F : Nat → List (List V) → Prop} : elemsW (.full z l) F = F z l := Eq.trans rfl rfl
@[simp] theorem elemsW_row {t z : Nat} {l : List (List V)} {F : Nat → List (List V) → Prop} : elemsW (.row t z l) F = F z l := Eq.trans rfl rfl
@[congr] theorem srcW_congr {v v' : V} {sz : Nat} {F : Bool → List (List V) → Prop} (h : NF v = v') : srcW v sz F = srcW v' sz F := by rw [← h]; rfl
section
variable {z sz t : Nat} {l : List (List V)} {F : Bool → List (List V) → Prop}
@[simp] theorem srcW_nil : srcW (.val (.slice none 0 0)) sz F = F true [] := Eq.trans rfl rfl
@[simp] theorem srcW_emp : srcW (.emp z) sz F = (z = sz ∧ F false []) := Eq.trans rfl rfl
@[simp] theorem srcW_lit : srcW (.lit z l) sz F = (z = sz ∧ F false l) := Eq.trans rfl rfl
@[simp] theorem srcW_full : srcW (.full z l) sz F = (z = sz ∧ F false l) := Eq.trans rfl rfl
@[simp] theorem srcW_row : srcW (.row t z l) sz F = (z = sz ∧ F false l) := Eq.trans rfl rfl
end
@[congr] theorem lenW_congr {v v' : V} {F : Int → Prop} (h : NF v = v') : lenW v F = lenW v' F := by rw [← h]; rfl
section
variable {z sz t : Nat} {l : List (List V)} {F : Int → Prop}
@[simp] theorem lenW_nil : lenW (.val (.slice none 0 0)) F = F 0 := Eq.trans rfl rfl
@[simp] theorem lenW_emp : lenW (.emp z) F = F 0 := Eq.trans rfl rfl
@[simp] theorem lenW_lit : lenW (.lit z l) F = letW (l.length : Int) F := Eq.trans rfl rfl
@[simp] theorem lenW_full : lenW (.full z l) F = letW (l.length : Int) F := Eq.trans rfl rfl
@[simp] theorem lenW_row : lenW (.row t z l) F = letW (l.length : Int) F := Eq.trans rfl rfl
@[simp ↓] theorem idxW_none {d : Int} : idxW s none d F = letW d F := Eq.trans rfl rfl
@[simp ↓] theorem idxW_some {d : Int} {x : X} : idxW s (some x) d F = intW (x.ev s) fun _ n => F n := Eq.trans rfl rfl
end
@[simp ↓] theorem newW_true {e sz : Nat} {xs : List (List V)} : newW true m e sz xs F = letW xs fun xs => letW ({ m with tips := m.tips ++ [(e, sz, xs.length)] } : Mem) fun m' => F (.row m.tips.length sz xs) m' := Eq.trans rfl rfl
@[simp ↓] theorem newW_false {e sz : Nat} {xs : List (List V)} : newW false m e sz xs F = letW xs fun xs => F (.lit sz xs) m := Eq.trans rfl rfl
@[congr] theorem appW_congr {v v' : V} {ys : List (List V)} {e sz bytes : Nat} {own : Bool} {m : Mem} (h : NF v = v') : appW v ys e sz bytes own m F = appW v' ys e sz bytes own m F := by rw [← h]; rfl
@[simp] theorem appW_row {t szx : Nat} {xs ys : List (List V)} {e sz bytes : Nat} {own : Bool} : appW (.row t szx xs) ys e sz bytes own m F = ((m.tips[t]? = some (e, sz, xs.length) ∧ szx = sz ∧ (xs.length + ys.length) * bytes ≤ 140737488355328) ∧ letW (xs ++ ys) fun zs => letW ({ m with tips := m.tips.set t (e, sz, zs.length) } : Mem) fun m' => F (.row t sz zs) m') := Eq.trans rfl rfl
@[simp] theorem appW_full {szx : Nat} {xs ys : List (List V)} {e sz bytes : Nat} {own : Bool} : appW (.full szx xs) ys e sz bytes own m F = ((ys = [] → F (.full szx xs) m) ∧ (ys ≠ [] → (szx = sz ∧ (xs.length + ys.length) * bytes ≤ 140737488355328) ∧ newW own m e sz (xs ++ ys) F)) := Eq.trans rfl rfl
@[simp] theorem appW_nil {ys : List (List V)} {e sz bytes : Nat} {own : Bool} : appW (.val (.slice none 0 0)) ys e sz bytes own m F = ((ys = [] → F (.val (.slice none 0 0)) m) ∧ (ys ≠ [] → ys.length * bytes ≤ 140737488355328 ∧ newW own m e sz ys F)) := Eq.trans rfl rfl
/-- A slice that is written. -/
def sliW (v : V) (F : Nat → Nat → Nat → Nat → Prop) : Prop := match v with
  | .ref (.sli off sz n) b => F off sz n b
  | _ => False
@[congr] theorem sliW_congr {v v' : V} {F : Nat → Nat → Nat → Nat → Prop} (h : NF v = v') : sliW v F = sliW v' F := by rw [← h]; rfl
@[simp] theorem sliW_sli {off sz n b : Nat} {F : Nat → Nat → Nat → Nat → Prop} : sliW (.ref (.sli off sz n) b) F = F off sz n b := Eq.trans rfl rfl
theorem frzW_eq (v : V) (m : Mem) (F : V → Mem → Prop) : goWp (memE .frz [v] m) F = sliW v fun off sz n b => optW m.boxes[b]? fun cs => (isObj cs = false ∧ off + n * sz ≤ cs.length) ∧ letW (.lit sz (chunkV sz n (cs.drop off))) fun v => letW { m with boxes := m.boxes.set b deadC } fun m' => F v m' := by
  cases v <;> try rfl
  rename_i k b
  cases k with
  | map => rfl
  | sli off sz n =>
    rw [sliW_sli]
    simp only [memE]
    cases m.boxes[b]? with
    | none => rfl
    | some cs =>
      simp only
      split
      · rename_i h; exact propext ⟨fun k => ⟨h, k⟩, fun k => k.2⟩
      · rename_i h; exact propext ⟨fun k => k.elim, fun k => h k.1⟩
theorem ixrW_eq (v u : V) (sz : Nat) (m : Mem) (F : V → Mem → Prop) : goWp (memE (.ixr sz) [v, u] m) F = sliW v fun off sz' n b => intW u fun _ i => (sz' = sz ∧ 0 ≤ i ∧ i < n) ∧ letW (.ptr b (off + i.toNat * sz)) fun v => F v m := by
  cases v <;> try rfl
  rename_i k b
  cases k with
  | map => rfl
  | sli off sz' n =>
    rw [sliW_sli]
    cases u <;> try rfl
    rename_i w
    cases w <;> try rfl
    simp only [memE]
    split
    · rename_i h; exact propext ⟨fun k => ⟨h, k⟩, fun k => k.2⟩
    · rename_i h; exact propext ⟨fun k => k.elim, fun k => h k.1⟩
theorem lnrW_eq (v : V) (m : Mem) (F : V → Mem → Prop) : goWp (memE .lnr [v] m) F = sliW v fun _ _ n _ => F (.val (.int .i64 n)) m := by
  cases v <;> try rfl
  rename_i k b
  cases k <;> rfl
def aggW2 (v : V) (F : List V → Prop) : Prop := match v with
  | .agg l => F l
  | _ => False
@[congr] theorem aggW2_congr {v v' : V} {F : List V → Prop} (h : NF v = v') : aggW2 v F = aggW2 v' F := by rw [← h]; rfl
@[simp] theorem aggW2_agg {l : List V} {F : List V → Prop} : aggW2 (.agg l) F = F l := Eq.trans rfl rfl
theorem aeqW_eq (v u : V) (ne : Bool) (ks : List IntKind) (m : Mem) (F : V → Mem → Prop) : goWp (memE (.aeq ne ks) [v, u] m) F = aggW2 v fun l1 => aggW2 u fun l2 => optW (intsOf ks l1) fun p => optW (intsOf ks l2) fun q => F (.val (.bool (if ne = true then !decide (p = q) else decide (p = q)))) m := by
  cases v <;> try rfl
  rename_i l1
  rw [aggW2_agg]
  cases u <;> try rfl
  rename_i l2
  rw [aggW2_agg]
  simp only [memE]
  cases intsOf ks l1 with
  | none => rfl
  | some p =>
    cases intsOf ks l2 with
    | none => rfl
    | some q => rfl
/-- A pointer that is none of none. -/
def nckW (v : V) (F : V → Prop) : Prop := match v with
  | .ptr b o => F (.ptr b o)
  | .eptr cs => F (.eptr cs)
  | _ => False
@[congr] theorem nckW_congr {v v' : V} {F : V → Prop} (h : NF v = v') : nckW v F = nckW v' F := by rw [← h]; rfl
@[simp] theorem nckW_ptr {b o : Nat} {F : V → Prop} : nckW (.ptr b o) F = F (.ptr b o) := Eq.trans rfl rfl
@[simp] theorem nckW_eptr {l : List V} {F : V → Prop} : nckW (.eptr l) F = F (.eptr l) := Eq.trans rfl rfl
theorem nckW_eq (v : V) (m : Mem) (F : V → Mem → Prop) : goWp (memE .nck [v] m) F = nckW v fun u => F u m := by cases v <;> rfl
theorem cvfW_eq (v : V) (k : FloatKind) (m : Mem) (F : V → Mem → Prop) : goWp (memE (.cvf k) [v] m) F = intW v fun _ n => F (.val (.float k (k.nearest n))) m := by
  cases v <;> try rfl
  rename_i w
  cases w <;> rfl
def fltW (v : V) (F : FloatKind → Nat → Prop) : Prop := match v with
  | .val (.float k n) => F k n
  | _ => False
@[congr] theorem fltW_congr {v v' : V} {F : FloatKind → Nat → Prop} (h : NF v = v') : fltW v F = fltW v' F := by rw [← h]; rfl
@[simp] theorem fltW_float {k : FloatKind} {n : Nat} {F : FloatKind → Nat → Prop} : fltW (.val (.float k n)) F = F k n := Eq.trans rfl rfl
def cpxW (v : V) (F : FloatKind → Nat → Nat → Prop) : Prop := match v with
  | .val (.complex k n j) => F k n j
  | _ => False
@[congr] theorem cpxW_congr {v v' : V} {F : FloatKind → Nat → Nat → Prop} (h : NF v = v') : cpxW v F = cpxW v' F := by rw [← h]; rfl
@[simp] theorem cpxW_complex {k : FloatKind} {n j : Nat} {F : FloatKind → Nat → Nat → Prop} : cpxW (.val (.complex k n j)) F = F k n j := Eq.trans rfl rfl
theorem cpxW_eq (v u : V) (m : Mem) (F : V → Mem → Prop) : goWp (memE .cpx [v, u] m) F = fltW v fun k a => fltW u fun k' b => k = k' ∧ F (.val (.complex k a b)) m := by
  cases v <;> try rfl
  rename_i w
  cases w <;> try rfl
  rename_i k a
  cases u <;> try rfl
  rename_i w
  cases w <;> try rfl
  rename_i k' b
  show goWp (memE .cpx [.val (.float k a), .val (.float k' b)] m) F = _
  simp only [memE]
  split
  · rename_i h; exact propext ⟨fun k => ⟨h, k⟩, fun k => k.2⟩
  · rename_i h; exact propext ⟨fun k => k.elim, fun k => h k.1⟩
theorem reiW_eq (v : V) (im : Bool) (m : Mem) (F : V → Mem → Prop) : goWp (memE (.rei im) [v] m) F = cpxW v fun k a b => F (.val (.float k (if im = true then b else a))) m := by
  cases v <;> try rfl
  rename_i w
  cases w <;> rfl
/-- Of nothing, to be appended to. -/
def empW (v : V) (F : Nat → Bool → Prop) : Prop := match v with
  | .val (.slice none 0 0) => F 0 true
  | .full sz [] => F sz false
  | _ => False
@[congr] theorem empW_congr {v v' : V} {F : Nat → Bool → Prop} (h : NF v = v') : empW v F = empW v' F := by rw [← h]; rfl
@[simp] theorem empW_nil {F : Nat → Bool → Prop} : empW (.val (.slice none 0 0)) F = F 0 true := Eq.trans rfl rfl
@[simp] theorem empW_full {sz : Nat} {F : Nat → Bool → Prop} : empW (.full sz []) F = F sz false := Eq.trans rfl rfl
theorem apbW_eq (v u : V) (e sz bytes : Nat) (m : Mem) (F : V → Mem → Prop) : goWp (memE (.apb e sz bytes) [v, u] m) F = empW v fun szx isn => elemsW u fun sz' ys => ((isn = true ∨ szx = sz) ∧ sz' = sz ∧ ys ≠ [] ∧ ys.length * bytes ≤ 140737488355328) ∧ letW { m with boxes := m.boxes ++ [ys.flatten] } fun m' => F (.ref (.sli 0 sz ys.length) m.boxes.length) m' := by
  have hel : ∀ (G : Nat → List (List V) → Prop), elemsW u G = match u.elems with
      | some (sz', ys) => G sz' ys
      | none => False := fun G => by cases u <;> rfl
  cases v <;> try rfl
  · rename_i w
    cases w <;> try rfl
    rename_i b n c
    cases b with
    | some b => rfl
    | none =>
      cases n with
      | succ n => rfl
      | zero =>
        cases c with
        | succ c => rfl
        | zero =>
          rw [empW_nil, hel]
          simp only [memE]
          cases u.elems with
          | none => rfl
          | some p =>
            simp only
            split
            · rename_i h; exact propext ⟨fun k => ⟨⟨.inl trivial, h⟩, k⟩, fun k => k.2⟩
            · rename_i h; exact propext ⟨fun k => k.elim, fun k => h k.1.2⟩
  · rename_i szx xs
    cases xs with
    | cons x xs => rfl
    | nil =>
      rw [empW_full, hel]
      simp only [memE]
      cases u.elems with
      | none => rfl
      | some p =>
        simp only
        split
        · rename_i h; exact propext ⟨fun k => ⟨⟨.inr h.1, h.2⟩, k⟩, fun k => k.2⟩
        · rename_i h; exact propext ⟨fun k => k.elim, fun k => h ⟨k.1.1.resolve_left (by simp), k.1.2⟩⟩
theorem mkbW_eq (v u : V) (e sz bytes : Nat) (z : List V) (m : Mem) (F : V → Mem → Prop) : goWp (memE (.mkb e sz bytes z) [v, u] m) F = intW v fun k a => intW u fun k' b => (k = .i64 ∧ k' = .i64 ∧ a = b ∧ 0 ≤ a ∧ a * bytes ≤ 140737488355328) ∧ letW { m with boxes := m.boxes ++ [(List.replicate a.toNat z).flatten] } fun m' => F (.ref (.sli 0 sz a.toNat) m.boxes.length) m' := by
  cases v <;> try rfl
  rename_i w
  cases w <;> try rfl
  rename_i k a
  cases u <;> try (cases k <;> rfl)
  rename_i w
  cases w <;> try (cases k <;> rfl)
  rename_i k' b
  show goWp (memE (.mkb e sz bytes z) [.val (.int k a), .val (.int k' b)] m) F = (_ ∧ _)
  cases k <;> cases k' <;> try exact propext ⟨fun h => h.elim, fun h => by simp at h⟩
  simp only [memE]
  split
  · rename_i h; exact propext ⟨fun k => ⟨⟨trivial, trivial, h⟩, k⟩, fun k => k.2⟩
  · rename_i h; exact propext ⟨fun k => k.elim, fun k => h k.1.2.2⟩
@[congr] theorem refW_congr {v v' : V} {m m' : Mem} {F : Nat → List (Int × V) → Prop} (h : NF v = v') (h2 : NF m = m') : refW v m F = refW v' m' F := by rw [← h, ← h2]; rfl
@[simp] theorem refW_map {b : Nat} {m : Mem} {F : Nat → List (Int × V) → Prop} : refW (.ref .map b) m F = optW ((m.boxes[b]?).bind mpO) fun kvs => F b kvs := Eq.trans rfl rfl
@[congr] theorem atW_congr {v v' : Option V} {F : V → Prop} {G : Prop} (h : NF v = v') : atW v F G = atW v' F G := by rw [← h]; rfl
@[simp] theorem atW_some {v : V} {F : V → Prop} {G : Prop} : atW (some v) F G = F v := Eq.trans rfl rfl
@[simp] theorem atW_none {F : V → Prop} {G : Prop} : atW none F G = G := Eq.trans rfl rfl
@[simp] theorem keepB_nil {s : Nat → V} {m m' : Mem} : keepB s m m' [] = True := rfl
@[simp] theorem keepB_cons {s : Nat → V} {m m' : Mem} {t : Nat} {r : List Nat} : keepB s m m' (t :: r) = ((match s t with | .ptr b _ => m'.boxes[b]? = m.boxes[b]? | _ => True) ∧ keepB s m m' r) := by
  refine propext (and_congr ⟨fun h => ?_, fun h b o e => ?_⟩ Iff.rfl)
  · split
    · rename_i b o e; exact h b o e
    · trivial
  · rw [e] at h; exact h
theorem mpE_map : ∀ kvs : List (Int × V), mpE (kvs.map fun p => .tuple [.val (.int .i64 p.1), p.2]) = some kvs
  | [] => rfl
  | p :: l => by simp [mpE, mpE_map l]
@[simp] theorem mpO_mpV (kvs : List (Int × V)) : mpO (mpV kvs) = some kvs := mpE_map kvs
@[simp] theorem mpAt_nil (q : Int) : mpAt [] q = none := rfl
@[simp] theorem mpAt_put (v : V) (q r : Int) : ∀ kvs, mpAt (mpPut kvs q v) r = if r = q then some v else mpAt kvs r
  | [] => by
    by_cases h : r = q
    · simp [mpPut, mpAt, h]
    · simp [mpPut, mpAt, h, Ne.symm h]
  | p :: l => by
    have ih := mpAt_put v q r l
    unfold mpPut
    by_cases hp : p.1 = q
    · rw [if_pos hp]
      by_cases h : r = q
      · simp [mpAt, h]
      · have : ¬ p.1 = r := fun e => h (e.symm.trans hp)
        simp [mpAt, h, Ne.symm h, this]
    · rw [if_neg hp]
      by_cases h : p.1 = r
      · have : ¬ r = q := fun e => hp (h.trans e)
        simp [mpAt, h, this]
      · rw [show mpAt (p :: mpPut l q v) r = mpAt (mpPut l q v) r by simp [mpAt, h], ih, show mpAt (p :: l) r = mpAt l r by simp [mpAt, h]]
@[congr] theorem goWp_congr {x x' : Option (V × Mem)} (h : NF x = x') : goWp x F = goWp x' F := by rw [← h]; rfl
@[simp] theorem goWp_some (v : V) (m : Mem) : goWp (some (v, m)) F = F v m := Eq.trans rfl rfl
@[simp] theorem goWp_none : goWp none F = False := Eq.trans rfl rfl
@[simp] theorem goWp_guard {c : Prop} [Decidable c] {x : Option (V × Mem)} : goWp (if c then x else none) F = (c ∧ goWp x F) := by
  split
  · rename_i h; simp [h]
  · rename_i h; simp [h]
theorem goWp_ite {c : Prop} [Decidable c] {x y : Option (V × Mem)} : goWp (if c then x else y) F = ((c → goWp x F) ∧ (¬ c → goWp y F)) := by
  split
  · rename_i h; simp [h]
  · rename_i h; simp [h]
@[simp] theorem goWp_ite2 {c : Prop} [Decidable c] {x y : V × Mem} : goWp (if c then some x else some y) F = ((c → goWp (some x) F) ∧ (¬ c → goWp (some y) F)) := goWp_ite
@[simp] theorem map_guard {α β : Type} {c : Prop} [Decidable c] {x : Option α} {f : α → β} : Option.map f (if c then x else none) = if c then Option.map f x else none := by split <;> rfl
@[simp] theorem bind_guard {α β : Type} {c : Prop} [Decidable c] {x : Option α} {f : α → Option β} : Option.bind (if c then x else none) f = if c then Option.bind x f else none := by split <;> rfl
@[simp] theorem goWp_map {α : Type} (x : Option α) (f : α → V × Mem) : goWp (x.map f) F = ∃ y, x = some y ∧ F (f y).1 (f y).2 := by
  cases x with
  | none => simp
  | some y => simp [goWp]
@[congr] theorem pureW_congr {x x' : Option (V × List Tip)} (h : NF x = x') : pureW x q m F = pureW x' q m F := by rw [← h]; rfl
@[simp] theorem pureW_some (v : V) (tips : List Tip) : pureW (some (v, tips)) false m F = letW (v.shift m.tips.length) fun v => letW (m.more tips) fun m' => F v m' := Eq.trans rfl rfl
@[simp] theorem pureW_quiet (v : V) (tips : List Tip) : pureW (some (v, tips)) true m F = (v.top.isClean = true ∧ letW v.top fun v => F v m) := Eq.trans rfl rfl
@[simp] theorem pureW_none : pureW none q m F = False := Eq.trans rfl rfl
@[simp] theorem pureW_guard {c : Prop} [Decidable c] {x : Option (V × List Tip)} : pureW (if c then x else none) q m F = (c ∧ pureW x q m F) := by
  split
  · rename_i h; simp [h]
  · rename_i h; simp [h]
@[simp] theorem pureW_ite2 {c : Prop} [Decidable c] {x y : V × List Tip} : pureW (if c then some x else some y) q m F = ((c → pureW (some x) q m F) ∧ (¬ c → pureW (some y) q m F)) := by
  split
  · rename_i h; simp [h]
  · rename_i h; simp [h]
@[simp] theorem more_nil : m.more [] = m := rfl
@[simp] theorem more_cons {t : Tip} {l : List Tip} : m.more (t :: l) = { m with tips := m.tips ++ t :: l } := rfl
@[congr] theorem callvW_congr {x x' : V} {args : List V} (h : NF x = x') : callvW q Y D x args m F = callvW q Y D x' args m F := by rw [← h]; rfl
@[simp] theorem callvW_func {f : FuncId} {cap args : List V} : callvW q Y D (.func f cap) args m F = callW D q f (args ++ cap) m F := Eq.trans rfl rfl
@[simp] theorem callvW_yld {b : Nat} {args : List V} : callvW q Y D (.yld b) args m F = (q = false ∧ ∃ v' m', Y b args m v' m' ∧ F v' m') := Eq.trans rfl rfl
@[congr] theorem condG_congr {v v' : V} {w : Bool} {A B C : Prop} (h : NF v = v') : condG v w A B C = condG v' w A B C := by rw [← h]; rfl
@[simp] theorem condG_tt {A B C : Prop} : condG (.val (.bool true)) true A B C = A := by simp [condG]
@[simp] theorem condG_ft {A B C : Prop} : condG (.val (.bool false)) true A B C = B := by simp [condG]
@[simp] theorem condG_tf {A B C : Prop} : condG (.val (.bool true)) false A B C = B := by simp [condG]
@[simp] theorem condG_ff {A B C : Prop} : condG (.val (.bool false)) false A B C = A := by simp [condG]
@[simp] theorem condG_un {w : Bool} {A B C : Prop} : condG (.tuple []) w A B C = C := Eq.trans rfl rfl
theorem condG_t {t : Bool} {A B C : Prop} : condG (.val (.bool t)) true A B C = ((t = true → A) ∧ (t = false → B)) := by simp [condG]
theorem condG_f {t : Bool} {A B C : Prop} : condG (.val (.bool t)) false A B C = ((t = false → A) ∧ (t = true → B)) := by simp [condG]
attribute [simp low] condG_t condG_f
@[congr] theorem condW_congr {v v' : V} {A B : Prop} (h : NF v = v') : condW v A B = condW v' A B := by rw [← h]; rfl
@[simp] theorem condW_true {A B : Prop} : condW (.val (.bool true)) A B = A := by simp [condW]
@[simp] theorem condW_false {A B : Prop} : condW (.val (.bool false)) A B = B := by simp [condW]
theorem condW_val {t : Bool} {A B : Prop} : condW (.val (.bool t)) A B = ((t = true → A) ∧ (t = false → B)) := Eq.trans rfl rfl
attribute [simp low] condW_val

@[simp ↓] theorem wp_skip : wp P Y D .skip s m Q = Q .normal s m := Eq.trans rfl rfl
@[simp ↓] theorem wp_ret : wp P Y D .ret s m Q = Q .ret s m := Eq.trans rfl rfl
@[simp ↓] theorem wp_exit {id : Nat} : wp P Y D (.exit id) s m Q = Q (.exit id) s m := Eq.trans rfl rfl
@[simp ↓] theorem wp_goto {l : Nat} : wp P Y D (.goto l) s m Q = Q (.goto l) s m := Eq.trans rfl rfl
@[simp ↓] theorem wp_label {l : Nat} : wp P Y D (.label l) s m Q = Q .normal s m := Eq.trans rfl rfl
@[simp ↓] theorem wp_dead : wp P Y D .dead s m Q = False := Eq.trans rfl rfl
@[simp ↓] theorem wp_ops {l : List O} : wp P Y D (.ops l) s m Q = runO false Y D l s m (Q .normal) := Eq.trans rfl rfl
@[simp ↓] theorem wp_dops {sp : List (Nat × Nat)} {l : List O} : wp P Y D (.dops q sp l) s m Q = runO q Y D l s m fun s' m' => sepAll s' sp ∧ Q .normal s' m' := Eq.trans rfl rfl
@[simp ↓] theorem wp_seq : wp P Y D (.seq a b) s m Q = wp P Y D a s m (seqQ (fun s' m' => wp P Y D b s' m' Q) Q) := Eq.trans rfl rfl
@[simp ↓] theorem wp_cond {x : X} : wp P Y D (.cond x a b) s m Q = condW (x.ev s) (wp P Y D a s m Q) (wp P Y D b s m Q) := Eq.trans rfl rfl
@[simp ↓] theorem wp_block {id : Nat} : wp P Y D (.block id c) s m Q = wp P Y D c s m (blockQ id Q) := Eq.trans rfl rfl
@[simp ↓] theorem wp_scope : wp P Y D (.scope c) s m Q = wp P Y D c s m (scopeQ Q) := Eq.trans rfl rfl
section
variable {al : FuncId → Bool}
@[simp ↓] theorem wpA_skip : wpA al P Y D .skip s m Q = Q .normal s m := Eq.trans rfl rfl
@[simp ↓] theorem wpA_ret : wpA al P Y D .ret s m Q = Q .ret s m := Eq.trans rfl rfl
@[simp ↓] theorem wpA_exit {id : Nat} : wpA al P Y D (.exit id) s m Q = Q (.exit id) s m := Eq.trans rfl rfl
@[simp ↓] theorem wpA_goto {l : Nat} : wpA al P Y D (.goto l) s m Q = Q (.goto l) s m := Eq.trans rfl rfl
@[simp ↓] theorem wpA_label {l : Nat} : wpA al P Y D (.label l) s m Q = Q .normal s m := Eq.trans rfl rfl
@[simp ↓] theorem wpA_dead : wpA al P Y D .dead s m Q = False := Eq.trans rfl rfl
@[simp ↓] theorem wpA_ops {l : List O} : wpA al P Y D (.ops l) s m Q = runS al Y D l s m (Q .normal) := Eq.trans rfl rfl
@[simp ↓] theorem wpA_dops {sp : List (Nat × Nat)} {l : List O} : wpA al P Y D (.dops q sp l) s m Q = runO q Y D l s m fun s' m' => sepAll s' sp ∧ Q .normal s' m' := Eq.trans rfl rfl
@[simp ↓] theorem wpA_seq : wpA al P Y D (.seq a b) s m Q = wpA al P Y D a s m (seqQ (fun s' m' => wpA al P Y D b s' m' Q) Q) := Eq.trans rfl rfl
@[simp ↓] theorem wpA_cond {x : X} : wpA al P Y D (.cond x a b) s m Q = condW (x.ev s) (wpA al P Y D a s m Q) (wpA al P Y D b s m Q) := Eq.trans rfl rfl
@[simp ↓] theorem wpA_block {id : Nat} : wpA al P Y D (.block id c) s m Q = wpA al P Y D c s m (blockQ id Q) := Eq.trans rfl rfl
@[simp ↓] theorem wpA_scope : wpA al P Y D (.scope c) s m Q = wpA al P Y D c s m (scopeQ Q) := Eq.trans rfl rfl
@[simp ↓] theorem runS_nil : runS al Y D [] s m Kt = Kt s m := Eq.trans rfl rfl
theorem runS_cons {d : Option Nat} {k : K} {r : List O} (h : k.alt al = false) : runS al Y D (⟨d, none, k⟩ :: r) s m Kt = kW false Y D k s m fun v m' => runS al Y D r (put d v s) m' Kt := by
  show (kW false Y D k s m fun v m' => if k.alt al = true ∧ d.isSome = true then altW v fun u => runS al Y D r (put d u s) m' Kt else runS al Y D r (put d v s) m' Kt) = _
  simp [h]
theorem runS_alt {d : Nat} {f : FuncId} {xs : List X} {r : List O} (h : al f = true) : runS al Y D (⟨some d, none, .call f xs⟩ :: r) s m Kt = kW false Y D (.call f xs) s m fun v m' => altW v fun u => runS al Y D r (put (some d) u s) m' Kt := by
  show (kW false Y D (.call f xs) s m fun v m' => if al f = true ∧ true = true then altW v fun u => runS al Y D r (put (some d) u s) m' Kt else runS al Y D r (put (some d) v s) m' Kt) = _
  simp [h]
@[simp ↓] theorem runS_consG {d : Option Nat} {g : Nat} {w : Bool} {k : K} {r : List O} : runS al Y D (⟨d, some (g, w), k⟩ :: r) s m Kt = condG (s g) w
      (kW false Y D k (put (some g) (.val (.bool w)) s) m fun v m' => runS al Y D r (put d v (put (some g) (.val (.bool w)) s)) m' Kt)
      (runS al Y D r (put d (.tuple []) (put (some g) (.val (.bool (!w))) s)) m Kt)
      (runS al Y D r (put d (.tuple []) s) m Kt) := Eq.trans rfl rfl
@[congr] theorem altW_congr {v v' : V} {F : V → Prop} (h : NF v = v') : altW v F = altW v' F := by rw [← h]; rfl
@[simp] theorem altW_alts {l : List V} {F : V → Prop} : altW (.alts l) F = ∀ u ∈ l, F u := Eq.trans rfl rfl
@[simp ↓] theorem runSk_mov {d : Option Nat} {r : List O} {a0} : runS al Y D (⟨d, none, (.mov a0)⟩ :: r) s m Kt = kW false Y D (.mov a0) s m fun v m' => runS al Y D r (put d v s) m' Kt := runS_cons rfl
@[simp ↓] theorem runSk_pick {d : Option Nat} {r : List O} {a0 a1 a2} : runS al Y D (⟨d, none, (.pick a0 a1 a2)⟩ :: r) s m Kt = kW false Y D (.pick a0 a1 a2) s m fun v m' => runS al Y D r (put d v s) m' Kt := runS_cons rfl
@[simp ↓] theorem runSk_bin {d : Option Nat} {r : List O} {a0 a1 a2} : runS al Y D (⟨d, none, (.bin a0 a1 a2)⟩ :: r) s m Kt = kW false Y D (.bin a0 a1 a2) s m fun v m' => runS al Y D r (put d v s) m' Kt := runS_cons rfl
@[simp ↓] theorem runSk_beq {d : Option Nat} {r : List O} {a0 a1 a2} : runS al Y D (⟨d, none, (.beq a0 a1 a2)⟩ :: r) s m Kt = kW false Y D (.beq a0 a1 a2) s m fun v m' => runS al Y D r (put d v s) m' Kt := runS_cons rfl
@[simp ↓] theorem runSk_snil {d : Option Nat} {r : List O} {a0 a1} : runS al Y D (⟨d, none, (.snil a0 a1)⟩ :: r) s m Kt = kW false Y D (.snil a0 a1) s m fun v m' => runS al Y D r (put d v s) m' Kt := runS_cons rfl
@[simp ↓] theorem runSk_un {d : Option Nat} {r : List O} {a0 a1} : runS al Y D (⟨d, none, (.un a0 a1)⟩ :: r) s m Kt = kW false Y D (.un a0 a1) s m fun v m' => runS al Y D r (put d v s) m' Kt := runS_cons rfl
@[simp ↓] theorem runSk_conv {d : Option Nat} {r : List O} {a0 a1} : runS al Y D (⟨d, none, (.conv a0 a1)⟩ :: r) s m Kt = kW false Y D (.conv a0 a1) s m fun v m' => runS al Y D r (put d v s) m' Kt := runS_cons rfl
@[simp ↓] theorem runSk_ext {d : Option Nat} {r : List O} {a0 a1} : runS al Y D (⟨d, none, (.ext a0 a1)⟩ :: r) s m Kt = kW false Y D (.ext a0 a1) s m fun v m' => runS al Y D r (put d v s) m' Kt := runS_cons rfl
@[simp ↓] theorem runSk_fad {d : Option Nat} {r : List O} {a0 a1} : runS al Y D (⟨d, none, (.fad a0 a1)⟩ :: r) s m Kt = kW false Y D (.fad a0 a1) s m fun v m' => runS al Y D r (put d v s) m' Kt := runS_cons rfl
@[simp ↓] theorem runSk_ld {d : Option Nat} {r : List O} {a0 a1} : runS al Y D (⟨d, none, (.ld a0 a1)⟩ :: r) s m Kt = kW false Y D (.ld a0 a1) s m fun v m' => runS al Y D r (put d v s) m' Kt := runS_cons rfl
@[simp ↓] theorem runSk_lde {d : Option Nat} {r : List O} {a0 a1} : runS al Y D (⟨d, none, (.lde a0 a1)⟩ :: r) s m Kt = kW false Y D (.lde a0 a1) s m fun v m' => runS al Y D r (put d v s) m' Kt := runS_cons rfl
@[simp ↓] theorem runSk_st {d : Option Nat} {r : List O} {a0 a1 a2} : runS al Y D (⟨d, none, (.st a0 a1 a2)⟩ :: r) s m Kt = kW false Y D (.st a0 a1 a2) s m fun v m' => runS al Y D r (put d v s) m' Kt := runS_cons rfl
@[simp ↓] theorem runSk_ixs {d : Option Nat} {r : List O} {a0 a1 a2} : runS al Y D (⟨d, none, (.ixs a0 a1 a2)⟩ :: r) s m Kt = kW false Y D (.ixs a0 a1 a2) s m fun v m' => runS al Y D r (put d v s) m' Kt := runS_cons rfl
@[simp ↓] theorem runSk_ixa {d : Option Nat} {r : List O} {a0 a1 a2 a3} : runS al Y D (⟨d, none, (.ixa a0 a1 a2 a3)⟩ :: r) s m Kt = kW false Y D (.ixa a0 a1 a2 a3) s m fun v m' => runS al Y D r (put d v s) m' Kt := runS_cons rfl
@[simp ↓] theorem runSk_fld {d : Option Nat} {r : List O} {a0 a1 a2} : runS al Y D (⟨d, none, (.fld a0 a1 a2)⟩ :: r) s m Kt = kW false Y D (.fld a0 a1 a2) s m fun v m' => runS al Y D r (put d v s) m' Kt := runS_cons rfl
@[simp ↓] theorem runSk_slc {d : Option Nat} {r : List O} {a0 a1 a2 a3 a4} : runS al Y D (⟨d, none, (.slc a0 a1 a2 a3 a4)⟩ :: r) s m Kt = kW false Y D (.slc a0 a1 a2 a3 a4) s m fun v m' => runS al Y D r (put d v s) m' Kt := runS_cons rfl
@[simp ↓] theorem runSk_len {d : Option Nat} {r : List O} {a0} : runS al Y D (⟨d, none, (.len a0)⟩ :: r) s m Kt = kW false Y D (.len a0) s m fun v m' => runS al Y D r (put d v s) m' Kt := runS_cons rfl
@[simp ↓] theorem runSk_slen {d : Option Nat} {r : List O} {a0} : runS al Y D (⟨d, none, (.slen a0)⟩ :: r) s m Kt = kW false Y D (.slen a0) s m fun v m' => runS al Y D r (put d v s) m' Kt := runS_cons rfl
@[simp ↓] theorem runSk_mm {d : Option Nat} {r : List O} {a0 a1 a2} : runS al Y D (⟨d, none, (.mm a0 a1 a2)⟩ :: r) s m Kt = kW false Y D (.mm a0 a1 a2) s m fun v m' => runS al Y D r (put d v s) m' Kt := runS_cons rfl
@[simp ↓] theorem runSk_box {d : Option Nat} {r : List O} {a0} : runS al Y D (⟨d, none, (.box a0)⟩ :: r) s m Kt = kW false Y D (.box a0) s m fun v m' => runS al Y D r (put d v s) m' Kt := runS_cons rfl
@[simp ↓] theorem runSk_alc {d : Option Nat} {r : List O} {a0} : runS al Y D (⟨d, none, (.alc a0)⟩ :: r) s m Kt = kW false Y D (.alc a0) s m fun v m' => runS al Y D r (put d v s) m' Kt := runS_cons rfl
@[simp ↓] theorem runSk_alr {d : Option Nat} {r : List O} {a0 a1} : runS al Y D (⟨d, none, (.alr a0 a1)⟩ :: r) s m Kt = kW false Y D (.alr a0 a1) s m fun v m' => runS al Y D r (put d v s) m' Kt := runS_cons rfl
@[simp ↓] theorem runSk_nil {d : Option Nat} {r : List O} {a0 a1 a2} : runS al Y D (⟨d, none, (.nil a0 a1 a2)⟩ :: r) s m Kt = kW false Y D (.nil a0 a1 a2) s m fun v m' => runS al Y D r (put d v s) m' Kt := runS_cons rfl
@[simp ↓] theorem runSk_bld {d : Option Nat} {r : List O} {a0 a1} : runS al Y D (⟨d, none, (.bld a0 a1)⟩ :: r) s m Kt = kW false Y D (.bld a0 a1) s m fun v m' => runS al Y D r (put d v s) m' Kt := runS_cons rfl
@[simp ↓] theorem runSk_mkl {d : Option Nat} {r : List O} {a0 a1 a2 a3} : runS al Y D (⟨d, none, (.mkl a0 a1 a2 a3)⟩ :: r) s m Kt = kW false Y D (.mkl a0 a1 a2 a3) s m fun v m' => runS al Y D r (put d v s) m' Kt := runS_cons rfl
@[simp ↓] theorem runSk_app {d : Option Nat} {r : List O} {a0 a1 a2 a3 a4 a5} : runS al Y D (⟨d, none, (.app a0 a1 a2 a3 a4 a5)⟩ :: r) s m Kt = kW false Y D (.app a0 a1 a2 a3 a4 a5) s m fun v m' => runS al Y D r (put d v s) m' Kt := runS_cons rfl
@[simp ↓] theorem runSk_mks {d : Option Nat} {r : List O} {a0 a1 a2 a3 a4 a5 a6} : runS al Y D (⟨d, none, (.mks a0 a1 a2 a3 a4 a5 a6)⟩ :: r) s m Kt = kW false Y D (.mks a0 a1 a2 a3 a4 a5 a6) s m fun v m' => runS al Y D r (put d v s) m' Kt := runS_cons rfl
@[simp ↓] theorem runSk_mkf {d : Option Nat} {r : List O} {a0 a1} : runS al Y D (⟨d, none, (.mkf a0 a1)⟩ :: r) s m Kt = kW false Y D (.mkf a0 a1) s m fun v m' => runS al Y D r (put d v s) m' Kt := runS_cons rfl
@[simp ↓] theorem runSk_b2s {d : Option Nat} {r : List O} {a0} : runS al Y D (⟨d, none, (.b2s a0)⟩ :: r) s m Kt = kW false Y D (.b2s a0) s m fun v m' => runS al Y D r (put d v s) m' Kt := runS_cons rfl
@[simp ↓] theorem runSk_sidx {d : Option Nat} {r : List O} {a0 a1} : runS al Y D (⟨d, none, (.sidx a0 a1)⟩ :: r) s m Kt = kW false Y D (.sidx a0 a1) s m fun v m' => runS al Y D r (put d v s) m' Kt := runS_cons rfl
@[simp ↓] theorem runSk_srg {d : Option Nat} {r : List O} {a0} : runS al Y D (⟨d, none, (.srg a0)⟩ :: r) s m Kt = kW false Y D (.srg a0) s m fun v m' => runS al Y D r (put d v s) m' Kt := runS_cons rfl
@[simp ↓] theorem runSk_snx {d : Option Nat} {r : List O} {a0} : runS al Y D (⟨d, none, (.snx a0)⟩ :: r) s m Kt = kW false Y D (.snx a0) s m fun v m' => runS al Y D r (put d v s) m' Kt := runS_cons rfl
@[simp ↓] theorem runSk_mkm {d : Option Nat} {r : List O} : runS al Y D (⟨d, none, .mkm⟩ :: r) s m Kt = kW false Y D .mkm s m fun v m' => runS al Y D r (put d v s) m' Kt := runS_cons rfl
@[simp ↓] theorem runSk_mup {d : Option Nat} {r : List O} {a0 a1 a2} : runS al Y D (⟨d, none, (.mup a0 a1 a2)⟩ :: r) s m Kt = kW false Y D (.mup a0 a1 a2) s m fun v m' => runS al Y D r (put d v s) m' Kt := runS_cons rfl
@[simp ↓] theorem runSk_mlk {d : Option Nat} {r : List O} {a0 a1 a2 a3} : runS al Y D (⟨d, none, (.mlk a0 a1 a2 a3)⟩ :: r) s m Kt = kW false Y D (.mlk a0 a1 a2 a3) s m fun v m' => runS al Y D r (put d v s) m' Kt := runS_cons rfl
@[simp ↓] theorem runSk_mem {d : Option Nat} {r : List O} {a0 a1} : runS al Y D (⟨d, none, (.mem a0 a1)⟩ :: r) s m Kt = kW false Y D (.mem a0 a1) s m fun v m' => runS al Y D r (put d v s) m' Kt := runS_cons rfl
@[simp ↓] theorem runSk_dead {d : Option Nat} {r : List O} : runS al Y D (⟨d, none, .dead⟩ :: r) s m Kt = kW false Y D .dead s m fun v m' => runS al Y D r (put d v s) m' Kt := runS_cons rfl
@[simp ↓] theorem runSk_callq {d : Option Nat} {r : List O} {a0 a1} : runS al Y D (⟨d, none, (.callq a0 a1)⟩ :: r) s m Kt = kW false Y D (.callq a0 a1) s m fun v m' => runS al Y D r (put d v s) m' Kt := runS_cons rfl
@[simp ↓] theorem runSk_callv {d : Option Nat} {r : List O} {a0 a1} : runS al Y D (⟨d, none, (.callv a0 a1)⟩ :: r) s m Kt = kW false Y D (.callv a0 a1) s m fun v m' => runS al Y D r (put d v s) m' Kt := runS_cons rfl
@[simp ↓] theorem runSk_callf {d : Option Nat} {r : List O} {a0 a1 a2} : runS al Y D (⟨d, none, (.callf a0 a1 a2)⟩ :: r) s m Kt = kW false Y D (.callf a0 a1 a2) s m fun v m' => runS al Y D r (put d v s) m' Kt := runS_cons rfl
@[simp ↓] theorem runSk_callr {d : Option Nat} {r : List O} {a0 a1} : runS al Y D (⟨d, none, (.callr a0 a1)⟩ :: r) s m Kt = kW false Y D (.callr a0 a1) s m fun v m' => runS al Y D r (put d v s) m' Kt := runS_cons rfl
@[simp ↓] theorem runS_call {d : Nat} {f : FuncId} {xs : List X} {r : List O} : runS al Y D (⟨some d, none, .call f xs⟩ :: r) s m Kt = if al f = true then (kW false Y D (.call f xs) s m fun v m' => altW v fun u => runS al Y D r (put (some d) u s) m' Kt) else (kW false Y D (.call f xs) s m fun v m' => runS al Y D r (put (some d) v s) m' Kt) := by
  split
  · rename_i h; exact runS_alt h
  · rename_i h; exact runS_cons (by show al f = false; simpa using h)
end
@[simp ↓] theorem runO_nil : runO q Y D [] s m Kt = Kt s m := Eq.trans rfl rfl
@[simp ↓] theorem runO_cons {d : Option Nat} {k : K} {r : List O} : runO q Y D (⟨d, none, k⟩ :: r) s m Kt = kW q Y D k s m fun v m' => runO q Y D r (put d v s) m' Kt := Eq.trans rfl rfl
@[simp ↓] theorem runO_consG {d : Option Nat} {g : Nat} {w : Bool} {k : K} {r : List O} : runO q Y D (⟨d, some (g, w), k⟩ :: r) s m Kt = condG (s g) w
      (kW q Y D k (put (some g) (.val (.bool w)) s) m fun v m' => runO q Y D r (put d v (put (some g) (.val (.bool w)) s)) m' Kt)
      (runO q Y D r (put d (.tuple []) (put (some g) (.val (.bool (!w))) s)) m Kt)
      (runO q Y D r (put d (.tuple []) s) m Kt) := Eq.trans rfl rfl
@[simp ↓] theorem seqQ_normal {W : (Nat → V) → Mem → Prop} : seqQ W Q .normal s m = W s m := Eq.trans rfl rfl
@[simp ↓] theorem seqQ_ret {W : (Nat → V) → Mem → Prop} : seqQ W Q .ret s m = Q .ret s m := Eq.trans rfl rfl
@[simp ↓] theorem seqQ_exit {W : (Nat → V) → Mem → Prop} {i : Nat} : seqQ W Q (.exit i) s m = Q (.exit i) s m := Eq.trans rfl rfl
@[simp ↓] theorem seqQ_goto {W : (Nat → V) → Mem → Prop} {i : Nat} : seqQ W Q (.goto i) s m = Q (.goto i) s m := Eq.trans rfl rfl
@[simp ↓] theorem blockQ_normal {id : Nat} : blockQ id Q .normal s m = Q .normal s m := Eq.trans rfl rfl
@[simp ↓] theorem blockQ_ret {id : Nat} : blockQ id Q .ret s m = Q .ret s m := Eq.trans rfl rfl
@[simp ↓] theorem blockQ_goto {id i : Nat} : blockQ id Q (.goto i) s m = Q (.goto i) s m := Eq.trans rfl rfl
@[simp ↓] theorem blockQ_exit {id i : Nat} : blockQ id Q (.exit i) s m = if i = id then Q .normal s m else Q (.exit i) s m := Eq.trans rfl rfl
@[simp ↓] theorem scopeQ_normal : scopeQ Q .normal s m = Q .normal s m := Eq.trans rfl rfl
@[simp ↓] theorem scopeQ_ret : scopeQ Q .ret s m = Q .ret s m := Eq.trans rfl rfl
@[simp ↓] theorem scopeQ_exit {i : Nat} : scopeQ Q (.exit i) s m = Q (.exit i) s m := Eq.trans rfl rfl
@[simp ↓] theorem scopeQ_goto {i : Nat} : scopeQ Q (.goto i) s m = False := Eq.trans rfl rfl
section
variable {I : Nat → (Nat → V) → Mem → Prop} {k i l : Nat} {J : (Nat → V) → Mem → Prop}
@[simp ↓] theorem loopQ_normal : loopQ I k Q .normal s m = ∃ j, j < k ∧ IW (I j) s m := Eq.trans rfl rfl
@[simp ↓] theorem loopQ_ret : loopQ I k Q .ret s m = Q .ret s m := Eq.trans rfl rfl
@[simp ↓] theorem loopQ_exit : loopQ I k Q (.exit i) s m = Q (.exit i) s m := Eq.trans rfl rfl
@[simp ↓] theorem loopQ_goto : loopQ I k Q (.goto i) s m = Q (.goto i) s m := Eq.trans rfl rfl
@[simp ↓] theorem jumpQ_goto : jumpQ l J Q (.goto i) s m = (i = l ∧ J s m) := Eq.trans rfl rfl
@[simp ↓] theorem jumpQ_normal : jumpQ l J Q .normal s m = Q .normal s m := Eq.trans rfl rfl
@[simp ↓] theorem jumpQ_ret : jumpQ l J Q .ret s m = Q .ret s m := Eq.trans rfl rfl
@[simp ↓] theorem jumpQ_exit : jumpQ l J Q (.exit i) s m = Q (.exit i) s m := Eq.trans rfl rfl
end
@[simp ↓] theorem wpG_wp : wpG (runO false Y D) P Y D c s m Q = wp P Y D c s m Q := Eq.trans rfl rfl
@[simp ↓] theorem wpG_wpA {al : FuncId → Bool} : wpG (runS al Y D) P Y D c s m Q = wpA al P Y D c s m Q := Eq.trans rfl rfl
/-- A loop, by what holds at each round, and a number that falls. -/
theorem wp_loop (I : Nat → (Nat → V) → Mem → Prop) (k : Nat) (h : IW (I k) s m) (hr : ∀ k s m, I k s m → wp P Y D c s m (loopQ I k Q)) : wp P Y D (.loop c) s m Q := ⟨I, ⟨k, h⟩, hr⟩
theorem wpA_loop {al : FuncId → Bool} (I : Nat → (Nat → V) → Mem → Prop) (k : Nat) (h : IW (I k) s m) (hr : ∀ k s m, I k s m → wpA al P Y D c s m (loopQ I k Q)) : wpA al P Y D (.loop c) s m Q := ⟨I, ⟨k, h⟩, hr⟩
/-- Jumps back to a label, by what holds at each, and a number that falls. -/
theorem wp_jumps {l : Nat} {r : C} (J : Nat → (Nat → V) → Mem → Prop) (h1 : wp P Y D c s m (jumpQ l (fun s m => ∃ k, IW (J k) s m) Q)) (h2 : ∀ k s m, J k s m → wp P Y D r s m (jumpQ l (fun s m => ∃ j, j < k ∧ IW (J j) s m) Q)) : wp P Y D (.scopeJ c l r) s m Q :=
  ⟨J, h1, h2⟩
/-- The run up to a place, said in short. -/
theorem wp_seq_cut {W : (Nat → V) → Mem → Prop} (R : (Nat → V) → Mem → Prop) (h : wp P Y D a s m (seqQ R Q)) (h2 : ∀ s' m', R s' m' → W s' m') : wp P Y D a s m (seqQ W Q) := by
  refine wp_mono a (fun e s' m' h' => ?_) h
  cases e with
  | normal => exact h2 s' m' h'
  | _ => exact h'
section
variable {rs : List RV} {R : V → Mem → Prop}
@[simp ↓] theorem Fin_ret : Fin rs R .ret s m = ∃ v, resE rs s m = some v ∧ R v m := Eq.trans rfl rfl
@[simp ↓] theorem Fin_normal : Fin rs R .normal s m = ∃ v, resE rs s m = some v ∧ R v m := Eq.trans rfl rfl
end

section
variable (x y : X) (xs : List X)
@[simp ↓] theorem kW_mov1  : kW q Y D (.mov x) s m F = letW (x.ev s) fun v => F v m := Eq.trans rfl rfl
@[simp ↓] theorem kW_call2 (f : FuncId) : kW q Y D (.call f xs) s m F = callW D q f (xs.map (·.ev s)) m F := Eq.trans rfl rfl
@[simp ↓] theorem kW_callq (f : FuncId) : kW q Y D (.callq f xs) s m F = callW D true f (xs.map (·.ev s)) m F := Eq.trans rfl rfl
@[simp ↓] theorem kW_callv3  : kW q Y D (.callv x xs) s m F = callvW q Y D (x.ev s) (xs.map (·.ev s)) m F := Eq.trans rfl rfl
@[simp ↓] theorem kW_callf (fr : List Nat) : kW q Y D (.callf x xs fr) s m F = callvW q Y D (x.ev s) (xs.map (·.ev s)) m fun v m' => keepB s m m' fr ∧ F v m' := Eq.trans rfl rfl
@[simp ↓] theorem kW_callr : kW q Y D (.callr x xs) s m F = callrW q D (x.ev s) (xs.map (·.ev s)) m F := Eq.trans rfl rfl
@[simp ↓] theorem kW_pick4 (z : X) : kW q Y D (.pick z x y) s m F = pickW (z.ev s) (x.ev s) (y.ev s) fun v => F v m := Eq.trans rfl rfl
@[simp ↓] theorem kW_bin5 (op : BinOp) : kW q Y D (.bin op x y) s m F = optW (binV op (x.ev s) (y.ev s)) fun v => F v m := Eq.trans rfl rfl
@[simp ↓] theorem kW_beq6  : kW q Y D (.beq false x y) s m F = boolW (x.ev s) fun a => boolW (y.ev s) fun b => letW (.val (.bool (a == b))) fun v => F v m := Eq.trans rfl rfl
@[simp ↓] theorem kW_beq7  : kW q Y D (.beq true x y) s m F = boolW (x.ev s) fun a => boolW (y.ev s) fun b => letW (.val (.bool (a != b))) fun v => F v m := Eq.trans rfl rfl
@[simp ↓] theorem kW_snilf : kW q Y D (.snil false x) s m F = snilW (x.ev s) fun b => F (.val (.bool b)) m := by
  show (snilW (x.ev s) fun b => F (.val (.bool (if b = true then !false else false))) m) = _
  congr 1; funext b; cases b <;> rfl
@[simp ↓] theorem kW_snilt : kW q Y D (.snil true x) s m F = snilW (x.ev s) fun b => F (.val (.bool (!b))) m := by
  show (snilW (x.ev s) fun b => F (.val (.bool (if b = true then !true else true))) m) = _
  congr 1; funext b; cases b <;> rfl
@[simp ↓] theorem kW_un8  : kW q Y D (.un .not x) s m F = boolW (x.ev s) fun b => letW (.val (.bool (!b))) fun v => F v m := Eq.trans rfl rfl
@[simp ↓] theorem kW_un9  : kW q Y D (.un .neg x) s m F = intW (x.ev s) fun k n => letW (.val (.int k (k.wrap (0 - n)))) fun v => F v m := Eq.trans rfl rfl
@[simp ↓] theorem kW_conv10 (k : IntKind) : kW q Y D (.conv k x) s m F = optW (convV k (x.ev s)) fun v => letW v fun v => F v m := Eq.trans rfl rfl
@[simp] theorem convV_int (k k' : IntKind) (n : Int) : convV k (.val (.int k' n)) = some (.val (.int k (k.wrap n))) := Eq.trans rfl rfl
@[simp ↓] theorem kW_ext11 (i : Nat) : kW q Y D (.ext x i) s m F = tupW (x.ev s) fun l => optW l[i]? fun v => F v m := Eq.trans rfl rfl
@[simp ↓] theorem kW_fad12 (i : Nat) : kW q Y D (.fad x i) s m F = fadW (x.ev s) i fun v => F v m := Eq.trans rfl rfl
@[simp ↓] theorem kW_ld13  : kW q Y D (.ld x none) s m F = optW ((x.ev s).at m) fun cs => optW cs[0]? fun v => F v m := Eq.trans rfl rfl
@[simp ↓] theorem kW_ld14 (i : Nat) : kW q Y D (.ld x (some i)) s m F = optW ((x.ev s).at m) fun cs => i ≤ cs.length ∧ letW (.agg (cs.take i)) fun v => F v m := Eq.trans rfl rfl
@[simp ↓] theorem kW_lde1 : kW q Y D (.lde x none) s m F = eptrW (x.ev s) fun cs => optW cs[0]? fun v => F v m := Eq.trans rfl rfl
@[simp ↓] theorem kW_lde2 (i : Nat) : kW q Y D (.lde x (some i)) s m F = eptrW (x.ev s) fun cs => i ≤ cs.length ∧ letW (.agg (cs.take i)) fun v => F v m := Eq.trans rfl rfl
@[simp ↓] theorem kW_st15 (n : Nat) : kW q Y D (.st x n y) s m F = ptrW (x.ev s) fun b o => optW m.boxes[b]? fun cs => letW (y.ev s).cells fun yc => (isObj cs = false ∧ yc.length = n ∧ o + n ≤ cs.length ∧ yc.all V.one = true) ∧ letW { m with boxes := m.boxes.set b (cs.take o ++ yc ++ cs.drop (o + n)) } fun m' => F (.tuple []) m' := Eq.trans rfl rfl
@[simp ↓] theorem kW_ixs16 (sz : Nat) : kW q Y D (.ixs x y sz) s m F = elemsW (x.ev s) fun sz' l => intW (y.ev s) fun _ n => (sz' = sz ∧ 0 ≤ n) ∧ optW l[n.toNat]? fun cs => F (.eptr cs) m := Eq.trans rfl rfl
@[simp ↓] theorem kW_ixa17 (len sz : Nat) : kW q Y D (.ixa x y len sz) s m F = ptrW (x.ev s) fun b o => intW (y.ev s) fun _ n => (0 ≤ n ∧ n < len) ∧ letW (.ptr b (o + n.toNat * sz)) fun v => F v m := Eq.trans rfl rfl
@[simp ↓] theorem kW_fld18 (i : Nat) : kW q Y D (.fld x i none) s m F = aggW (x.ev s) fun l => optW l[i]? fun v => F v m := Eq.trans rfl rfl
@[simp ↓] theorem kW_fld19 (i n : Nat) : kW q Y D (.fld x i (some n)) s m F = aggW (x.ev s) fun l => i + n ≤ l.length ∧ letW (.agg ((l.drop i).take n)) fun v => F v m := Eq.trans rfl rfl
@[simp ↓] theorem kW_slc20 (lo hi : Option X) (sz : Nat) : kW q Y D (.slc x lo hi none sz) s m F = srcW (x.ev s) sz fun isn l => idxW s lo 0 fun i => idxW s hi l.length fun h => (0 ≤ i ∧ i ≤ h ∧ h ≤ l.length ∧ mxOk s none h = true) ∧ letW (if isn = true then .val (.slice none 0 0) else if (none : Option X).isSome = true then .full sz ((l.take h.toNat).drop i.toNat) else .lit sz ((l.take h.toNat).drop i.toNat)) fun v => F v m := Eq.trans rfl rfl
@[simp ↓] theorem kW_slc21 (lo hi : Option X) (z : X) (sz : Nat) : kW q Y D (.slc x lo hi (some z) sz) s m F = srcW (x.ev s) sz fun isn l => idxW s lo 0 fun i => idxW s hi l.length fun h => (0 ≤ i ∧ i ≤ h ∧ h ≤ l.length ∧ mxOk s (some z) h = true) ∧ letW (if isn = true then .val (.slice none 0 0) else if (some z).isSome = true then .full sz ((l.take h.toNat).drop i.toNat) else .lit sz ((l.take h.toNat).drop i.toNat)) fun v => F v m := Eq.trans rfl rfl
@[simp ↓ high] theorem kW_slc0 (lo : Option X) (sz : Nat) : kW q Y D (.slc x lo none none sz) s m F = srcW (x.ev s) sz fun isn l => idxW s lo 0 fun i => (0 ≤ i ∧ i ≤ l.length) ∧ letW (if isn = true then .val (.slice none 0 0) else .lit sz (l.drop i.toNat)) fun v => F v m := by
  refine Eq.trans (b := srcW (x.ev s) sz fun isn l => idxW s lo 0 fun i => (0 ≤ i ∧ i ≤ (l.length : Int) ∧ (l.length : Int) ≤ l.length ∧ mxOk s none (l.length : Int) = true) ∧ letW (if isn = true then V.val (.slice none 0 0) else if (none : Option X).isSome = true then .full sz ((l.take (l.length : Int).toNat).drop i.toNat) else .lit sz ((l.take (l.length : Int).toNat).drop i.toNat)) fun v => F v m) rfl ?_
  refine congrArg (srcW (x.ev s) sz) (funext fun isn => funext fun l => congrArg (idxW s lo 0) (funext fun i => ?_))
  have e : (l.take (l.length : Int).toNat) = l := by simp
  show ((0 ≤ i ∧ i ≤ (l.length : Int) ∧ (l.length : Int) ≤ l.length ∧ true = true) ∧ letW (if isn = true then V.val (.slice none 0 0) else .lit sz ((l.take (l.length : Int).toNat).drop i.toNat)) fun v => F v m) = _
  rw [e]
  exact propext ⟨fun ⟨⟨h1, h2, _, _⟩, h⟩ => ⟨⟨h1, h2⟩, h⟩, fun ⟨⟨h1, h2⟩, h⟩ => ⟨⟨h1, h2, Int.le_refl _, rfl⟩, h⟩⟩
@[simp ↓] theorem kW_len22  : kW q Y D (.len x) s m F = lenW (x.ev s) fun n => F (.val (.int .i64 n)) m := Eq.trans rfl rfl
@[simp ↓] theorem kW_slen23  : kW q Y D (.slen x) s m F = strW (x.ev s) fun b => letW (.val (.int .i64 b.size)) fun v => F v m := Eq.trans rfl rfl
@[simp ↓] theorem kW_mm24  : kW q Y D (.mm true x y) s m F = intW (x.ev s) fun k a => intW (y.ev s) fun _ b => letW (.val (.int k (max a b))) fun v => F v m := Eq.trans rfl rfl
@[simp ↓] theorem kW_mm25  : kW q Y D (.mm false x y) s m F = intW (x.ev s) fun k a => intW (y.ev s) fun _ b => letW (.val (.int k (min a b))) fun v => F v m := Eq.trans rfl rfl
@[simp ↓] theorem kW_box26  : kW q Y D (.box x) s m F = letW (x.ev s).cells fun cs => cs.all V.one = true ∧ letW { m with boxes := m.boxes ++ [cs] } fun m' => F (.ptr m.boxes.length 0) m' := Eq.trans rfl rfl
@[simp ↓] theorem kW_alc27 (z : List V) : kW q Y D (.alc z) s m F = letW { m with boxes := m.boxes ++ [z] } fun m' => F (.ptr m.boxes.length 0) m' := Eq.trans rfl rfl
@[simp ↓] theorem kW_alr28 (e sz : Nat) : kW q Y D (.alr e sz) s m F = letW { m with boxes := m.boxes ++ [[.row m.tips.length sz []]], tips := m.tips ++ [(e, sz, 0)] } fun m' => F (.ptr m.boxes.length 0) m' := Eq.trans rfl rfl
@[simp ↓] theorem kW_nil29 (e sz : Nat) (own : Bool) : kW q Y D (.nil e sz own) s m F = newW own m e sz [] F := Eq.trans rfl rfl
@[simp ↓] theorem kW_bld30 (z : List V) (ps : List (Nat × Nat × X)) : kW q Y D (.bld z ps) s m F = (ps.all (fun p => (p.2.2.ev s).cells.all V.one) = true ∧ optW (fillV z s ps) fun r => F (.agg r) m) := Eq.trans rfl rfl
@[simp ↓] theorem kW_mkl31 (e sz : Nat) (own : Bool) : kW q Y D (.mkl e sz xs own) s m F = letW (xs.map fun x => (x.ev s).cells) fun cs => cs.all (fun c => c.length == sz && c.all V.one) = true ∧ newW own m e sz cs F := Eq.trans rfl rfl
@[simp ↓] theorem kW_app32 (e sz bytes : Nat) (own : Bool) : kW q Y D (.app x y e sz bytes own) s m F = srcW (y.ev s) sz fun _ ys => appW (x.ev s) ys e sz bytes own m F := Eq.trans rfl rfl
@[simp ↓] theorem kW_mks33 (e sz bytes : Nat) (z : List V) (own : Bool) : kW q Y D (.mks x y e sz bytes z own) s m F = intW (x.ev s) fun k a => intW (y.ev s) fun k' b => (k = .i64 ∧ k' = .i64 ∧ a = b ∧ 0 ≤ a ∧ a * bytes ≤ 140737488355328) ∧ newW own m e sz (List.replicate a.toNat z) F := Eq.trans rfl rfl
@[simp ↓] theorem kW_mkf34 (f : FuncId) : kW q Y D (.mkf f xs) s m F = letW (xs.map (·.ev s)) fun l => F (.func f l) m := Eq.trans rfl rfl
@[simp ↓] theorem kW_b2s35  : kW q Y D (.b2s x) s m F = srcW (x.ev s) 1 fun _ l => optW (toBytes l) fun l => F (.val (.string ⟨l.toArray⟩)) m := Eq.trans rfl rfl
@[simp ↓] theorem kW_sidx36  : kW q Y D (.sidx x y) s m F = strW (x.ev s) fun b => intW (y.ev s) fun _ n => 0 ≤ n ∧ optW b[n.toNat]? fun c => F (.val (.int .u8 c.toNat)) m := Eq.trans rfl rfl
@[simp ↓] theorem kW_srg37  : kW q Y D (.srg x) s m F = strW (x.ev s) fun b => letW { m with boxes := m.boxes ++ [[.tuple [.val (.string b), .val (.int .i64 0)]]] } fun m' => F (.ptr m.boxes.length 0) m' := Eq.trans rfl rfl
@[simp ↓] theorem kW_snx38  : kW q Y D (.snx x) s m F = goWp (kindE (.snx x) s m) F := Eq.trans rfl rfl
@[simp ↓] theorem kW_frz : kW q Y D (.mem .frz [x]) s m F = sliW (x.ev s) fun off sz n b => optW m.boxes[b]? fun cs => (isObj cs = false ∧ off + n * sz ≤ cs.length) ∧ letW (.lit sz (chunkV sz n (cs.drop off))) fun v => letW { m with boxes := m.boxes.set b deadC } fun m' => F v m' := frzW_eq ..
@[simp ↓] theorem kW_ixr (sz : Nat) : kW q Y D (.mem (.ixr sz) [x, y]) s m F = sliW (x.ev s) fun off sz' n b => intW (y.ev s) fun _ i => (sz' = sz ∧ 0 ≤ i ∧ i < n) ∧ letW (.ptr b (off + i.toNat * sz)) fun v => F v m := ixrW_eq ..
@[simp ↓] theorem kW_aeq (ne : Bool) (ks : List IntKind) : kW q Y D (.mem (.aeq ne ks) [x, y]) s m F = aggW2 (x.ev s) fun l1 => aggW2 (y.ev s) fun l2 => optW (intsOf ks l1) fun p => optW (intsOf ks l2) fun q => F (.val (.bool (if ne = true then !decide (p = q) else decide (p = q)))) m := aeqW_eq ..
@[simp ↓] theorem kW_nck : kW q Y D (.mem .nck [x]) s m F = nckW (x.ev s) fun u => F u m := nckW_eq ..
@[simp ↓] theorem kW_cvf (k : FloatKind) : kW q Y D (.mem (.cvf k) [x]) s m F = intW (x.ev s) fun _ n => F (.val (.float k (k.nearest n))) m := cvfW_eq ..
@[simp ↓] theorem kW_cpx : kW q Y D (.mem .cpx [x, y]) s m F = fltW (x.ev s) fun k a => fltW (y.ev s) fun k' b => k = k' ∧ F (.val (.complex k a b)) m := cpxW_eq ..
@[simp ↓] theorem kW_rei (im : Bool) : kW q Y D (.mem (.rei im) [x]) s m F = cpxW (x.ev s) fun k a b => F (.val (.float k (if im = true then b else a))) m := reiW_eq ..
@[simp ↓] theorem kW_apb (e sz bytes : Nat) : kW q Y D (.mem (.apb e sz bytes) [x, y]) s m F = empW (x.ev s) fun szx isn => elemsW (y.ev s) fun sz' ys => ((isn = true ∨ szx = sz) ∧ sz' = sz ∧ ys ≠ [] ∧ ys.length * bytes ≤ 140737488355328) ∧ letW { m with boxes := m.boxes ++ [ys.flatten] } fun m' => F (.ref (.sli 0 sz ys.length) m.boxes.length) m' := apbW_eq ..
@[simp ↓] theorem kW_eml (sz : Nat) : kW q Y D (.mem (.eml sz) []) s m F = F (.full sz []) m := Eq.trans rfl rfl
@[simp ↓] theorem kW_lnr : kW q Y D (.mem .lnr [x]) s m F = sliW (x.ev s) fun _ _ n _ => F (.val (.int .i64 n)) m := lnrW_eq ..
@[simp ↓] theorem kW_mkb (e sz bytes : Nat) (z : List V) : kW q Y D (.mem (.mkb e sz bytes z) [x, y]) s m F = intW (x.ev s) fun k a => intW (y.ev s) fun k' b => (k = .i64 ∧ k' = .i64 ∧ a = b ∧ 0 ≤ a ∧ a * bytes ≤ 140737488355328) ∧ letW { m with boxes := m.boxes ++ [(List.replicate a.toNat z).flatten] } fun m' => F (.ref (.sli 0 sz a.toNat) m.boxes.length) m' := mkbW_eq ..
@[simp ↓] theorem kW_mkm : kW q Y D .mkm s m F = letW { m with boxes := m.boxes ++ [mpV []] } fun m' => F (.ref .map m.boxes.length) m' := Eq.trans rfl rfl
@[simp ↓] theorem kW_mup (z : X) : kW q Y D (.mup x z y) s m F = refW (x.ev s) m fun b kvs => intW (z.ev s) fun ik i => ik = .i64 ∧ letW (mpV (mpPut kvs i (y.ev s))) fun c => letW { m with boxes := m.boxes.set b c } fun m' => F (.tuple []) m' := Eq.trans rfl rfl
@[simp ↓] theorem kW_mlk1 (z : X) (u : V) : kW q Y D (.mlk x z u true) s m F = refW (x.ev s) m fun _ kvs => intW (z.ev s) fun ik i => ik = .i64 ∧ atW (mpAt kvs i) (fun v => F (.tuple [v, .val (.bool true)]) m) (F (.tuple [u, .val (.bool false)]) m) := Eq.trans rfl rfl
@[simp ↓] theorem kW_mlk2 (z : X) (u : V) : kW q Y D (.mlk x z u false) s m F = refW (x.ev s) m fun _ kvs => intW (z.ev s) fun ik i => ik = .i64 ∧ atW (mpAt kvs i) (fun v => F v m) (F u m) := Eq.trans rfl rfl
@[simp ↓] theorem kW_dead39  : kW q Y D (.dead) s m F = False := Eq.trans rfl rfl
end
end
theorem kindE_snx (x : X) (s : Nat → V) (m : Mem) : kindE (.snx x) s m = match x.ev s with
    | .ptr b 0 => match m.boxes[b]? with
      | some [.tuple [.val (.string str), .val (.int .i64 pos)]] => if pos.toNat < str.size then
          some (.tuple [.val (.bool true), .val (.int .i64 pos.toNat), .val (.int .i32 (Utf8.decode str pos.toNat).1)], { m with boxes := m.boxes.set b [.tuple [.val (.string str), .val (.int .i64 (pos.toNat + (Utf8.decode str pos.toNat).2 : Nat))]] })
        else some (.tuple [.val (.bool false)], m)
      | _ => none
    | _ => none := rfl
theorem put_at' (d : Nat) (v : V) (s : Nat → V) (t : Nat) : put (some d) v s t = if t = d then v else s t := Eq.trans rfl rfl
theorem put_no (v : V) (s : Nat → V) : put none v s = s := Eq.trans rfl rfl
attribute [simp] kindE_snx X.ev put_at' put_no argS resE RV.es RV.e oneOr newV sepAll wk1 wkL keepN1 keepNL keepN
end Go.Av

namespace Go.Av
open Go.RowKit

def Orc.nil : Orc := ⟨fun _ _ => none, fun _ _ _ => none, fun _ => false⟩
def Orc.add (D : Orc) (n : FuncId) (sp : List V → Option (V × List Tip)) : Orc := ⟨fun f => if f = n then sp else D.pure f, D.loc, fun f => if f = n then false else D.isLoc f⟩
def Orc.addL (D : Orc) (n : FuncId) (sp : List V → Mem → Option (V × Mem)) : Orc := ⟨D.pure, fun f => if f = n then sp else D.loc f, fun f => if f = n then true else D.isLoc f⟩
/-- An entry's word. -/
def EOk (P : Program) (n : FuncId) (sp : List V → Option (V × List Tip)) : Prop :=
  ∀ args v tips, sp args = some (v, tips) → (∃ args', WkL args args' ∧ Pure P n args' v tips ∧ cleanL args' = true) ∨ (tips = [] ∧ v.isClean = true ∧ ExtR P n args v)
def EOkL (P : Program) (n : FuncId) (sp : List V → Mem → Option (V × Mem)) : Prop := ∀ args m v m', sp args m = some (v, m') → Loc P n args m v m'
theorem OOk.nil {P : Program} : OOk P .nil := ⟨fun _ _ _ _ _ h => (by cases h), fun _ _ _ _ _ _ h => (by cases h)⟩
theorem OOk.add {P : Program} {D : Orc} (h : OOk P D) {n : FuncId} {sp : List V → Option (V × List Tip)} (he : EOk P n sp) : OOk P (D.add n sp) where
  pure f args v tips h1 h2 := by
    simp only [Orc.add] at h1 h2
    by_cases e : f = n
    · subst e
      rw [if_pos rfl] at h2
      exact he args v tips h2
    · rw [if_neg e] at h1 h2
      exact h.pure f args v tips h1 h2
  loc f args m v m' h1 h2 := by
    simp only [Orc.add] at h1 h2
    by_cases e : f = n
    · subst e
      rw [if_pos rfl] at h1
      cases h1
    · rw [if_neg e] at h1
      exact h.loc f args m v m' h1 h2
theorem OOk.addL {P : Program} {D : Orc} (h : OOk P D) {n : FuncId} {sp : List V → Mem → Option (V × Mem)} (he : EOkL P n sp) : OOk P (D.addL n sp) where
  pure f args v tips h1 h2 := by
    simp only [Orc.addL] at h1 h2
    by_cases e : f = n
    · subst e
      rw [if_pos rfl] at h1
      cases h1
    · rw [if_neg e] at h1
      exact h.pure f args v tips h1 h2
  loc f args m v m' h1 h2 := by
    simp only [Orc.addL] at h1 h2
    by_cases e : f = n
    · subst e
      rw [if_pos rfl] at h2
      exact he args m v m' h2
    · rw [if_neg e] at h1 h2
      exact h.loc f args m v m' h1 h2
section
variable {D : Orc} {n f : FuncId} {sp : List V → Option (V × List Tip)} {sl : List V → Mem → Option (V × Mem)} {q : Bool} {args : List V} {m : Mem} {F : V → Mem → Prop}
@[simp ↓] theorem callW_add : callW (D.add n sp) q f args m F = if f = n then pureW (sp args) q m F else callW D q f args m F := by
  unfold callW
  by_cases e : f = n
  · simp [Orc.add, e]
  · simp [Orc.add, e]
@[simp ↓] theorem callW_addL : callW (D.addL n sl) q f args m F = if f = n then (q = false ∧ goWp (sl args m) F) else callW D q f args m F := by
  unfold callW
  by_cases e : f = n
  · simp [Orc.addL, e]
  · simp [Orc.addL, e]
end


section
variable {P : Program} {D : Orc} {own : Nat → Bool} {f : FuncId} {F : F} {args : List V} {r : V}
/-- Of no rows. -/
theorem Pure.ofC (hD : OOk P D) (hm : P.follows .mixedOrders = true) (hF : compF P own f = some F) (hn : args.length ≤ F.n) (hres : r.res = true)
    (h : wp P noY D F.c (argS args) ⟨[], []⟩ (Fin F.rs fun v _ => keepN [] v r)) : Pure P f args r [] :=
  Pure.ofD hD hm hF hn hres (wp_mono _ (fun e s m hq => by
    cases e with
    | normal => obtain ⟨v, h1, h2⟩ := hq; exact ⟨v, h1, OutP.clean h2⟩
    | ret => obtain ⟨v, h1, h2⟩ := hq; exact ⟨v, h1, OutP.clean h2⟩
    | _ => exact hq) h)
/-- Of one row. -/
theorem Pure.ofR (hD : OOk P D) (hm : P.follows .mixedOrders = true) (hF : compF P own f = some F) {tip : Tip} (hn : args.length ≤ F.n) (hres : r.res = true)
    (h : wp P noY D F.c (argS args) ⟨[], []⟩ (Fin F.rs fun v m => ∃ t, keepN [t] v r ∧ m.tips[t]? = some tip)) : Pure P f args r [tip] :=
  Pure.ofD hD hm hF hn hres (wp_mono _ (fun e s m hq => by
    cases e with
    | normal => obtain ⟨v, h1, t, h2, h3⟩ := hq; exact ⟨v, h1, OutP.one h2 h3⟩
    | ret => obtain ⟨v, h1, t, h2, h3⟩ := hq; exact ⟨v, h1, OutP.one h2 h3⟩
    | _ => exact hq) h)
end

-- Values of Lean.
class Enc (α : Type) where
  enc : α → V
  dec : V → Option α
  ok : ∀ (v : V) (a : α), dec v = some a → ∀ (M : Mp) (w : World) (x : Value), Rep M w v x → Rep M w (enc a) x
  cl : ∀ a, (enc a).isClean = true
  de : ∀ a, dec (enc a) = some a
/-- As cells, of a struct, or of an element. -/
class Cel (α : Type) where
  sz : Nat
  cs : α → List V
  dc : List V → Option α
  len : ∀ a, (cs a).length = sz
  ok : ∀ (l : List V) (a : α), dc l = some a → ∀ (M : Mp) (w : World) (us : List Value), RepL M w l us → RepL M w (cs a) us
  cl : ∀ a, cleanL (cs a) = true
  de : ∀ a, dc (cs a) = some a
open Enc (enc dec)
open Cel (cs dc)

def iV (n : Int) : V := .val (.int .i64 n)
def uV (n : Nat) : V := .val (.int .u64 n)
def tV (b : Bool) : V := .val (.bool b)
instance : Enc Int where
  enc n := .val (.int .i64 n)
  dec v := match v with
    | .val (.int .i64 n) => some n
    | _ => none
  ok v a h M w x hr := by
    split at h
    · cases h; exact hr
    · cases h
  cl _ := rfl
  de _ := rfl
instance : Enc Nat where
  enc n := .val (.int .u64 n)
  dec v := match v with
    | .val (.int .u64 n) => if 0 ≤ n then some n.toNat else none
    | _ => none
  ok v a h M w x hr := by
    split at h
    · split at h
      · cases h
        rename_i n h0
        rw [show ((n.toNat : Nat) : Int) = n by omega]
        exact hr
      · cases h
    · cases h
  cl _ := rfl
  de n := by simp
instance : Enc Bool where
  enc n := .val (.bool n)
  dec v := match v with
    | .val (.bool n) => some n
    | _ => none
  ok v a h M w x hr := by
    split at h
    · cases h; exact hr
    · cases h
  cl _ := rfl
  de _ := rfl
instance : Enc UInt8 where
  enc n := .val (.int .u8 n.toNat)
  dec v := match v with
    | .val (.int .u8 n) => if 0 ≤ n ∧ n < 256 then some (UInt8.ofNat n.toNat) else none
    | _ => none
  ok v a h M w x hr := by
    split at h
    · split at h
      · cases h
        rename_i n h0
        have : n.toNat < 256 := by omega
        rw [show (((UInt8.ofNat n.toNat).toNat : Nat) : Int) = n by simp; omega]
        exact hr
      · cases h
    · cases h
  cl _ := rfl
  de n := by
    have := n.toNat_lt
    simp
    omega
/-- A number of thirty-two bits. -/
instance : Enc UInt32 where
  enc n := .val (.int .u32 n.toNat)
  dec v := match v with
    | .val (.int .u32 n) => if 0 ≤ n ∧ n < 4294967296 then some (UInt32.ofNat n.toNat) else none
    | _ => none
  ok v a h M w x hr := by
    split at h
    · split at h
      · cases h
        rename_i n h0
        rw [show (((UInt32.ofNat n.toNat).toNat : Nat) : Int) = n by simp; omega]
        exact hr
      · cases h
    · cases h
  cl _ := rfl
  de n := by
    have := n.toNat_lt
    simp
    omega
structure Rune where
  v : Int
instance : Enc Rune where
  enc n := .val (.int .i32 n.v)
  dec v := match v with
    | .val (.int .i32 n) => some ⟨n⟩
    | _ => none
  ok v a h M w x hr := by
    split at h
    · cases h; exact hr
    · cases h
  cl _ := rfl
  de _ := rfl
instance : Enc ByteArray where
  enc n := .val (.string n)
  dec v := match v with
    | .val (.string n) => some n
    | _ => none
  ok v a h M w x hr := by
    split at h
    · cases h; exact hr
    · cases h
  cl _ := rfl
  de _ := rfl

def decX {α : Type} [Cel α] : List (List V) → Option (List α)
  | [] => some []
  | e :: r => (dc e).bind fun a => (decX r).bind fun l => some (a :: l)
section
variable {α : Type} [Cel α]
theorem RepC.of_dc {M : Mp} {w : World} {l : List V} {a : α} (h : dc l = some a) {b o : Nat} (hr : RepC M w l b o) : RepC M w (cs a) b o := by
  obtain ⟨us, h1, h2, h3⟩ := hr.list
  exact RepC.of_list (Cel.ok l a h M w us h1) h2 h3
theorem dc_len {M : Mp} {w : World} {l : List V} {a : α} (h : dc l = some a) {us : List Value} (hr : RepL M w l us) : l.length = Cel.sz α := by
  rw [← hr.length, (Cel.ok l a h M w us hr).length, Cel.len]
theorem RepX.of_dc {M : Mp} {w : World} : ∀ {xs : List (List V)} {l : List α}, decX xs = some l → ∀ {b o : Nat}, RepX M w xs b o → RepX M w (l.map cs) b o ∧ xs.length = l.length
  | [], l, h, _, _, _ => by cases h; exact ⟨trivial, rfl⟩
  | e :: r, l, h, b, o, hr => by
    simp only [decX, Option.bind_eq_some_iff] at h
    obtain ⟨a, h1, l', h2, h3⟩ := h
    cases h3
    obtain ⟨us, k1, _, _⟩ := hr.1.list
    obtain ⟨i1, i2⟩ := RepX.of_dc h2 hr.2
    refine ⟨⟨RepC.of_dc h1 hr.1, ?_⟩, by simp [i2]⟩
    rw [Cel.len, ← dc_len h1 k1]
    exact i1
theorem clean_cs : ∀ (l : List α), cleanX (l.map cs) = true
  | [] => rfl
  | a :: l => by simp only [List.map_cons, cleanX, Cel.cl, clean_cs l]; rfl
theorem decX_map : ∀ (l : List α), decX (l.map cs) = some l
  | [] => rfl
  | a :: l => by simp [decX, Cel.de, decX_map l]
theorem decX_append : ∀ (xs ys : List (List V)), (decX (xs ++ ys) : Option (List α)) = (decX xs).bind fun a => (decX ys).bind fun b => some (a ++ b)
  | [], ys => by cases h : (decX ys : Option (List α)) <;> simp [decX, h]
  | e :: r, ys => by
    simp only [List.cons_append, decX, decX_append r ys]
    cases (dc e : Option α) <;> cases (decX r : Option (List α)) <;> cases (decX ys : Option (List α)) <;> simp
instance : Enc (List α) where
  enc l := .lit (Cel.sz α) (l.map cs)
  dec v := match v with
    | .val (.slice none 0 0) => some []
    | .emp _ => some []
    | .lit z xs | .full z xs | .row _ z xs => if z = Cel.sz α then decX xs else none
    | _ => none
  ok v l h M w x hr := by
    have key : ∀ {v : V} {z : Nat} {xs : List (List V)}, Rep M w v x → v.elems = some (z, xs) → z = Cel.sz α → decX xs = some l → Rep M w (.lit (Cel.sz α) (l.map cs)) x := by
      intro v z xs hr he hz hd
      rcases elems_rep hr he with ⟨rfl, rfl⟩ | ⟨ad, c, rfl, h1, h2, h3, h4⟩
      · cases hd; exact .inl ⟨rfl, rfl⟩
      · obtain ⟨i1, i2⟩ := RepX.of_dc hd h4
        refine .inr ⟨ad, c, by rw [i2, List.length_map], by simpa [← i2] using h1, ?_, ?_, i1⟩
        · rcases h2 with rfl | h2
          · cases hd; exact .inl rfl
          · exact .inr h2
        · intro e he
          obtain ⟨a, _, rfl⟩ := List.mem_map.1 he
          exact Cel.len a
    split at h
    · cases h; exact .inl ⟨rfl, hr.1⟩
    · cases h; obtain ⟨ad, c, rfl⟩ := hr; exact .inr ⟨ad, c, rfl, Nat.zero_le _, .inl rfl, by simp, trivial⟩
    · split at h
      · rename_i hz; exact key hr rfl hz h
      · cases h
    · split at h
      · rename_i hz; exact key hr rfl hz h
      · cases h
    · split at h
      · rename_i hz; exact key hr rfl hz h
      · cases h
    · cases h
  cl l := clean_cs l
  de l := by simp [decX_map]
end
/-- A cell that holds a value. -/
def dc1 {α : Type} [Enc α] : List V → Option α
  | [v] => dec v
  | _ => none
theorem dc1_ok {α : Type} [Enc α] (l : List V) (a : α) (h : dc1 l = some a) (M : Mp) (w : World) (us : List Value) (hr : RepL M w l us) : RepL M w [enc a] us := by
  unfold dc1 at h
  split at h
  · obtain ⟨x, r, rfl, h1, h2⟩ := hr
    exact ⟨x, r, rfl, Enc.ok _ _ h M w x h1, h2⟩
  · cases h
instance : Cel UInt8 := ⟨1, fun a => [enc a], dc1, fun _ => rfl, dc1_ok, fun a => by simp [Enc.cl], fun a => by simp [dc1, Enc.de]⟩
instance : Cel Nat := ⟨1, fun a => [enc a], dc1, fun _ => rfl, dc1_ok, fun a => by simp [Enc.cl], fun a => by simp [dc1, Enc.de]⟩
instance : Cel Int := ⟨1, fun a => [enc a], dc1, fun _ => rfl, dc1_ok, fun a => by simp [Enc.cl], fun a => by simp [dc1, Enc.de]⟩
/-- Struct values, by their cells. -/
@[reducible] def encC {α : Type} [Cel α] : Enc α where
  enc a := .agg (cs a)
  dec v := match v with
    | .agg l => dc l
    | _ => none
  ok v a h M w x hr := by
    split at h
    · obtain ⟨vs, rfl, hr⟩ := hr
      exact ⟨vs, rfl, Cel.ok _ _ h M w _ hr⟩
    · cases h
  cl a := Cel.cl a
  de a := Cel.de a

-- What is known of a function, by its arguments.
section
variable {α β γ δ ε : Type} [Enc α] [Enc β] [Enc γ] [Enc δ] [Enc ε]
def sp0 (f : Option (V × List Tip)) : List V → Option (V × List Tip)
  | [] => f
  | _ => none
def sp1 (f : α → Option (V × List Tip)) : List V → Option (V × List Tip)
  | [a] => (dec a).bind f
  | _ => none
def sp2 (f : α → β → Option (V × List Tip)) : List V → Option (V × List Tip)
  | [a, b] => (dec a).bind fun x => (dec b).bind fun y => f x y
  | _ => none
def sp3 (f : α → β → γ → Option (V × List Tip)) : List V → Option (V × List Tip)
  | [a, b, c] => (dec a).bind fun x => (dec b).bind fun y => (dec c).bind fun z => f x y z
  | _ => none
def sp4 (f : α → β → γ → δ → Option (V × List Tip)) : List V → Option (V × List Tip)
  | [a, b, c, d] => (dec a).bind fun x => (dec b).bind fun y => (dec c).bind fun z => (dec d).bind fun u => f x y z u
  | _ => none
def sp5 (f : α → β → γ → δ → ε → Option (V × List Tip)) : List V → Option (V × List Tip)
  | [a, b, c, d, e] => (dec a).bind fun x => (dec b).bind fun y => (dec c).bind fun z => (dec d).bind fun u => (dec e).bind fun v => f x y z u v
  | _ => none
variable {P : Program} {n : FuncId}
theorem wk_dec {l l' : List V} (h : WkL l l') {v : V} {a : α} (hd : dec v = some a) : WkL (v :: l) (enc a :: l') := by
  intro M w m hr
  obtain ⟨x, r, rfl, h1, h2⟩ := hr
  exact ⟨x, r, rfl, Enc.ok v a hd M w x h1, h M w r h2⟩
theorem wk_nil : WkL [] [] := fun _ _ _ h => h
theorem sp0_ok {f : Option (V × List Tip)} (h : ∀ r, f = some r → Pure P n [] r.1 r.2) : EOk P n (sp0 f) := by
  intro args v tips hs
  unfold sp0 at hs
  split at hs
  · exact .inl ⟨_, wk_nil, h _ hs, rfl⟩
  · cases hs
theorem sp1_ok {f : α → Option (V × List Tip)} (h : ∀ a r, f a = some r → Pure P n [enc a] r.1 r.2) : EOk P n (sp1 f) := by
  intro args v tips hs
  unfold sp1 at hs
  split at hs
  · simp only [Option.bind_eq_some_iff] at hs
    obtain ⟨x, hx, hs⟩ := hs
    exact .inl ⟨_, wk_dec wk_nil hx, h _ _ hs, by simp [Enc.cl]⟩
  · cases hs
theorem sp2_ok {f : α → β → Option (V × List Tip)} (h : ∀ a b r, f a b = some r → Pure P n [enc a, enc b] r.1 r.2) : EOk P n (sp2 f) := by
  intro args v tips hs
  unfold sp2 at hs
  split at hs
  · simp only [Option.bind_eq_some_iff] at hs
    obtain ⟨x, hx, y, hy, hs⟩ := hs
    exact .inl ⟨_, wk_dec (wk_dec wk_nil hy) hx, h _ _ _ hs, by simp [Enc.cl]⟩
  · cases hs
theorem sp3_ok {f : α → β → γ → Option (V × List Tip)} (h : ∀ a b c r, f a b c = some r → Pure P n [enc a, enc b, enc c] r.1 r.2) : EOk P n (sp3 f) := by
  intro args v tips hs
  unfold sp3 at hs
  split at hs
  · simp only [Option.bind_eq_some_iff] at hs
    obtain ⟨x, hx, y, hy, z, hz, hs⟩ := hs
    exact .inl ⟨_, wk_dec (wk_dec (wk_dec wk_nil hz) hy) hx, h _ _ _ _ hs, by simp [Enc.cl]⟩
  · cases hs
theorem sp4_ok {f : α → β → γ → δ → Option (V × List Tip)} (h : ∀ a b c d r, f a b c d = some r → Pure P n [enc a, enc b, enc c, enc d] r.1 r.2) : EOk P n (sp4 f) := by
  intro args v tips hs
  unfold sp4 at hs
  split at hs
  · simp only [Option.bind_eq_some_iff] at hs
    obtain ⟨x, hx, y, hy, z, hz, u, hu, hs⟩ := hs
    exact .inl ⟨_, wk_dec (wk_dec (wk_dec (wk_dec wk_nil hu) hz) hy) hx, h _ _ _ _ _ hs, by simp [Enc.cl]⟩
  · cases hs
theorem sp5_ok {f : α → β → γ → δ → ε → Option (V × List Tip)} (h : ∀ a b c d e r, f a b c d e = some r → Pure P n [enc a, enc b, enc c, enc d, enc e] r.1 r.2) : EOk P n (sp5 f) := by
  intro args v tips hs
  unfold sp5 at hs
  split at hs
  · simp only [Option.bind_eq_some_iff] at hs
    obtain ⟨x, hx, y, hy, z, hz, u, hu, e, he, hs⟩ := hs
    exact .inl ⟨_, wk_dec (wk_dec (wk_dec (wk_dec (wk_dec wk_nil he) hu) hz) hy) hx, h _ _ _ _ _ _ hs, by simp [Enc.cl]⟩
  · cases hs
end

attribute [simp] Enc.cl Enc.de Cel.cl Cel.de clean_cs decX_map decX_append sp0 sp1 sp2 sp3 sp4 sp5 dc1
section
variable {α : Type} [Cel α]
@[simp] theorem enc_int (n : Int) : (enc n : V) = .val (.int .i64 n) := rfl
@[simp] theorem enc_nat (n : Nat) : (enc n : V) = .val (.int .u64 n) := rfl
@[simp] theorem enc_bool (n : Bool) : (enc n : V) = .val (.bool n) := rfl
@[simp] theorem enc_u8 (n : UInt8) : (enc n : V) = .val (.int .u8 n.toNat) := rfl
@[simp] theorem enc_u32 (n : UInt32) : (enc n : V) = .val (.int .u32 n.toNat) := rfl
@[simp] theorem enc_rune (n : Rune) : (enc n : V) = .val (.int .i32 n.v) := rfl
@[simp] theorem enc_str (n : ByteArray) : (enc n : V) = .val (.string n) := rfl
@[simp] theorem enc_list (l : List α) : (enc l : V) = .lit (Cel.sz α) (l.map cs) := rfl
@[simp] theorem dec_int (n : Int) : (dec (.val (.int .i64 n)) : Option Int) = some n := rfl
@[simp] theorem dec_nat (n : Int) : (dec (.val (.int .u64 n)) : Option Nat) = if 0 ≤ n then some n.toNat else none := rfl
@[simp] theorem dec_bool (n : Bool) : (dec (.val (.bool n)) : Option Bool) = some n := rfl
@[simp] theorem dec_u8 (n : Int) : (dec (.val (.int .u8 n)) : Option UInt8) = if 0 ≤ n ∧ n < 256 then some (UInt8.ofNat n.toNat) else none := rfl
@[simp high] theorem dec_u8' (c : UInt8) : (dec (.val (.int .u8 (c.toNat : Int))) : Option UInt8) = some c := Enc.de c
@[simp high] theorem dec_u32' (c : UInt32) : (dec (.val (.int .u32 (c.toNat : Int))) : Option UInt32) = some c := Enc.de c
@[simp] theorem dec_u32 (n : Int) : (dec (.val (.int .u32 n)) : Option UInt32) = if 0 ≤ n ∧ n < 4294967296 then some (UInt32.ofNat n.toNat) else none := rfl
@[simp] theorem dec_rune (n : Int) : (dec (.val (.int .i32 n)) : Option Rune) = some ⟨n⟩ := rfl
@[simp] theorem dec_str (n : ByteArray) : (dec (.val (.string n)) : Option ByteArray) = some n := rfl
@[simp] theorem dec_list_nil : (dec (.val (.slice none 0 0)) : Option (List α)) = some [] := rfl
@[simp] theorem dec_list_emp (z : Nat) : (dec (.emp z) : Option (List α)) = some [] := rfl
@[simp] theorem dec_list_lit (z : Nat) (xs : List (List V)) : (dec (.lit z xs) : Option (List α)) = if z = Cel.sz α then decX xs else none := rfl
@[simp] theorem dec_list_full (z : Nat) (xs : List (List V)) : (dec (.full z xs) : Option (List α)) = if z = Cel.sz α then decX xs else none := rfl
@[simp] theorem dec_list_row (t z : Nat) (xs : List (List V)) : (dec (.row t z xs) : Option (List α)) = if z = Cel.sz α then decX xs else none := rfl
@[simp] theorem decX_nil : (decX [] : Option (List α)) = some [] := rfl
@[simp] theorem decX_cons (e : List V) (r : List (List V)) : (decX (e :: r) : Option (List α)) = (dc e).bind fun a => (decX r).bind fun l => some (a :: l) := rfl
@[simp] theorem sz_u8 : Cel.sz UInt8 = 1 := rfl
@[simp] theorem sz_nat : Cel.sz Nat = 1 := rfl
@[simp] theorem sz_int : Cel.sz Int = 1 := rfl
@[simp] theorem cs_u8 (n : UInt8) : cs n = [.val (.int .u8 n.toNat)] := rfl
@[simp] theorem cs_nat (n : Nat) : cs n = [.val (.int .u64 n)] := rfl
@[simp] theorem cs_int (n : Int) : cs n = [.val (.int .i64 n)] := rfl
@[simp] theorem dc_u8 (l : List V) : (dc l : Option UInt8) = dc1 l := rfl
@[simp] theorem dc_nat (l : List V) : (dc l : Option Nat) = dc1 l := rfl
@[simp] theorem dc_int (l : List V) : (dc l : Option Int) = dc1 l := rfl
theorem u8_wrap_b (n : Int) : 0 ≤ IntKind.u8.wrap n ∧ IntKind.u8.wrap n < 256 := by rw [IntKind.wrap_u8]; omega
@[simp] theorem u64_wrap_nn (n : Int) : 0 ≤ IntKind.u64.wrap n := by simp [IntKind.wrap, IntKind.bits, IntKind.signed]; omega
end

section
variable {α : Type} [Cel α]
theorem decX_drop' : ∀ (n : Nat) (xs : List (List V)) (l : List α), decX xs = some l → decX (xs.drop n) = some (l.drop n)
  | 0, _, _, h => h
  | n + 1, [], l, h => by cases h; rfl
  | n + 1, e :: r, l, h => by
    simp only [decX, Option.bind_eq_some_iff] at h
    obtain ⟨a, _, l', h2, h3⟩ := h
    cases h3
    exact decX_drop' n r l' h2
theorem decX_take' : ∀ (n : Nat) (xs : List (List V)) (l : List α), decX xs = some l → decX (xs.take n) = some (l.take n)
  | 0, _, _, _ => rfl
  | n + 1, [], l, h => by cases h; rfl
  | n + 1, e :: r, l, h => by
    simp only [decX, Option.bind_eq_some_iff] at h
    obtain ⟨a, h1, l', h2, h3⟩ := h
    cases h3
    simp [decX, h1, decX_take' n r l' h2]
@[simp] theorem decX_drop (n : Nat) (xs : List (List V)) (h : (decX xs : Option (List α)).isSome = true) : (decX (xs.drop n) : Option (List α)) = (decX xs).map (·.drop n) := by
  obtain ⟨l, hl⟩ := Option.isSome_iff_exists.1 h
  rw [decX_drop' n xs l hl, hl]; rfl
@[simp] theorem decX_take (n : Nat) (xs : List (List V)) (h : (decX xs : Option (List α)).isSome = true) : (decX (xs.take n) : Option (List α)) = (decX xs).map (·.take n) := by
  obtain ⟨l, hl⟩ := Option.isSome_iff_exists.1 h
  rw [decX_take' n xs l hl, hl]; rfl
end

@[simp] theorem clean_drop' (n : Nat) (l : List (List V)) (h : cleanX l = true) : cleanX (l.drop n) = true := clean_drop n l h
@[simp] theorem clean_take' (n : Nat) (l : List (List V)) (h : cleanX l = true) : cleanX (l.take n) = true := clean_take n l h
@[simp] theorem set_last {α : Type} (l : List α) (a b : α) : (l ++ [a]).set l.length b = l ++ [b] := by
  induction l with
  | nil => rfl
  | cons x l ih => simp
@[simp] theorem clean_rep (n : Nat) (c : List V) (h : cleanL c = true) : cleanX (List.replicate n c) = true := by
  induction n with
  | zero => rfl
  | succ n ih => rw [List.replicate_succ, cleanX, h, ih]; rfl
@[simp] theorem clean_app : ∀ (a b : List (List V)), cleanX (a ++ b) = (cleanX a && cleanX b)
  | [], b => by simp
  | x :: a, b => by simp [clean_app a b, Bool.and_assoc]

/-- A list's length, of whatever value says it. -/
theorem lenW_dec {α : Type} [Cel α] {v : V} {l : List α} (h : dec v = some l) (F : Int → Prop) : lenW v F = F l.length := by
  have key : ∀ {xs : List (List V)} {l : List α}, decX xs = some l → xs.length = l.length := by
    intro xs
    induction xs with
    | nil => intro l h; cases h; rfl
    | cons e r ih =>
      intro l h
      simp only [decX, Option.bind_eq_some_iff] at h
      obtain ⟨a, _, l', h2, h3⟩ := h
      cases h3
      simp [ih h2]
  have h0 : (fun v : V => match v with
    | .val (.slice none 0 0) => some []
    | .emp _ => some []
    | .lit z xs | .full z xs | .row _ z xs => if z = Cel.sz α then decX xs else none
    | _ => none) v = some l := h
  clear h
  simp only at h0
  split at h0
  · cases h0; simp
  · cases h0; simp
  · split at h0
    · simp [key h0]
    · cases h0
  · split at h0
    · simp [key h0]
    · cases h0
  · split at h0
    · simp [key h0]
    · cases h0
  · cases h0

theorem toBytes_eq : ∀ (xs : List (List V)), toBytes xs = (decX xs : Option (List UInt8))
  | [] => rfl
  | e :: r => by
    have ih := toBytes_eq r
    unfold toBytes
    split
    · rename_i h; cases h
    · rename_i n r' h
      cases h
      simp only [decX_cons, dc_u8, dc1, dec_u8]
      split
      · rw [ih]; cases (decX r : Option (List UInt8)) <;> simp
      · simp
    · rename_i h1 h2
      simp only [decX_cons, dc_u8]
      have : (dc1 e : Option UInt8) = none := by
        unfold dc1
        split
        · rename_i v
          show (match v with
            | .val (.int .u8 n) => if 0 ≤ n ∧ n < 256 then some (UInt8.ofNat n.toNat) else none
            | _ => none) = none
          split
          · rename_i n; exact absurd rfl (h2 n r)
          · rfl
        · rfl
      rw [this]
      rfl
attribute [simp] toBytes_eq fillV
@[simp] theorem binV_seq (a b : List UInt8) : binV .eql (.val (.string ⟨a.toArray⟩)) (.val (.string ⟨b.toArray⟩)) = some (.val (.bool (a == b))) := by
  show some (V.val (.bool ((ByteArray.mk a.toArray).toList == (ByteArray.mk b.toArray).toList))) = _
  rw [ByteArray.toList_mk, ByteArray.toList_mk]
@[simp] theorem binV_sne (a b : List UInt8) : binV .neq (.val (.string ⟨a.toArray⟩)) (.val (.string ⟨b.toArray⟩)) = some (.val (.bool (!(a == b)))) := by
  show some (V.val (.bool (!((ByteArray.mk a.toArray).toList == (ByteArray.mk b.toArray).toList)))) = _
  rw [ByteArray.toList_mk, ByteArray.toList_mk]

/-- An empty slice is none, or it is not. -/
theorem Pure.lit_cases {P : Program} {f : FuncId} {rest : List V} {r : V} {tips : List Tip} {α : Type} [Cel α] (l : List α) (h0 : l = [] → Pure P f (.val (.slice none 0 0) :: rest) r tips) (h1 : l = [] → Pure P f (.emp (Cel.sz α) :: rest) r tips)
    (h2 : ∀ x t, l = x :: t → Pure P f ((enc l : V) :: rest) r tips) : Pure P f ((enc l : V) :: rest) r tips := by
  cases l with
  | cons x t => exact h2 x t rfl
  | nil =>
    have h0 := h0 rfl
    have h1 := h1 rfl
    refine ⟨h0.1, h0.2.1, fun I w vals hI hr => ?_⟩
    obtain ⟨x, rl, e, hx, hrest⟩ := hr
    rcases hx with ⟨_, rfl⟩ | ⟨ad, c, rfl, _⟩
    · exact h0.2.2 I w vals hI ⟨_, rl, e, ⟨rfl, rfl⟩, hrest⟩
    · exact h1.2.2 I w vals hI ⟨_, rl, e, ⟨ad, c, rfl⟩, hrest⟩
end Go.Av

namespace Go.Av
open Go.Proofs

theorem hm : Try.prog.follows .mixedOrders = true := by kernel_rfl
@[simp] abbrev n_le_may : FuncId := 120
def F_le_may : F := ⟨(.seq (.ops [⟨(some 4), none, (.mov (.c (.bool false)))⟩]) (.seq (.seq (.ops [⟨(some 5), none, (.mov (.t 1))⟩]) (.block 0 (.seq (.seq (.ops [⟨(some 7), none, (.bin .eql (.t 5) (.c (.int .i64 1)))⟩, ⟨(some 6), none, (.mov (.t 7))⟩]) (.cond (.t 6) .skip (.seq (.ops [⟨(some 8), none, (.bin .eql (.t 5) (.c (.int .i64 2)))⟩, ⟨(some 6), none, (.mov (.t 8))⟩]) (.cond (.t 6) .skip (.ops [⟨(some 9), none, (.bin .eql (.t 5) (.c (.int .i64 4)))⟩, ⟨(some 6), none, (.mov (.t 9))⟩]))))) (.cond (.t 6) (.seq (.ops [⟨(some 10), none, (.mov (.t 0))⟩, ⟨(some 11), none, (.mov (.t 1))⟩, ⟨(some 12), none, (.bin .mul (.c (.int .i64 8)) (.t 11))⟩, ⟨(some 13), none, (.bin .shr (.t 10) (.t 12))⟩, ⟨(some 14), none, (.bin .eql (.t 13) (.c (.int .u64 0)))⟩, ⟨(some 4), none, (.mov (.t 14))⟩]) .ret) .skip)))) (.seq (.ops [⟨(some 15), none, (.mov (.t 1))⟩, ⟨(some 16), none, (.bin .eql (.t 15) (.c (.int .i64 8)))⟩, ⟨(some 4), none, (.mov (.t 16))⟩]) .ret))), 17, [(.tmp 4)]⟩
theorem F_le_may_ok : compF Try.prog (fun _ => true) 120 = some F_le_may := by kernel_rfl
@[simp] abbrev n_bytes_Clone : FuncId := 77
def F_bytes_Clone : F := ⟨(.seq (.ops [⟨(some 2), none, (.nil 5 1 true)⟩]) (.seq (.seq (.ops [⟨(some 3), none, (.mov (.t 0))⟩, ⟨(some 4), none, (.snil false (.t 3))⟩]) (.cond (.t 4) (.seq (.ops [⟨(some 2), none, (.nil 5 1 true)⟩]) .ret) .skip)) (.seq (.ops [⟨(some 5), none, (.mkl 5 1 [] true)⟩, ⟨(some 6), none, (.mov (.t 0))⟩, ⟨(some 7), none, (.app (.t 5) (.t 6) 5 1 1 true)⟩, ⟨(some 2), none, (.mov (.t 7))⟩]) .ret))), 8, [(.tmp 2)]⟩
theorem F_bytes_Clone_ok : compF Try.prog (fun _ => true) 77 = some F_bytes_Clone := by kernel_rfl
@[simp] abbrev n_le_Put : FuncId := 69
def F_le_Put_L0 : C := (.seq (.ops [⟨(some 17), none, (.bin .lss (.t 16) (.t 15))⟩]) (.seq (.cond (.t 17) .skip (.exit 0)) (.seq (.block 1 (.seq (.ops [⟨(some 18), none, (.mov (.t 8))⟩, ⟨(some 19), none, (.mov (.t 1))⟩, ⟨(some 20), none, (.conv .u8 (.t 19))⟩, ⟨(some 21), none, (.mkl 5 1 [(.t 20)] false)⟩, ⟨(some 22), none, (.app (.t 18) (.t 21) 5 1 1 true)⟩, ⟨(some 8), none, (.mov (.t 22))⟩]) (.ops [⟨(some 23), none, (.mov (.t 1))⟩, ⟨(some 24), none, (.bin .shr (.t 23) (.c (.int .u64 8)))⟩, ⟨(some 1), none, (.mov (.t 24))⟩]))) (.ops [⟨(some 25), none, (.bin .add (.t 16) (.c (.int .i64 1)))⟩, ⟨(some 16), none, (.mov (.t 25))⟩]))))
def F_le_Put : F := ⟨(.seq (.ops [⟨(some 6), none, (.nil 5 1 true)⟩, ⟨(some 7), none, (.mov (.c (.int .i64 0)))⟩]) (.seq (.seq (.ops [⟨(some 9), none, (.mov (.t 1))⟩, ⟨(some 10), none, (.mov (.t 2))⟩, ⟨(some 11), none, (.call 120 [(.t 9), (.t 10)])⟩, ⟨(some 12), none, (.un .not (.t 11))⟩]) (.cond (.t 12) (.seq (.ops [⟨(some 6), none, (.nil 5 1 true)⟩, ⟨(some 7), none, (.mov (.c (.int .i64 10)))⟩]) .ret) .skip)) (.seq (.ops [⟨(some 13), none, (.mov (.t 0))⟩, ⟨(some 14), none, (.call 77 [(.t 13)])⟩, ⟨(some 8), none, (.mov (.t 14))⟩]) (.seq (.seq (.ops [⟨(some 15), none, (.mov (.t 2))⟩, ⟨(some 16), none, (.mov (.c (.int .i64 0)))⟩]) (.block 0 (.loop F_le_Put_L0))) (.seq (.ops [⟨(some 26), none, (.mov (.t 8))⟩, ⟨(some 6), none, (.mov (.t 26))⟩, ⟨(some 7), none, (.mov (.c (.int .i64 0)))⟩]) .ret))))), 27, [(.tmp 6), (.tmp 7)]⟩
theorem F_le_Put_ok : compF Try.prog (fun d => !([21].contains d)) 69 = some F_le_Put := by kernel_rfl
@[simp] abbrev n_le_Take : FuncId := 90
def F_le_Take_L0 : C := (.seq (.ops [⟨(some 19), none, (.bin .lss (.t 18) (.t 17))⟩]) (.seq (.cond (.t 19) .skip (.exit 0)) (.seq (.block 1 (.seq (.ops [⟨(some 20), none, (.mov (.t 18))⟩, ⟨(some 7), none, (.mov (.t 20))⟩]) (.ops [⟨(some 21), none, (.mov (.t 4))⟩, ⟨(some 22), none, (.mov (.t 0))⟩, ⟨(some 23), none, (.mov (.t 7))⟩, ⟨(some 24), none, (.ixs (.t 22) (.t 23) 1)⟩, ⟨(some 25), none, (.lde (.t 24) none)⟩, ⟨(some 26), none, (.conv .u64 (.t 25))⟩, ⟨(some 27), none, (.mov (.t 7))⟩, ⟨(some 28), none, (.bin .mul (.c (.int .i64 8)) (.t 27))⟩, ⟨(some 29), none, (.bin .shl (.t 26) (.t 28))⟩, ⟨(some 30), none, (.bin .or (.t 21) (.t 29))⟩, ⟨(some 4), none, (.mov (.t 30))⟩]))) (.ops [⟨(some 31), none, (.bin .add (.t 18) (.c (.int .i64 1)))⟩, ⟨(some 18), none, (.mov (.t 31))⟩]))))
def F_le_Take : F := ⟨(.seq (.ops [⟨(some 4), none, (.mov (.c (.int .u64 0)))⟩, ⟨(some 5), none, (.nil 5 1 true)⟩, ⟨(some 6), none, (.mov (.c (.int .i64 0)))⟩]) (.seq (.seq (.ops [⟨(some 8), none, (.mov (.t 1))⟩, ⟨(some 9), none, (.call 120 [(.c (.int .u64 0)), (.t 8)])⟩, ⟨(some 10), none, (.un .not (.t 9))⟩, ⟨(some 11), none, (.mov (.t 10))⟩, ⟨(some 12), (some (11, false)), (.mov (.t 0))⟩, ⟨(some 13), (some (11, false)), (.len (.t 12))⟩, ⟨(some 14), (some (11, false)), (.mov (.t 1))⟩, ⟨(some 15), (some (11, false)), (.bin .lss (.t 13) (.t 14))⟩, ⟨(some 16), none, (.pick (.t 11) (.c (.bool true)) (.t 15))⟩]) (.cond (.t 16) (.seq (.ops [⟨(some 4), none, (.mov (.c (.int .u64 0)))⟩, ⟨(some 5), none, (.nil 5 1 true)⟩, ⟨(some 6), none, (.mov (.c (.int .i64 10)))⟩]) .ret) .skip)) (.seq (.seq (.ops [⟨(some 17), none, (.mov (.t 1))⟩, ⟨(some 18), none, (.mov (.c (.int .i64 0)))⟩]) (.block 0 (.loop F_le_Take_L0))) (.seq (.ops [⟨(some 32), none, (.mov (.t 4))⟩, ⟨(some 33), none, (.mov (.t 0))⟩, ⟨(some 34), none, (.mov (.t 1))⟩, ⟨(some 35), none, (.slc (.t 33) (some (.t 34)) none none 1)⟩, ⟨(some 36), none, (.call 77 [(.t 35)])⟩, ⟨(some 4), none, (.mov (.t 32))⟩, ⟨(some 5), none, (.mov (.t 36))⟩, ⟨(some 6), none, (.mov (.c (.int .i64 0)))⟩]) .ret)))), 37, [(.tmp 4), (.tmp 5), (.tmp 6)]⟩
theorem F_le_Take_ok : compF Try.prog (fun _ => true) 90 = some F_le_Take := by kernel_rfl
@[simp] abbrev n_le_size : FuncId := 121
def F_le_size : F := ⟨(.seq (.ops [⟨(some 2), none, (.mov (.c (.int .i64 0)))⟩]) (.seq (.seq (.ops [⟨(some 4), none, (.mov (.t 0))⟩, ⟨(some 5), none, (.call 170 [(.c (.string ⟨#[98, 104, 119, 113]⟩)), (.t 4)])⟩, ⟨(some 3), none, (.mov (.t 5))⟩]) (.seq (.ops [⟨(some 6), none, (.mov (.t 3))⟩, ⟨(some 7), none, (.bin .geq (.t 6) (.c (.int .i64 0)))⟩]) (.cond (.t 7) (.seq (.ops [⟨(some 8), none, (.mov (.t 3))⟩, ⟨(some 9), none, (.bin .shl (.c (.int .i64 1)) (.t 8))⟩, ⟨(some 2), none, (.mov (.t 9))⟩]) .ret) .skip))) (.seq (.ops [⟨(some 2), none, (.mov (.c (.int .i64 0)))⟩]) .ret))), 10, [(.tmp 2)]⟩
theorem F_le_size_ok : compF Try.prog (fun _ => true) 121 = some F_le_size := by kernel_rfl
@[simp] abbrev n_le_Pack : FuncId := 70
def F_le_Pack_L0 : C := (.seq (.ops [⟨(some 11), none, (.snx (.t 10))⟩, ⟨(some 12), none, (.ext (.t 11) 0)⟩]) (.seq (.cond (.t 12) .skip (.exit 0)) (.block 1 (.seq (.ops [⟨(some 13), none, (.ext (.t 11) 2)⟩, ⟨(some 8), none, (.mov (.t 13))⟩]) (.seq (.seq (.ops [⟨(some 14), none, (.mov (.t 6))⟩, ⟨(some 15), none, (.mov (.t 1))⟩, ⟨(some 16), none, (.len (.t 15))⟩, ⟨(some 17), none, (.bin .eql (.t 14) (.t 16))⟩]) (.cond (.t 17) (.seq (.ops [⟨(some 4), none, (.nil 5 1 true)⟩, ⟨(some 5), none, (.mov (.c (.int .i64 10)))⟩]) .ret) .skip)) (.seq (.seq (.dops false [] [⟨(some 19), none, (.mov (.t 4))⟩, ⟨(some 20), none, (.mov (.t 1))⟩, ⟨(some 21), none, (.mov (.t 6))⟩, ⟨(some 22), none, (.ixs (.t 20) (.t 21) 1)⟩, ⟨(some 23), none, (.lde (.t 22) none)⟩, ⟨(some 24), none, (.mov (.t 8))⟩, ⟨(some 25), none, (.call 121 [(.t 24)])⟩, ⟨(some 26), none, (.call 69 [(.t 19), (.t 23), (.t 25)])⟩, ⟨(some 18), none, (.mov (.t 26))⟩, ⟨(some 27), none, (.ext (.t 18) 0)⟩, ⟨(some 28), none, (.ext (.t 18) 1)⟩, ⟨(some 4), none, (.mov (.t 27))⟩, ⟨(some 5), none, (.mov (.t 28))⟩]) (.seq (.ops [⟨(some 29), none, (.mov (.t 5))⟩, ⟨(some 30), none, (.bin .neq (.t 29) (.c (.int .i64 0)))⟩]) (.cond (.t 30) (.seq (.ops [⟨(some 31), none, (.mov (.t 5))⟩, ⟨(some 4), none, (.nil 5 1 true)⟩, ⟨(some 5), none, (.mov (.t 31))⟩]) .ret) .skip))) (.ops [⟨(some 32), none, (.mov (.t 6))⟩, ⟨(some 33), none, (.bin .add (.t 32) (.c (.int .i64 1)))⟩, ⟨(some 6), none, (.mov (.t 33))⟩])))))))
def F_le_Pack : F := ⟨(.seq (.ops [⟨(some 4), none, (.nil 5 1 true)⟩, ⟨(some 5), none, (.mov (.c (.int .i64 0)))⟩]) (.seq (.ops [⟨(some 6), none, (.mov (.c (.int .i64 0)))⟩]) (.seq (.seq (.ops [⟨(some 9), none, (.mov (.t 0))⟩, ⟨(some 10), none, (.srg (.t 9))⟩]) (.block 0 (.loop F_le_Pack_L0))) (.seq (.seq (.ops [⟨(some 34), none, (.mov (.t 6))⟩, ⟨(some 35), none, (.mov (.t 1))⟩, ⟨(some 36), none, (.len (.t 35))⟩, ⟨(some 37), none, (.bin .lss (.t 34) (.t 36))⟩]) (.cond (.t 37) (.seq (.ops [⟨(some 4), none, (.nil 5 1 true)⟩, ⟨(some 5), none, (.mov (.c (.int .i64 10)))⟩]) .ret) .skip)) (.seq (.ops [⟨(some 38), none, (.mov (.t 4))⟩, ⟨(some 4), none, (.mov (.t 38))⟩, ⟨(some 5), none, (.mov (.c (.int .i64 0)))⟩]) .ret))))), 39, [(.tmp 4), (.tmp 5)]⟩
theorem F_le_Pack_ok : compF Try.prog (fun _ => true) 70 = some F_le_Pack := by kernel_rfl
@[simp] abbrev n_le_Unpack : FuncId := 82
def F_le_Unpack_L0 : C := (.seq (.ops [⟨(some 11), none, (.snx (.t 10))⟩, ⟨(some 12), none, (.ext (.t 11) 0)⟩]) (.seq (.cond (.t 12) .skip (.exit 0)) (.block 1 (.seq (.ops [⟨(some 13), none, (.ext (.t 11) 2)⟩, ⟨(some 7), none, (.mov (.t 13))⟩]) (.seq (.ops [⟨(some 8), none, (.mov (.c (.int .u64 0)))⟩]) (.seq (.seq (.ops [⟨(some 15), none, (.mov (.t 1))⟩, ⟨(some 16), none, (.mov (.t 7))⟩, ⟨(some 17), none, (.call 121 [(.t 16)])⟩, ⟨(some 18), none, (.call 90 [(.t 15), (.t 17)])⟩, ⟨(some 14), none, (.mov (.t 18))⟩, ⟨(some 19), none, (.ext (.t 14) 0)⟩, ⟨(some 20), none, (.ext (.t 14) 1)⟩, ⟨(some 21), none, (.ext (.t 14) 2)⟩, ⟨(some 8), none, (.mov (.t 19))⟩, ⟨(some 1), none, (.mov (.t 20))⟩, ⟨(some 5), none, (.mov (.t 21))⟩]) (.seq (.ops [⟨(some 22), none, (.mov (.t 5))⟩, ⟨(some 23), none, (.bin .neq (.t 22) (.c (.int .i64 0)))⟩]) (.cond (.t 23) (.seq (.ops [⟨(some 24), none, (.mov (.t 5))⟩, ⟨(some 4), none, (.nil 114 1 true)⟩, ⟨(some 5), none, (.mov (.t 24))⟩]) .ret) .skip))) (.ops [⟨(some 25), none, (.mov (.t 4))⟩, ⟨(some 26), none, (.mov (.t 8))⟩, ⟨(some 27), none, (.mkl 114 1 [(.t 26)] false)⟩, ⟨(some 28), none, (.app (.t 25) (.t 27) 114 1 8 true)⟩, ⟨(some 4), none, (.mov (.t 28))⟩])))))))
def F_le_Unpack : F := ⟨(.seq (.ops [⟨(some 4), none, (.nil 114 1 true)⟩, ⟨(some 5), none, (.mov (.c (.int .i64 0)))⟩]) (.seq (.seq (.ops [⟨(some 9), none, (.mov (.t 0))⟩, ⟨(some 10), none, (.srg (.t 9))⟩]) (.block 0 (.loop F_le_Unpack_L0))) (.seq (.seq (.ops [⟨(some 29), none, (.mov (.t 1))⟩, ⟨(some 30), none, (.len (.t 29))⟩, ⟨(some 31), none, (.bin .gtr (.t 30) (.c (.int .i64 0)))⟩]) (.cond (.t 31) (.seq (.ops [⟨(some 4), none, (.nil 114 1 true)⟩, ⟨(some 5), none, (.mov (.c (.int .i64 10)))⟩]) .ret) .skip)) (.seq (.ops [⟨(some 32), none, (.mov (.t 4))⟩, ⟨(some 4), none, (.mov (.t 32))⟩, ⟨(some 5), none, (.mov (.c (.int .i64 0)))⟩]) .ret)))), 33, [(.tmp 4), (.tmp 5)]⟩
theorem F_le_Unpack_ok : compF Try.prog (fun d => !([27].contains d)) 82 = some F_le_Unpack := by kernel_rfl
@[simp] abbrev n_r01_may : FuncId := 129
def F_r01_may : F := ⟨(.seq (.ops [⟨(some 2), none, (.mov (.c (.bool false)))⟩]) (.seq (.ops [⟨(some 3), none, (.mov (.t 0))⟩, ⟨(some 4), none, (.bin .eql (.t 3) (.c (.int .i64 1)))⟩, ⟨(some 5), none, (.mov (.t 4))⟩, ⟨(some 6), (some (5, false)), (.mov (.t 0))⟩, ⟨(some 7), (some (5, false)), (.bin .eql (.t 6) (.c (.int .i64 2)))⟩, ⟨(some 8), none, (.pick (.t 5) (.c (.bool true)) (.t 7))⟩, ⟨(some 9), none, (.mov (.t 8))⟩, ⟨(some 10), (some (9, false)), (.mov (.t 0))⟩, ⟨(some 11), (some (9, false)), (.bin .eql (.t 10) (.c (.int .i64 4)))⟩, ⟨(some 12), none, (.pick (.t 9) (.c (.bool true)) (.t 11))⟩, ⟨(some 13), none, (.mov (.t 12))⟩, ⟨(some 14), (some (13, false)), (.mov (.t 0))⟩, ⟨(some 15), (some (13, false)), (.bin .eql (.t 14) (.c (.int .i64 8)))⟩, ⟨(some 16), none, (.pick (.t 13) (.c (.bool true)) (.t 15))⟩, ⟨(some 2), none, (.mov (.t 16))⟩]) .ret)), 17, [(.tmp 2)]⟩
theorem F_r01_may_ok : compF Try.prog (fun _ => true) 129 = some F_r01_may := by kernel_rfl
@[simp] abbrev n_r01_size : FuncId := 125
def F_r01_size : F := ⟨(.seq (.ops [⟨(some 2), none, (.mov (.c (.int .i64 0)))⟩]) (.seq (.seq (.ops [⟨(some 3), none, (.mov (.t 0))⟩]) (.block 0 (.seq (.ops [⟨(some 5), none, (.bin .eql (.t 3) (.c (.int .u8 98)))⟩, ⟨(some 4), none, (.mov (.t 5))⟩]) (.cond (.t 4) (.seq (.ops [⟨(some 2), none, (.mov (.c (.int .i64 1)))⟩]) .ret) (.seq (.ops [⟨(some 7), none, (.bin .eql (.t 3) (.c (.int .u8 104)))⟩, ⟨(some 6), none, (.mov (.t 7))⟩]) (.cond (.t 6) (.seq (.ops [⟨(some 2), none, (.mov (.c (.int .i64 2)))⟩]) .ret) (.seq (.ops [⟨(some 9), none, (.bin .eql (.t 3) (.c (.int .u8 119)))⟩, ⟨(some 8), none, (.mov (.t 9))⟩]) (.cond (.t 8) (.seq (.ops [⟨(some 2), none, (.mov (.c (.int .i64 4)))⟩]) .ret) (.seq (.ops [⟨(some 11), none, (.bin .eql (.t 3) (.c (.int .u8 113)))⟩, ⟨(some 10), none, (.mov (.t 11))⟩]) (.cond (.t 10) (.seq (.ops [⟨(some 2), none, (.mov (.c (.int .i64 8)))⟩]) .ret) .skip)))))))))) (.seq (.ops [⟨(some 2), none, (.mov (.c (.int .i64 0)))⟩]) .ret))), 12, [(.tmp 2)]⟩
theorem F_r01_size_ok : compF Try.prog (fun _ => true) 125 = some F_r01_size := by kernel_rfl
@[simp] abbrev n_r01_Put : FuncId := 78
def F_r01_Put_L0 : C := (.seq (.seq (.ops [⟨(some 30), none, (.mov (.t 10))⟩, ⟨(some 31), none, (.mov (.t 2))⟩, ⟨(some 32), none, (.bin .lss (.t 30) (.t 31))⟩]) (.cond (.t 32) .skip (.exit 0))) (.seq (.block 1 (.ops [⟨(some 35), none, (.mov (.t 9))⟩, ⟨(some 36), none, (.mov (.t 1))⟩, ⟨(some 37), none, (.mov (.t 10))⟩, ⟨(some 38), none, (.bin .mul (.c (.int .i64 8)) (.t 37))⟩, ⟨(some 39), none, (.conv .u64 (.t 38))⟩, ⟨(some 40), none, (.bin .shr (.t 36) (.t 39))⟩, ⟨(some 41), none, (.conv .u8 (.t 40))⟩, ⟨(some 42), none, (.mkl 5 1 [(.t 41)] false)⟩, ⟨(some 43), none, (.app (.t 35) (.t 42) 5 1 1 true)⟩, ⟨(some 9), none, (.mov (.t 43))⟩])) (.ops [⟨(some 33), none, (.mov (.t 10))⟩, ⟨(some 34), none, (.bin .add (.t 33) (.c (.int .i64 1)))⟩, ⟨(some 10), none, (.mov (.t 34))⟩])))
def F_r01_Put : F := ⟨(.seq (.ops [⟨(some 6), none, (.nil 5 1 true)⟩, ⟨(some 7), none, (.mov (.c (.int .i64 0)))⟩]) (.seq (.ops [⟨(some 11), none, (.mov (.t 2))⟩, ⟨(some 12), none, (.call 129 [(.t 11)])⟩, ⟨(some 8), none, (.mov (.t 12))⟩]) (.seq (.seq (.ops [⟨(some 13), none, (.mov (.t 8))⟩, ⟨(some 14), none, (.un .not (.t 13))⟩, ⟨(some 15), none, (.mov (.t 14))⟩, ⟨(some 16), (some (15, false)), (.mov (.t 2))⟩, ⟨(some 17), (some (15, false)), (.bin .lss (.t 16) (.c (.int .i64 8)))⟩, ⟨(some 18), (some (15, false)), (.mov (.t 17))⟩, ⟨(some 19), (some (18, true)), (.mov (.t 1))⟩, ⟨(some 20), (some (18, true)), (.mov (.t 2))⟩, ⟨(some 21), (some (18, true)), (.bin .mul (.c (.int .i64 8)) (.t 20))⟩, ⟨(some 22), (some (18, true)), (.conv .u64 (.t 21))⟩, ⟨(some 23), (some (18, true)), (.bin .shr (.t 19) (.t 22))⟩, ⟨(some 24), (some (18, true)), (.bin .neq (.t 23) (.c (.int .u64 0)))⟩, ⟨(some 25), (some (15, false)), (.pick (.t 18) (.t 24) (.c (.bool false)))⟩, ⟨(some 26), none, (.pick (.t 15) (.c (.bool true)) (.t 25))⟩]) (.cond (.t 26) (.seq (.ops [⟨(some 6), none, (.nil 5 1 true)⟩, ⟨(some 7), none, (.mov (.c (.int .i64 10)))⟩]) .ret) .skip)) (.seq (.ops [⟨(some 27), none, (.mkl 5 1 [] true)⟩, ⟨(some 28), none, (.mov (.t 0))⟩, ⟨(some 29), none, (.app (.t 27) (.t 28) 5 1 1 true)⟩, ⟨(some 9), none, (.mov (.t 29))⟩]) (.seq (.seq (.ops [⟨(some 10), none, (.mov (.c (.int .i64 0)))⟩]) (.block 0 (.loop F_r01_Put_L0))) (.seq (.ops [⟨(some 44), none, (.mov (.t 9))⟩, ⟨(some 6), none, (.mov (.t 44))⟩, ⟨(some 7), none, (.mov (.c (.int .i64 0)))⟩]) .ret)))))), 45, [(.tmp 6), (.tmp 7)]⟩
theorem F_r01_Put_ok : compF Try.prog (fun d => !([42].contains d)) 78 = some F_r01_Put := by kernel_rfl
@[simp] abbrev n_r01_Take : FuncId := 133
def F_r01_Take_L0 : C := (.seq (.seq (.ops [⟨(some 22), none, (.mov (.t 9))⟩, ⟨(some 23), none, (.bin .geq (.t 22) (.c (.int .i64 0)))⟩]) (.cond (.t 23) .skip (.exit 0))) (.seq (.block 1 (.ops [⟨(some 26), none, (.mov (.t 8))⟩, ⟨(some 27), none, (.bin .mul (.t 26) (.c (.int .u64 256)))⟩, ⟨(some 28), none, (.mov (.t 0))⟩, ⟨(some 29), none, (.mov (.t 9))⟩, ⟨(some 30), none, (.ixs (.t 28) (.t 29) 1)⟩, ⟨(some 31), none, (.lde (.t 30) none)⟩, ⟨(some 32), none, (.conv .u64 (.t 31))⟩, ⟨(some 33), none, (.bin .add (.t 27) (.t 32))⟩, ⟨(some 8), none, (.mov (.t 33))⟩])) (.ops [⟨(some 24), none, (.mov (.t 9))⟩, ⟨(some 25), none, (.bin .sub (.t 24) (.c (.int .i64 1)))⟩, ⟨(some 9), none, (.mov (.t 25))⟩])))
def F_r01_Take : F := ⟨(.seq (.ops [⟨(some 4), none, (.mov (.c (.int .u64 0)))⟩, ⟨(some 5), none, (.nil 5 1 true)⟩, ⟨(some 6), none, (.mov (.c (.int .i64 0)))⟩]) (.seq (.ops [⟨(some 10), none, (.mov (.t 1))⟩, ⟨(some 11), none, (.call 129 [(.t 10)])⟩, ⟨(some 7), none, (.mov (.t 11))⟩]) (.seq (.seq (.ops [⟨(some 12), none, (.mov (.t 7))⟩, ⟨(some 13), none, (.un .not (.t 12))⟩, ⟨(some 14), none, (.mov (.t 13))⟩, ⟨(some 15), (some (14, false)), (.mov (.t 0))⟩, ⟨(some 16), (some (14, false)), (.len (.t 15))⟩, ⟨(some 17), (some (14, false)), (.mov (.t 1))⟩, ⟨(some 18), (some (14, false)), (.bin .lss (.t 16) (.t 17))⟩, ⟨(some 19), none, (.pick (.t 14) (.c (.bool true)) (.t 18))⟩]) (.cond (.t 19) (.seq (.ops [⟨(some 4), none, (.mov (.c (.int .u64 0)))⟩, ⟨(some 5), none, (.nil 5 1 true)⟩, ⟨(some 6), none, (.mov (.c (.int .i64 10)))⟩]) .ret) .skip)) (.seq (.ops [⟨(some 8), none, (.mov (.c (.int .u64 0)))⟩]) (.seq (.seq (.ops [⟨(some 20), none, (.mov (.t 1))⟩, ⟨(some 21), none, (.bin .sub (.t 20) (.c (.int .i64 1)))⟩, ⟨(some 9), none, (.mov (.t 21))⟩]) (.block 0 (.loop F_r01_Take_L0))) (.seq (.ops [⟨(some 34), none, (.mov (.t 8))⟩, ⟨(some 35), none, (.mkl 5 1 [] true)⟩, ⟨(some 36), none, (.mov (.t 0))⟩, ⟨(some 37), none, (.mov (.t 1))⟩, ⟨(some 38), none, (.slc (.t 36) (some (.t 37)) none none 1)⟩, ⟨(some 39), none, (.app (.t 35) (.t 38) 5 1 1 true)⟩, ⟨(some 4), none, (.mov (.t 34))⟩, ⟨(some 5), none, (.mov (.t 39))⟩, ⟨(some 6), none, (.mov (.c (.int .i64 0)))⟩]) .ret)))))), 40, [(.tmp 4), (.tmp 5), (.tmp 6)]⟩
theorem F_r01_Take_ok : compF Try.prog (fun _ => true) 133 = some F_r01_Take := by kernel_rfl
@[simp] abbrev n_r01_Pack : FuncId := 73
def F_r01_Pack_L0 : C := (.seq (.seq (.ops [⟨(some 15), none, (.mov (.t 7))⟩, ⟨(some 16), none, (.mov (.t 0))⟩, ⟨(some 17), none, (.slen (.t 16))⟩, ⟨(some 18), none, (.bin .lss (.t 15) (.t 17))⟩]) (.cond (.t 18) .skip (.exit 0))) (.seq (.block 1 (.seq (.dops false [] [⟨(some 22), none, (.mov (.t 6))⟩, ⟨(some 23), none, (.mov (.t 1))⟩, ⟨(some 24), none, (.mov (.t 7))⟩, ⟨(some 25), none, (.ixs (.t 23) (.t 24) 1)⟩, ⟨(some 26), none, (.lde (.t 25) none)⟩, ⟨(some 27), none, (.mov (.t 0))⟩, ⟨(some 28), none, (.mov (.t 7))⟩, ⟨(some 29), none, (.sidx (.t 27) (.t 28))⟩, ⟨(some 30), none, (.call 125 [(.t 29)])⟩, ⟨(some 31), none, (.call 78 [(.t 22), (.t 26), (.t 30)])⟩, ⟨(some 21), none, (.mov (.t 31))⟩, ⟨(some 32), none, (.ext (.t 21) 0)⟩, ⟨(some 33), none, (.ext (.t 21) 1)⟩, ⟨(some 8), none, (.mov (.t 32))⟩, ⟨(some 9), none, (.mov (.t 33))⟩]) (.seq (.seq (.ops [⟨(some 34), none, (.mov (.t 9))⟩, ⟨(some 35), none, (.bin .neq (.t 34) (.c (.int .i64 0)))⟩]) (.cond (.t 35) (.seq (.ops [⟨(some 4), none, (.nil 5 1 true)⟩, ⟨(some 5), none, (.mov (.c (.int .i64 10)))⟩]) .ret) .skip)) (.ops [⟨(some 36), none, (.mov (.t 8))⟩, ⟨(some 6), none, (.mov (.t 36))⟩])))) (.ops [⟨(some 19), none, (.mov (.t 7))⟩, ⟨(some 20), none, (.bin .add (.t 19) (.c (.int .i64 1)))⟩, ⟨(some 7), none, (.mov (.t 20))⟩])))
def F_r01_Pack : F := ⟨(.seq (.ops [⟨(some 4), none, (.nil 5 1 true)⟩, ⟨(some 5), none, (.mov (.c (.int .i64 0)))⟩]) (.seq (.seq (.ops [⟨(some 10), none, (.mov (.t 0))⟩, ⟨(some 11), none, (.slen (.t 10))⟩, ⟨(some 12), none, (.mov (.t 1))⟩, ⟨(some 13), none, (.len (.t 12))⟩, ⟨(some 14), none, (.bin .neq (.t 11) (.t 13))⟩]) (.cond (.t 14) (.seq (.ops [⟨(some 4), none, (.nil 5 1 true)⟩, ⟨(some 5), none, (.mov (.c (.int .i64 10)))⟩]) .ret) .skip)) (.seq (.ops [⟨(some 6), none, (.nil 5 1 true)⟩]) (.seq (.seq (.ops [⟨(some 7), none, (.mov (.c (.int .i64 0)))⟩]) (.block 0 (.loop F_r01_Pack_L0))) (.seq (.ops [⟨(some 37), none, (.mov (.t 6))⟩, ⟨(some 4), none, (.mov (.t 37))⟩, ⟨(some 5), none, (.mov (.c (.int .i64 0)))⟩]) .ret))))), 38, [(.tmp 4), (.tmp 5)]⟩
theorem F_r01_Pack_ok : compF Try.prog (fun _ => true) 73 = some F_r01_Pack := by kernel_rfl
@[simp] abbrev n_r01_Unpack : FuncId := 85
def F_r01_Unpack_L0 : C := (.seq (.seq (.ops [⟨(some 11), none, (.mov (.t 7))⟩, ⟨(some 12), none, (.mov (.t 0))⟩, ⟨(some 13), none, (.slen (.t 12))⟩, ⟨(some 14), none, (.bin .lss (.t 11) (.t 13))⟩]) (.cond (.t 14) .skip (.exit 0))) (.seq (.block 1 (.seq (.ops [⟨(some 18), none, (.mov (.t 1))⟩, ⟨(some 19), none, (.mov (.t 0))⟩, ⟨(some 20), none, (.mov (.t 7))⟩, ⟨(some 21), none, (.sidx (.t 19) (.t 20))⟩, ⟨(some 22), none, (.call 125 [(.t 21)])⟩, ⟨(some 23), none, (.call 133 [(.t 18), (.t 22)])⟩, ⟨(some 17), none, (.mov (.t 23))⟩, ⟨(some 24), none, (.ext (.t 17) 0)⟩, ⟨(some 25), none, (.ext (.t 17) 1)⟩, ⟨(some 26), none, (.ext (.t 17) 2)⟩, ⟨(some 8), none, (.mov (.t 24))⟩, ⟨(some 9), none, (.mov (.t 25))⟩, ⟨(some 10), none, (.mov (.t 26))⟩]) (.seq (.seq (.ops [⟨(some 27), none, (.mov (.t 10))⟩, ⟨(some 28), none, (.bin .neq (.t 27) (.c (.int .i64 0)))⟩]) (.cond (.t 28) (.seq (.ops [⟨(some 4), none, (.nil 114 1 true)⟩, ⟨(some 5), none, (.mov (.c (.int .i64 10)))⟩]) .ret) .skip)) (.seq (.ops [⟨(some 29), none, (.mov (.t 6))⟩, ⟨(some 30), none, (.mov (.t 8))⟩, ⟨(some 31), none, (.mkl 114 1 [(.t 30)] false)⟩, ⟨(some 32), none, (.app (.t 29) (.t 31) 114 1 8 true)⟩, ⟨(some 6), none, (.mov (.t 32))⟩]) (.ops [⟨(some 33), none, (.mov (.t 9))⟩, ⟨(some 1), none, (.mov (.t 33))⟩]))))) (.ops [⟨(some 15), none, (.mov (.t 7))⟩, ⟨(some 16), none, (.bin .add (.t 15) (.c (.int .i64 1)))⟩, ⟨(some 7), none, (.mov (.t 16))⟩])))
def F_r01_Unpack : F := ⟨(.seq (.ops [⟨(some 4), none, (.nil 114 1 true)⟩, ⟨(some 5), none, (.mov (.c (.int .i64 0)))⟩]) (.seq (.ops [⟨(some 6), none, (.nil 114 1 true)⟩]) (.seq (.seq (.ops [⟨(some 7), none, (.mov (.c (.int .i64 0)))⟩]) (.block 0 (.loop F_r01_Unpack_L0))) (.seq (.seq (.ops [⟨(some 34), none, (.mov (.t 1))⟩, ⟨(some 35), none, (.len (.t 34))⟩, ⟨(some 36), none, (.bin .gtr (.t 35) (.c (.int .i64 0)))⟩]) (.cond (.t 36) (.seq (.ops [⟨(some 4), none, (.nil 114 1 true)⟩, ⟨(some 5), none, (.mov (.c (.int .i64 10)))⟩]) .ret) .skip)) (.seq (.ops [⟨(some 37), none, (.mov (.t 6))⟩, ⟨(some 4), none, (.mov (.t 37))⟩, ⟨(some 5), none, (.mov (.c (.int .i64 0)))⟩]) .ret))))), 38, [(.tmp 4), (.tmp 5)]⟩
theorem F_r01_Unpack_ok : compF Try.prog (fun d => !([31].contains d)) 85 = some F_r01_Unpack := by kernel_rfl
@[simp] abbrev n_strings_IndexRune : FuncId := 170
def F_strings_IndexRune_L0 : C := (.seq (.seq (.ops [⟨(some 140), none, (.mov (.t 16))⟩, ⟨(some 141), none, (.mov (.t 7))⟩, ⟨(some 142), none, (.slen (.t 141))⟩, ⟨(some 143), none, (.bin .lss (.t 140) (.t 142))⟩]) (.cond (.t 143) .skip (.exit 7))) (.seq (.block 8 (.seq (.dops false [] [⟨(some 146), none, (.mov (.t 0))⟩, ⟨(some 147), none, (.mov (.t 9))⟩, ⟨(some 148), none, (.mov (.t 16))⟩, ⟨(some 149), none, (.bin .sub (.t 147) (.t 148))⟩, ⟨(some 150), none, (.sidx (.t 146) (.t 149))⟩, ⟨(some 151), none, (.mov (.t 7))⟩, ⟨(some 152), none, (.mov (.t 8))⟩, ⟨(some 153), none, (.mov (.t 16))⟩, ⟨(some 154), none, (.bin .sub (.t 152) (.t 153))⟩, ⟨(some 155), none, (.sidx (.t 151) (.t 154))⟩, ⟨(some 156), none, (.bin .neq (.t 150) (.t 155))⟩]) (.cond (.t 156) (.exit 6) .skip))) (.ops [⟨(some 144), none, (.mov (.t 16))⟩, ⟨(some 145), none, (.bin .add (.t 144) (.c (.int .i64 1)))⟩, ⟨(some 16), none, (.mov (.t 145))⟩])))
def F_strings_IndexRune_L1 : C := (.seq (.seq (.ops [⟨(some 121), none, (.mov (.t 9))⟩, ⟨(some 122), none, (.mov (.t 0))⟩, ⟨(some 123), none, (.slen (.t 122))⟩, ⟨(some 124), none, (.bin .lss (.t 121) (.t 123))⟩]) (.cond (.t 124) .skip (.exit 5))) (.seq (.block 6 (.seq (.ops [⟨(some 127), none, (.mov (.t 0))⟩, ⟨(some 128), none, (.mov (.t 9))⟩, ⟨(some 129), none, (.sidx (.t 127) (.t 128))⟩, ⟨(some 130), none, (.mov (.t 14))⟩, ⟨(some 131), none, (.bin .eql (.t 129) (.t 130))⟩, ⟨(some 132), none, (.mov (.t 131))⟩, ⟨(some 133), (some (132, true)), (.mov (.t 0))⟩, ⟨(some 134), (some (132, true)), (.mov (.t 9))⟩, ⟨(some 135), (some (132, true)), (.bin .sub (.t 134) (.c (.int .i64 1)))⟩, ⟨(some 136), (some (132, true)), (.sidx (.t 133) (.t 135))⟩, ⟨(some 137), (some (132, true)), (.mov (.t 15))⟩, ⟨(some 138), (some (132, true)), (.bin .eql (.t 136) (.t 137))⟩, ⟨(some 139), none, (.pick (.t 132) (.t 138) (.c (.bool false)))⟩]) (.cond (.t 139) (.seq (.seq (.ops [⟨(some 16), none, (.mov (.c (.int .i64 2)))⟩]) (.block 7 (.loop F_strings_IndexRune_L0))) (.seq (.ops [⟨(some 157), none, (.mov (.t 9))⟩, ⟨(some 158), none, (.mov (.t 8))⟩, ⟨(some 159), none, (.bin .sub (.t 157) (.t 158))⟩, ⟨(some 4), none, (.mov (.t 159))⟩]) .ret)) .skip))) (.ops [⟨(some 125), none, (.mov (.t 9))⟩, ⟨(some 126), none, (.bin .add (.t 125) (.c (.int .i64 1)))⟩, ⟨(some 9), none, (.mov (.t 126))⟩])))
def F_strings_IndexRune_L2 : C := (.seq (.seq (.ops [⟨(some 48), none, (.mov (.t 12))⟩, ⟨(some 49), none, (.mov (.t 7))⟩, ⟨(some 50), none, (.slen (.t 49))⟩, ⟨(some 51), none, (.bin .lss (.t 48) (.t 50))⟩]) (.cond (.t 51) .skip (.exit 3))) (.seq (.block 4 (.seq (.dops false [] [⟨(some 54), none, (.mov (.t 0))⟩, ⟨(some 55), none, (.mov (.t 9))⟩, ⟨(some 56), none, (.mov (.t 12))⟩, ⟨(some 57), none, (.bin .sub (.t 55) (.t 56))⟩, ⟨(some 58), none, (.sidx (.t 54) (.t 57))⟩, ⟨(some 59), none, (.mov (.t 7))⟩, ⟨(some 60), none, (.mov (.t 8))⟩, ⟨(some 61), none, (.mov (.t 12))⟩, ⟨(some 62), none, (.bin .sub (.t 60) (.t 61))⟩, ⟨(some 63), none, (.sidx (.t 59) (.t 62))⟩, ⟨(some 64), none, (.bin .neq (.t 58) (.t 63))⟩]) (.cond (.t 64) (.goto 0) .skip))) (.ops [⟨(some 52), none, (.mov (.t 12))⟩, ⟨(some 53), none, (.bin .add (.t 52) (.c (.int .i64 1)))⟩, ⟨(some 12), none, (.mov (.t 53))⟩])))
def F_strings_IndexRune_L3 : C := (.seq (.seq (.ops [⟨(some 23), none, (.mov (.t 9))⟩, ⟨(some 24), none, (.mov (.t 0))⟩, ⟨(some 25), none, (.slen (.t 24))⟩, ⟨(some 26), none, (.bin .lss (.t 23) (.t 25))⟩]) (.cond (.t 26) .skip (.exit 1))) (.block 2 (.scopeJ (.seq (.seq (.dops false [] [⟨(some 27), none, (.mov (.t 0))⟩, ⟨(some 28), none, (.mov (.t 9))⟩, ⟨(some 29), none, (.sidx (.t 27) (.t 28))⟩, ⟨(some 30), none, (.mov (.t 7))⟩, ⟨(some 31), none, (.mov (.t 8))⟩, ⟨(some 32), none, (.sidx (.t 30) (.t 31))⟩, ⟨(some 33), none, (.bin .neq (.t 29) (.t 32))⟩]) (.cond (.t 33) (.seq (.dops false [] [⟨(some 34), none, (.mov (.t 0))⟩, ⟨(some 35), none, (.mov (.t 9))⟩, ⟨(some 36), none, (.bin .add (.t 35) (.c (.int .i64 1)))⟩, ⟨(some 37), none, .dead⟩, ⟨(some 38), none, (.mov (.t 7))⟩, ⟨(some 39), none, (.mov (.t 8))⟩, ⟨(some 40), none, (.sidx (.t 38) (.t 39))⟩, ⟨(some 41), none, (.call 195 [(.t 37), (.t 40)])⟩, ⟨(some 11), none, (.mov (.t 41))⟩]) (.seq (.seq (.ops [⟨(some 42), none, (.mov (.t 11))⟩, ⟨(some 43), none, (.bin .lss (.t 42) (.c (.int .i64 0)))⟩]) (.cond (.t 43) (.seq (.ops [⟨(some 4), none, (.mov (.c (.int .i64 (-1))))⟩]) .ret) .skip)) (.ops [⟨(some 44), none, (.mov (.t 9))⟩, ⟨(some 45), none, (.mov (.t 11))⟩, ⟨(some 46), none, (.bin .add (.t 45) (.c (.int .i64 1)))⟩, ⟨(some 47), none, (.bin .add (.t 44) (.t 46))⟩, ⟨(some 9), none, (.mov (.t 47))⟩]))) .skip)) (.seq (.seq (.ops [⟨(some 12), none, (.mov (.c (.int .i64 1)))⟩]) (.block 3 (.loop F_strings_IndexRune_L2))) (.seq (.seq (.ops [⟨(some 65), none, (.mov (.t 9))⟩, ⟨(some 66), none, (.mov (.t 8))⟩, ⟨(some 67), none, (.bin .sub (.t 65) (.t 66))⟩, ⟨(some 4), none, (.mov (.t 67))⟩]) .ret) (.seq (.label 0) (.seq (.ops [⟨(some 68), none, (.mov (.t 10))⟩, ⟨(some 69), none, (.bin .add (.t 68) (.c (.int .i64 1)))⟩, ⟨(some 10), none, (.mov (.t 69))⟩]) (.seq (.ops [⟨(some 70), none, (.mov (.t 9))⟩, ⟨(some 71), none, (.bin .add (.t 70) (.c (.int .i64 1)))⟩, ⟨(some 9), none, (.mov (.t 71))⟩]) (.seq (.ops [⟨(some 72), none, (.mov (.c (.bool true)))⟩, ⟨(some 73), (some (72, true)), (.mov (.t 10))⟩, ⟨(some 74), (some (72, true)), (.mov (.t 9))⟩, ⟨(some 75), (some (72, true)), (.call 197 [(.t 74)])⟩, ⟨(some 76), (some (72, true)), (.bin .gtr (.t 73) (.t 75))⟩, ⟨(some 77), none, (.pick (.t 72) (.t 76) (.c (.bool false)))⟩, ⟨(some 78), none, (.mov (.t 77))⟩, ⟨(some 79), (some (78, true)), (.mov (.t 9))⟩, ⟨(some 80), (some (78, true)), (.mov (.t 0))⟩, ⟨(some 81), (some (78, true)), (.slen (.t 80))⟩, ⟨(some 82), (some (78, true)), (.bin .lss (.t 79) (.t 81))⟩, ⟨(some 83), none, (.pick (.t 78) (.t 82) (.c (.bool false)))⟩, ⟨(some 84), none, (.mov (.t 83))⟩, ⟨(some 85), (some (84, false)), (.mov (.c (.bool false)))⟩, ⟨(some 86), (some (85, true)), (.mov (.t 10))⟩, ⟨(some 87), (some (85, true)), (.mov (.t 9))⟩, ⟨(some 88), (some (85, true)), (.bin .shr (.t 87) (.c (.int .u64 4)))⟩, ⟨(some 89), (some (85, true)), (.bin .add (.c (.int .i64 4)) (.t 88))⟩, ⟨(some 90), (some (85, true)), (.bin .geq (.t 86) (.t 89))⟩, ⟨(some 91), (some (84, false)), (.pick (.t 85) (.t 90) (.c (.bool false)))⟩, ⟨(some 92), (some (84, false)), (.mov (.t 91))⟩, ⟨(some 93), (some (92, true)), (.mov (.t 9))⟩, ⟨(some 94), (some (92, true)), (.mov (.t 0))⟩, ⟨(some 95), (some (92, true)), (.slen (.t 94))⟩, ⟨(some 96), (some (92, true)), (.bin .lss (.t 93) (.t 95))⟩, ⟨(some 97), (some (84, false)), (.pick (.t 92) (.t 96) (.c (.bool false)))⟩, ⟨(some 98), none, (.pick (.t 84) (.c (.bool true)) (.t 97))⟩]) (.cond (.t 98) (.goto 1) .skip)))))))) 0 (.seq .skip (.seq (.ops [⟨(some 68), none, (.mov (.t 10))⟩, ⟨(some 69), none, (.bin .add (.t 68) (.c (.int .i64 1)))⟩, ⟨(some 10), none, (.mov (.t 69))⟩]) (.seq (.ops [⟨(some 70), none, (.mov (.t 9))⟩, ⟨(some 71), none, (.bin .add (.t 70) (.c (.int .i64 1)))⟩, ⟨(some 9), none, (.mov (.t 71))⟩]) (.seq (.ops [⟨(some 72), none, (.mov (.c (.bool true)))⟩, ⟨(some 73), (some (72, true)), (.mov (.t 10))⟩, ⟨(some 74), (some (72, true)), (.mov (.t 9))⟩, ⟨(some 75), (some (72, true)), (.call 197 [(.t 74)])⟩, ⟨(some 76), (some (72, true)), (.bin .gtr (.t 73) (.t 75))⟩, ⟨(some 77), none, (.pick (.t 72) (.t 76) (.c (.bool false)))⟩, ⟨(some 78), none, (.mov (.t 77))⟩, ⟨(some 79), (some (78, true)), (.mov (.t 9))⟩, ⟨(some 80), (some (78, true)), (.mov (.t 0))⟩, ⟨(some 81), (some (78, true)), (.slen (.t 80))⟩, ⟨(some 82), (some (78, true)), (.bin .lss (.t 79) (.t 81))⟩, ⟨(some 83), none, (.pick (.t 78) (.t 82) (.c (.bool false)))⟩, ⟨(some 84), none, (.mov (.t 83))⟩, ⟨(some 85), (some (84, false)), (.mov (.c (.bool false)))⟩, ⟨(some 86), (some (85, true)), (.mov (.t 10))⟩, ⟨(some 87), (some (85, true)), (.mov (.t 9))⟩, ⟨(some 88), (some (85, true)), (.bin .shr (.t 87) (.c (.int .u64 4)))⟩, ⟨(some 89), (some (85, true)), (.bin .add (.c (.int .i64 4)) (.t 88))⟩, ⟨(some 90), (some (85, true)), (.bin .geq (.t 86) (.t 89))⟩, ⟨(some 91), (some (84, false)), (.pick (.t 85) (.t 90) (.c (.bool false)))⟩, ⟨(some 92), (some (84, false)), (.mov (.t 91))⟩, ⟨(some 93), (some (92, true)), (.mov (.t 9))⟩, ⟨(some 94), (some (92, true)), (.mov (.t 0))⟩, ⟨(some 95), (some (92, true)), (.slen (.t 94))⟩, ⟨(some 96), (some (92, true)), (.bin .lss (.t 93) (.t 95))⟩, ⟨(some 97), (some (84, false)), (.pick (.t 92) (.t 96) (.c (.bool false)))⟩, ⟨(some 98), none, (.pick (.t 84) (.c (.bool true)) (.t 97))⟩]) (.cond (.t 98) (.goto 1) .skip))))))))
def F_strings_IndexRune_L4 : C := (.seq (.ops [⟨(some 176), none, (.snx (.t 175))⟩, ⟨(some 177), none, (.ext (.t 176) 0)⟩]) (.seq (.cond (.t 177) .skip (.exit 9)) (.block 10 (.seq (.ops [⟨(some 178), none, (.ext (.t 176) 1)⟩, ⟨(some 179), none, (.ext (.t 176) 2)⟩, ⟨(some 5), none, (.mov (.t 178))⟩, ⟨(some 6), none, (.mov (.t 179))⟩]) (.seq (.ops [⟨(some 180), none, (.mov (.t 6))⟩, ⟨(some 181), none, (.bin .eql (.t 180) (.c (.int .i32 65533)))⟩]) (.cond (.t 181) (.seq (.ops [⟨(some 182), none, (.mov (.t 5))⟩, ⟨(some 4), none, (.mov (.t 182))⟩]) .ret) .skip))))))
def F_strings_IndexRune : F := ⟨(.seq (.ops [⟨(some 4), none, (.mov (.c (.int .i64 0)))⟩]) (.block 0 (.seq (.ops [⟨(some 161), none, (.mov (.t 1))⟩, ⟨(some 162), none, (.bin .leq (.c (.int .i32 0)) (.t 161))⟩, ⟨(some 163), none, (.mov (.t 162))⟩, ⟨(some 164), (some (163, true)), (.mov (.t 1))⟩, ⟨(some 165), (some (163, true)), (.bin .lss (.t 164) (.c (.int .i32 128)))⟩, ⟨(some 166), none, (.pick (.t 163) (.t 165) (.c (.bool false)))⟩, ⟨(some 160), none, (.mov (.t 166))⟩]) (.cond (.t 160) (.seq (.ops [⟨(some 167), none, (.mov (.t 0))⟩, ⟨(some 168), none, (.mov (.t 1))⟩, ⟨(some 169), none, (.conv .u8 (.t 168))⟩, ⟨(some 170), none, (.call 195 [(.t 167), (.t 169)])⟩, ⟨(some 4), none, (.mov (.t 170))⟩]) .ret) (.seq (.ops [⟨(some 172), none, (.mov (.t 1))⟩, ⟨(some 173), none, (.bin .eql (.t 172) (.c (.int .i32 65533)))⟩, ⟨(some 171), none, (.mov (.t 173))⟩]) (.cond (.t 171) (.seq (.seq (.ops [⟨(some 174), none, (.mov (.t 0))⟩, ⟨(some 175), none, (.srg (.t 174))⟩]) (.block 9 (.loop F_strings_IndexRune_L4))) (.seq (.ops [⟨(some 4), none, (.mov (.c (.int .i64 (-1))))⟩]) .ret)) (.seq (.ops [⟨(some 184), none, (.mov (.t 1))⟩, ⟨(some 185), none, (.call 196 [(.t 184)])⟩, ⟨(some 186), none, (.un .not (.t 185))⟩, ⟨(some 183), none, (.mov (.t 186))⟩]) (.cond (.t 183) (.seq (.ops [⟨(some 4), none, (.mov (.c (.int .i64 (-1))))⟩]) .ret) (.scope (.seq (.ops [⟨(some 17), none, (.mov (.t 1))⟩, ⟨(some 18), none, .dead⟩, ⟨(some 7), none, (.mov (.t 18))⟩]) (.seq (.ops [⟨(some 19), none, (.mov (.t 7))⟩, ⟨(some 20), none, (.slen (.t 19))⟩, ⟨(some 21), none, (.bin .sub (.t 20) (.c (.int .i64 1)))⟩, ⟨(some 8), none, (.mov (.t 21))⟩]) (.seq (.ops [⟨(some 22), none, (.mov (.t 8))⟩, ⟨(some 9), none, (.mov (.t 22))⟩]) (.seq (.ops [⟨(some 10), none, (.mov (.c (.int .i64 0)))⟩]) (.seq (.block 1 (.loop F_strings_IndexRune_L3)) (.seq (.seq (.ops [⟨(some 4), none, (.mov (.c (.int .i64 (-1))))⟩]) .ret) (.seq (.label 1) (.seq (.cond (.c (.bool true)) (.seq (.ops [⟨(some 99), none, (.mov (.t 0))⟩, ⟨(some 100), none, (.mov (.t 9))⟩, ⟨(some 101), none, (.mov (.t 8))⟩, ⟨(some 102), none, (.bin .sub (.t 100) (.t 101))⟩, ⟨(some 103), none, .dead⟩, ⟨(some 104), none, (.mov (.t 1))⟩, ⟨(some 105), none, .dead⟩, ⟨(some 106), none, (.call 198 [(.t 103), (.t 105)])⟩, ⟨(some 13), none, (.mov (.t 106))⟩]) (.seq (.ops [⟨(some 107), none, (.mov (.t 13))⟩, ⟨(some 108), none, (.bin .geq (.t 107) (.c (.int .i64 0)))⟩]) (.cond (.t 108) (.seq (.ops [⟨(some 109), none, (.mov (.t 9))⟩, ⟨(some 110), none, (.mov (.t 13))⟩, ⟨(some 111), none, (.bin .add (.t 109) (.t 110))⟩, ⟨(some 112), none, (.mov (.t 8))⟩, ⟨(some 113), none, (.bin .sub (.t 111) (.t 112))⟩, ⟨(some 4), none, (.mov (.t 113))⟩]) .ret) .skip))) (.scope (.seq (.ops [⟨(some 114), none, (.mov (.t 7))⟩, ⟨(some 115), none, (.mov (.t 8))⟩, ⟨(some 116), none, (.sidx (.t 114) (.t 115))⟩, ⟨(some 14), none, (.mov (.t 116))⟩]) (.seq (.ops [⟨(some 117), none, (.mov (.t 7))⟩, ⟨(some 118), none, (.mov (.t 8))⟩, ⟨(some 119), none, (.bin .sub (.t 118) (.c (.int .i64 1)))⟩, ⟨(some 120), none, (.sidx (.t 117) (.t 119))⟩, ⟨(some 15), none, (.mov (.t 120))⟩]) (.seq (.label 2) (.block 5 (.loop F_strings_IndexRune_L1))))))) (.seq (.ops [⟨(some 4), none, (.mov (.c (.int .i64 (-1))))⟩]) .ret)))))))))))))))))), 187, [(.tmp 4)]⟩
theorem F_strings_IndexRune_ok : compF Try.prog (fun _ => true) 170 = some F_strings_IndexRune := by kernel_rfl
@[simp] abbrev n_strings_IndexByte : FuncId := 195
def F_strings_IndexByte : F := ⟨(.seq (.ops [⟨(some 4), none, (.mov (.c (.int .i64 0)))⟩]) (.seq (.ops [⟨(some 5), none, (.mov (.t 0))⟩, ⟨(some 6), none, (.mov (.t 1))⟩, ⟨(some 7), none, (.call 208 [(.t 5), (.t 6)])⟩, ⟨(some 4), none, (.mov (.t 7))⟩]) .ret)), 8, [(.tmp 4)]⟩
theorem F_strings_IndexByte_ok : compF Try.prog (fun _ => true) 195 = some F_strings_IndexByte := by kernel_rfl
@[simp] abbrev n_unicode_utf8_ValidRune : FuncId := 196
def F_unicode_utf8_ValidRune : F := ⟨(.seq (.ops [⟨(some 2), none, (.mov (.c (.bool false)))⟩]) (.seq (.block 0 (.seq (.ops [⟨(some 4), none, (.mov (.t 0))⟩, ⟨(some 5), none, (.bin .leq (.c (.int .i32 0)) (.t 4))⟩, ⟨(some 6), none, (.mov (.t 5))⟩, ⟨(some 7), (some (6, true)), (.mov (.t 0))⟩, ⟨(some 8), (some (6, true)), (.bin .lss (.t 7) (.c (.int .i32 55296)))⟩, ⟨(some 9), none, (.pick (.t 6) (.t 8) (.c (.bool false)))⟩, ⟨(some 3), none, (.mov (.t 9))⟩]) (.cond (.t 3) (.seq (.ops [⟨(some 2), none, (.mov (.c (.bool true)))⟩]) .ret) (.seq (.ops [⟨(some 11), none, (.mov (.t 0))⟩, ⟨(some 12), none, (.bin .lss (.c (.int .i32 57343)) (.t 11))⟩, ⟨(some 13), none, (.mov (.t 12))⟩, ⟨(some 14), (some (13, true)), (.mov (.t 0))⟩, ⟨(some 15), (some (13, true)), (.bin .leq (.t 14) (.c (.int .i32 1114111)))⟩, ⟨(some 16), none, (.pick (.t 13) (.t 15) (.c (.bool false)))⟩, ⟨(some 10), none, (.mov (.t 16))⟩]) (.cond (.t 10) (.seq (.ops [⟨(some 2), none, (.mov (.c (.bool true)))⟩]) .ret) .skip))))) (.seq (.ops [⟨(some 2), none, (.mov (.c (.bool false)))⟩]) .ret))), 17, [(.tmp 2)]⟩
theorem F_unicode_utf8_ValidRune_ok : compF Try.prog (fun _ => true) 196 = some F_unicode_utf8_ValidRune := by kernel_rfl
@[simp] abbrev n_internal_bytealg_Cutover : FuncId := 197
@[simp] abbrev n_internal_bytealg_IndexString : FuncId := 198
@[simp] abbrev n_internal_stringslite_IndexByte : FuncId := 208
def F_internal_stringslite_IndexByte : F := ⟨(.seq (.ops [⟨(some 4), none, (.mov (.c (.int .i64 0)))⟩]) (.seq (.ops [⟨(some 5), none, (.mov (.t 0))⟩, ⟨(some 6), none, (.mov (.t 1))⟩, ⟨(some 7), none, (.call 216 [(.t 5), (.t 6)])⟩, ⟨(some 4), none, (.mov (.t 7))⟩]) .ret)), 8, [(.tmp 4)]⟩
theorem F_internal_stringslite_IndexByte_ok : compF Try.prog (fun _ => true) 208 = some F_internal_stringslite_IndexByte := by kernel_rfl
@[simp] abbrev n_internal_bytealg_IndexByteString : FuncId := 216
end Go.Av

namespace Go.Av
open Go.Proofs

@[simp] abbrev n_bytes_Equal : FuncId := 130
def F_bytes_Equal : F := ⟨(.seq (.ops [⟨(some 4), none, (.mov (.c (.bool false)))⟩]) (.seq (.ops [⟨(some 5), none, (.mov (.t 0))⟩, ⟨(some 6), none, (.b2s (.t 5))⟩, ⟨(some 7), none, (.mov (.t 1))⟩, ⟨(some 8), none, (.b2s (.t 7))⟩, ⟨(some 9), none, (.bin .eql (.t 6) (.t 8))⟩, ⟨(some 4), none, (.mov (.t 9))⟩]) .ret)), 10, [(.tmp 4)]⟩
theorem F_bytes_Equal_ok : compF Try.prog (fun _ => true) 130 = some F_bytes_Equal := by kernel_rfl
@[simp] abbrev n_crc_halves : FuncId := 199
def F_crc_halves : F := ⟨(.seq (.ops [⟨(some 0), none, (.alc [(.val (.int .u32 0)), (.val (.int .u32 0)), (.val (.int .u32 0)), (.val (.int .u32 0)), (.val (.int .u32 0)), (.val (.int .u32 0)), (.val (.int .u32 0)), (.val (.int .u32 0)), (.val (.int .u32 0)), (.val (.int .u32 0)), (.val (.int .u32 0)), (.val (.int .u32 0)), (.val (.int .u32 0)), (.val (.int .u32 0)), (.val (.int .u32 0)), (.val (.int .u32 0))])⟩]) (.seq (.ops [⟨(some 1), none, (.bld [(.val (.int .u32 0)), (.val (.int .u32 0)), (.val (.int .u32 0)), (.val (.int .u32 0)), (.val (.int .u32 0)), (.val (.int .u32 0)), (.val (.int .u32 0)), (.val (.int .u32 0)), (.val (.int .u32 0)), (.val (.int .u32 0)), (.val (.int .u32 0)), (.val (.int .u32 0)), (.val (.int .u32 0)), (.val (.int .u32 0)), (.val (.int .u32 0)), (.val (.int .u32 0))] [(0, (1, (.c (.int .u32 0)))), (1, (1, (.c (.int .u32 274646895)))), (2, (1, (.c (.int .u32 549293790)))), (3, (1, (.c (.int .u32 820201905)))), (4, (1, (.c (.int .u32 1098587580)))), (5, (1, (.c (.int .u32 1361435347)))), (6, (1, (.c (.int .u32 1640403810)))), (7, (1, (.c (.int .u32 1905808397)))), (8, (1, (.c (.int .u32 2197175160)))), (9, (1, (.c (.int .u32 2460548119)))), (10, (1, (.c (.int .u32 2722870694)))), (11, (1, (.c (.int .u32 2987750089)))), (12, (1, (.c (.int .u32 3280807620)))), (13, (1, (.c (.int .u32 3553878443)))), (14, (1, (.c (.int .u32 3811616794)))), (15, (1, (.c (.int .u32 4084100981))))])⟩, ⟨none, none, (.st (.t 0) 16 (.t 1))⟩]) .ret)), 2, [(.cell 0 (some 16))]⟩
theorem F_crc_halves_ok : compF Try.prog (fun _ => true) 199 = some F_crc_halves := by kernel_rfl
@[simp] abbrev n_crc_More : FuncId := 171
def F_crc_More_L0 : C := (.seq (.ops [⟨(some 14), none, (.bin .lss (.t 13) (.t 12))⟩]) (.seq (.cond (.t 14) .skip (.exit 0)) (.seq (.block 1 (.seq (.ops [⟨(some 15), none, (.ixs (.t 11) (.t 13) 1)⟩, ⟨(some 16), none, (.lde (.t 15) none)⟩, ⟨(some 7), none, (.mov (.t 16))⟩]) (.seq (.ops [⟨(some 17), none, (.mov (.t 0))⟩, ⟨(some 18), none, (.mov (.t 7))⟩, ⟨(some 19), none, (.conv .u32 (.t 18))⟩, ⟨(some 20), none, (.bin .xor (.t 17) (.t 19))⟩, ⟨(some 0), none, (.mov (.t 20))⟩]) (.seq (.ops [⟨(some 21), none, (.mov (.t 0))⟩, ⟨(some 22), none, (.bin .shr (.t 21) (.c (.int .u64 4)))⟩, ⟨(some 23), none, (.mov (.t 0))⟩, ⟨(some 24), none, (.bin .and (.t 23) (.c (.int .u32 15)))⟩, ⟨(some 25), none, (.ixa (.t 5) (.t 24) 16 1)⟩, ⟨(some 26), none, (.ld (.t 25) none)⟩, ⟨(some 27), none, (.bin .xor (.t 22) (.t 26))⟩, ⟨(some 0), none, (.mov (.t 27))⟩]) (.ops [⟨(some 28), none, (.mov (.t 0))⟩, ⟨(some 29), none, (.bin .shr (.t 28) (.c (.int .u64 4)))⟩, ⟨(some 30), none, (.mov (.t 0))⟩, ⟨(some 31), none, (.bin .and (.t 30) (.c (.int .u32 15)))⟩, ⟨(some 32), none, (.ixa (.t 5) (.t 31) 16 1)⟩, ⟨(some 33), none, (.ld (.t 32) none)⟩, ⟨(some 34), none, (.bin .xor (.t 29) (.t 33))⟩, ⟨(some 0), none, (.mov (.t 34))⟩]))))) (.ops [⟨(some 35), none, (.bin .add (.t 13) (.c (.int .i64 1)))⟩, ⟨(some 13), none, (.mov (.t 35))⟩]))))
def F_crc_More : F := ⟨(.seq (.ops [⟨(some 4), none, (.mov (.c (.int .u32 0)))⟩]) (.seq (.ops [⟨(some 8), none, (.call 199 [])⟩, ⟨(some 5), none, (.alc [(.val (.int .u32 0)), (.val (.int .u32 0)), (.val (.int .u32 0)), (.val (.int .u32 0)), (.val (.int .u32 0)), (.val (.int .u32 0)), (.val (.int .u32 0)), (.val (.int .u32 0)), (.val (.int .u32 0)), (.val (.int .u32 0)), (.val (.int .u32 0)), (.val (.int .u32 0)), (.val (.int .u32 0)), (.val (.int .u32 0)), (.val (.int .u32 0)), (.val (.int .u32 0))])⟩, ⟨none, none, (.st (.t 5) 16 (.t 8))⟩]) (.seq (.ops [⟨(some 9), none, (.mov (.t 0))⟩, ⟨(some 10), none, (.bin .xor (.t 9) (.c (.int .u32 4294967295)))⟩, ⟨(some 0), none, (.mov (.t 10))⟩]) (.seq (.seq (.ops [⟨(some 11), none, (.mov (.t 1))⟩, ⟨(some 12), none, (.len (.t 11))⟩, ⟨(some 13), none, (.mov (.c (.int .i64 0)))⟩]) (.block 0 (.loop F_crc_More_L0))) (.seq (.ops [⟨(some 36), none, (.mov (.t 0))⟩, ⟨(some 37), none, (.bin .xor (.t 36) (.c (.int .u32 4294967295)))⟩, ⟨(some 4), none, (.mov (.t 37))⟩]) .ret))))), 38, [(.tmp 4)]⟩
theorem F_crc_More_ok : compF Try.prog (fun _ => true) 171 = some F_crc_More := by kernel_rfl
@[simp] abbrev n_crc_Sum : FuncId := 122
def F_crc_Sum : F := ⟨(.seq (.ops [⟨(some 2), none, (.mov (.c (.int .u32 0)))⟩]) (.seq (.ops [⟨(some 3), none, (.mov (.t 0))⟩, ⟨(some 4), none, (.call 171 [(.c (.int .u32 0)), (.t 3)])⟩, ⟨(some 2), none, (.mov (.t 4))⟩]) .ret)), 5, [(.tmp 2)]⟩
theorem F_crc_Sum_ok : compF Try.prog (fun _ => true) 122 = some F_crc_Sum := by kernel_rfl
@[simp] abbrev n_crc_Seal : FuncId := 71
def F_crc_Seal : F := ⟨(.seq (.ops [⟨(some 2), none, (.nil 5 1 true)⟩]) (.seq (.ops [⟨(some 6), none, (.mov (.t 0))⟩, ⟨(some 7), none, (.mov (.t 0))⟩, ⟨(some 8), none, (.call 122 [(.t 7)])⟩, ⟨(some 9), none, (.conv .u64 (.t 8))⟩, ⟨(some 10), none, (.call 69 [(.t 6), (.t 9), (.c (.int .i64 4))])⟩, ⟨(some 5), none, (.mov (.t 10))⟩, ⟨(some 11), none, (.ext (.t 5) 0)⟩, ⟨(some 12), none, (.ext (.t 5) 1)⟩, ⟨(some 3), none, (.mov (.t 11))⟩, ⟨(some 4), none, (.mov (.t 12))⟩]) (.seq (.ops [⟨(some 13), none, (.mov (.t 3))⟩, ⟨(some 2), none, (.mov (.t 13))⟩]) .ret))), 14, [(.tmp 2)]⟩
theorem F_crc_Seal_ok : compF Try.prog (fun _ => true) 71 = some F_crc_Seal := by kernel_rfl
@[simp] abbrev n_crc_Open : FuncId := 79
def F_crc_Open : F := ⟨(.seq (.ops [⟨(some 2), none, (.nil 5 1 true)⟩, ⟨(some 3), none, (.mov (.c (.int .i64 0)))⟩]) (.seq (.ops [⟨(some 5), none, (.mov (.t 0))⟩, ⟨(some 6), none, (.len (.t 5))⟩, ⟨(some 7), none, (.bin .sub (.t 6) (.c (.int .i64 4)))⟩, ⟨(some 4), none, (.mov (.t 7))⟩]) (.seq (.seq (.ops [⟨(some 8), none, (.mov (.t 4))⟩, ⟨(some 9), none, (.bin .lss (.t 8) (.c (.int .i64 0)))⟩, ⟨(some 10), none, (.mov (.t 9))⟩, ⟨(some 11), (some (10, false)), (.mov (.t 0))⟩, ⟨(some 12), (some (10, false)), (.mov (.t 4))⟩, ⟨(some 13), (some (10, false)), (.slc (.t 11) none (some (.t 12)) none 1)⟩, ⟨(some 14), (some (10, false)), (.call 71 [(.t 13)])⟩, ⟨(some 15), (some (10, false)), (.mov (.t 0))⟩, ⟨(some 16), (some (10, false)), (.call 130 [(.t 14), (.t 15)])⟩, ⟨(some 17), (some (10, false)), (.un .not (.t 16))⟩, ⟨(some 18), none, (.pick (.t 10) (.c (.bool true)) (.t 17))⟩]) (.cond (.t 18) (.seq (.ops [⟨(some 2), none, (.nil 5 1 true)⟩, ⟨(some 3), none, (.mov (.c (.int .i64 20)))⟩]) .ret) .skip)) (.seq (.ops [⟨(some 19), none, (.mkl 5 1 [] true)⟩, ⟨(some 20), none, (.mov (.t 0))⟩, ⟨(some 21), none, (.mov (.t 4))⟩, ⟨(some 22), none, (.slc (.t 20) none (some (.t 21)) none 1)⟩, ⟨(some 23), none, (.app (.t 19) (.t 22) 5 1 1 true)⟩, ⟨(some 2), none, (.mov (.t 23))⟩, ⟨(some 3), none, (.mov (.c (.int .i64 0)))⟩]) .ret)))), 24, [(.tmp 2), (.tmp 3)]⟩
theorem F_crc_Open_ok : compF Try.prog (fun _ => true) 79 = some F_crc_Open := by kernel_rfl
@[simp] abbrev n_r02_step : FuncId := 175
def F_r02_step : F := ⟨(.seq (.ops [⟨(some 2), none, (.mov (.c (.int .u32 0)))⟩]) (.seq (.seq (.ops [⟨(some 3), none, (.mov (.t 0))⟩, ⟨(some 4), none, (.bin .rem (.t 3) (.c (.int .u32 2)))⟩, ⟨(some 5), none, (.bin .eql (.t 4) (.c (.int .u32 1)))⟩]) (.cond (.t 5) (.seq (.ops [⟨(some 6), none, (.mov (.t 0))⟩, ⟨(some 7), none, (.bin .quo (.t 6) (.c (.int .u32 2)))⟩, ⟨(some 8), none, (.bin .xor (.t 7) (.c (.int .u32 2197175160)))⟩, ⟨(some 2), none, (.mov (.t 8))⟩]) .ret) .skip)) (.seq (.ops [⟨(some 9), none, (.mov (.t 0))⟩, ⟨(some 10), none, (.bin .quo (.t 9) (.c (.int .u32 2)))⟩, ⟨(some 2), none, (.mov (.t 10))⟩]) .ret))), 11, [(.tmp 2)]⟩
theorem F_r02_step_ok : compF Try.prog (fun _ => true) 175 = some F_r02_step := by kernel_rfl
@[simp] abbrev n_r02_More : FuncId := 127
def F_r02_More_L0 : C := (.seq (.seq (.ops [⟨(some 23), none, (.mov (.t 7))⟩, ⟨(some 24), none, (.bin .lss (.t 23) (.c (.int .i64 8)))⟩]) (.cond (.t 24) .skip (.exit 2))) (.seq (.block 3 (.ops [⟨(some 27), none, (.mov (.t 5))⟩, ⟨(some 28), none, (.call 175 [(.t 27)])⟩, ⟨(some 5), none, (.mov (.t 28))⟩])) (.ops [⟨(some 25), none, (.mov (.t 7))⟩, ⟨(some 26), none, (.bin .add (.t 25) (.c (.int .i64 1)))⟩, ⟨(some 7), none, (.mov (.t 26))⟩])))
def F_r02_More_L1 : C := (.seq (.seq (.ops [⟨(some 10), none, (.mov (.t 6))⟩, ⟨(some 11), none, (.mov (.t 1))⟩, ⟨(some 12), none, (.len (.t 11))⟩, ⟨(some 13), none, (.bin .lss (.t 10) (.t 12))⟩]) (.cond (.t 13) .skip (.exit 0))) (.seq (.block 1 (.seq (.ops [⟨(some 16), none, (.mov (.t 5))⟩, ⟨(some 17), none, (.mov (.t 1))⟩, ⟨(some 18), none, (.mov (.t 6))⟩, ⟨(some 19), none, (.ixs (.t 17) (.t 18) 1)⟩, ⟨(some 20), none, (.lde (.t 19) none)⟩, ⟨(some 21), none, (.conv .u32 (.t 20))⟩, ⟨(some 22), none, (.bin .xor (.t 16) (.t 21))⟩, ⟨(some 5), none, (.mov (.t 22))⟩]) (.seq (.ops [⟨(some 7), none, (.mov (.c (.int .i64 0)))⟩]) (.block 2 (.loop F_r02_More_L0))))) (.ops [⟨(some 14), none, (.mov (.t 6))⟩, ⟨(some 15), none, (.bin .add (.t 14) (.c (.int .i64 1)))⟩, ⟨(some 6), none, (.mov (.t 15))⟩])))
def F_r02_More : F := ⟨(.seq (.ops [⟨(some 4), none, (.mov (.c (.int .u32 0)))⟩]) (.seq (.ops [⟨(some 8), none, (.mov (.t 0))⟩, ⟨(some 9), none, (.bin .xor (.t 8) (.c (.int .u32 4294967295)))⟩, ⟨(some 5), none, (.mov (.t 9))⟩]) (.seq (.seq (.ops [⟨(some 6), none, (.mov (.c (.int .i64 0)))⟩]) (.block 0 (.loop F_r02_More_L1))) (.seq (.ops [⟨(some 29), none, (.mov (.t 5))⟩, ⟨(some 30), none, (.bin .xor (.t 29) (.c (.int .u32 4294967295)))⟩, ⟨(some 4), none, (.mov (.t 30))⟩]) .ret)))), 31, [(.tmp 4)]⟩
theorem F_r02_More_ok : compF Try.prog (fun _ => true) 127 = some F_r02_More := by kernel_rfl
@[simp] abbrev n_r02_Seal : FuncId := 75
def F_r02_Seal : F := ⟨(.seq (.ops [⟨(some 2), none, (.nil 5 1 true)⟩]) (.seq (.ops [⟨(some 6), none, (.mov (.t 0))⟩, ⟨(some 7), none, (.mov (.t 0))⟩, ⟨(some 8), none, (.call 127 [(.c (.int .u32 0)), (.t 7)])⟩, ⟨(some 9), none, (.conv .u64 (.t 8))⟩, ⟨(some 10), none, (.call 78 [(.t 6), (.t 9), (.c (.int .i64 4))])⟩, ⟨(some 5), none, (.mov (.t 10))⟩, ⟨(some 11), none, (.ext (.t 5) 0)⟩, ⟨(some 12), none, (.ext (.t 5) 1)⟩, ⟨(some 3), none, (.mov (.t 11))⟩, ⟨(some 4), none, (.mov (.t 12))⟩]) (.seq (.ops [⟨(some 13), none, (.mov (.t 3))⟩, ⟨(some 2), none, (.mov (.t 13))⟩]) .ret))), 14, [(.tmp 2)]⟩
theorem F_r02_Seal_ok : compF Try.prog (fun _ => true) 75 = some F_r02_Seal := by kernel_rfl
@[simp] abbrev n_extent_within : FuncId := 169
def F_extent_within : F := ⟨(.seq (.ops [⟨(some 6), none, (.mov (.c (.bool false)))⟩]) (.seq (.ops [⟨(some 7), none, (.mov (.t 0))⟩, ⟨(some 8), none, (.mov (.t 1))⟩, ⟨(some 9), none, (.bin .geq (.t 7) (.t 8))⟩, ⟨(some 10), none, (.mov (.t 9))⟩, ⟨(some 11), (some (10, true)), (.mov (.t 0))⟩, ⟨(some 12), (some (10, true)), (.mov (.t 2))⟩, ⟨(some 13), (some (10, true)), (.bin .leq (.t 11) (.t 12))⟩, ⟨(some 14), none, (.pick (.t 10) (.t 13) (.c (.bool false)))⟩, ⟨(some 6), none, (.mov (.t 14))⟩]) .ret)), 15, [(.tmp 6)]⟩
theorem F_extent_within_ok : compF Try.prog (fun _ => true) 169 = some F_extent_within := by kernel_rfl
@[simp] abbrev n_extent_data : FuncId := 132
def F_extent_data : F := ⟨(.seq (.ops [⟨(some 1), none, (.box (.t 0))⟩, ⟨(some 2), none, (.mov (.c (.int .i64 0)))⟩]) (.seq (.seq (.ops [⟨(some 3), none, (.fad (.t 1) 2)⟩, ⟨(some 4), none, (.ld (.t 3) none)⟩, ⟨(some 5), none, (.bin .eql (.t 4) (.c (.int .i64 2)))⟩]) (.cond (.t 5) (.seq (.ops [⟨(some 6), none, (.fad (.t 1) 1)⟩, ⟨(some 7), none, (.ld (.t 6) none)⟩, ⟨(some 8), none, (.bin .mul (.t 7) (.c (.int .i64 32)))⟩, ⟨(some 2), none, (.mov (.t 8))⟩]) .ret) .skip)) (.seq (.ops [⟨(some 2), none, (.mov (.c (.int .i64 0)))⟩]) .ret))), 9, [(.tmp 2)]⟩
theorem F_extent_data_ok : compF Try.prog (fun _ => true) 132 = some F_extent_data := by kernel_rfl
@[simp] abbrev n_extent_Check : FuncId := 119
def F_extent_Check : F := ⟨(.seq (.ops [⟨(some 1), none, (.box (.t 0))⟩, ⟨(some 2), none, (.mov (.c (.bool false)))⟩]) (.seq (.dops false [] [⟨(some 3), none, (.fad (.t 1) 0)⟩, ⟨(some 4), none, (.ld (.t 3) none)⟩, ⟨(some 5), none, (.callq 169 [(.t 4), (.c (.int .i64 0)), (.c (.int .i64 64))])⟩, ⟨(some 6), none, (.mov (.t 5))⟩, ⟨(some 7), (some (6, true)), (.fad (.t 1) 1)⟩, ⟨(some 8), (some (6, true)), (.ld (.t 7) none)⟩, ⟨(some 9), (some (6, true)), (.fad (.t 1) 0)⟩, ⟨(some 10), (some (6, true)), (.ld (.t 9) none)⟩, ⟨(some 11), (some (6, true)), (.bin .sub (.c (.int .i64 64)) (.t 10))⟩, ⟨(some 12), (some (6, true)), (.callq 169 [(.t 8), (.c (.int .i64 1)), (.t 11)])⟩, ⟨(some 13), none, (.pick (.t 6) (.t 12) (.c (.bool false)))⟩, ⟨(some 14), none, (.mov (.t 13))⟩, ⟨(some 15), (some (14, true)), (.fad (.t 1) 2)⟩, ⟨(some 16), (some (14, true)), (.ld (.t 15) none)⟩, ⟨(some 17), (some (14, true)), (.callq 169 [(.t 16), (.c (.int .i64 0)), (.c (.int .i64 2))])⟩, ⟨(some 18), none, (.pick (.t 14) (.t 17) (.c (.bool false)))⟩, ⟨(some 19), none, (.mov (.t 18))⟩, ⟨(some 20), (some (19, true)), (.fad (.t 1) 3)⟩, ⟨(some 21), (some (19, true)), (.ld (.t 20) none)⟩, ⟨(some 22), (some (19, true)), (.callq 169 [(.t 21), (.c (.int .i64 0)), (.c (.int .i64 2147483647))])⟩, ⟨(some 23), none, (.pick (.t 19) (.t 22) (.c (.bool false)))⟩, ⟨(some 24), none, (.mov (.t 23))⟩, ⟨(some 25), (some (24, true)), (.fad (.t 1) 4)⟩, ⟨(some 26), (some (24, true)), (.ld (.t 25) none)⟩, ⟨(some 27), (some (24, true)), (.len (.t 26))⟩, ⟨(some 28), (some (24, true)), (.ld (.t 1) (some 5))⟩, ⟨(some 29), (some (24, true)), (.callq 132 [(.t 28)])⟩, ⟨(some 30), (some (24, true)), (.bin .eql (.t 27) (.t 29))⟩, ⟨(some 31), none, (.pick (.t 24) (.t 30) (.c (.bool false)))⟩, ⟨(some 2), none, (.mov (.t 31))⟩]) .ret)), 32, [(.tmp 2)]⟩
theorem F_extent_Check_ok : compF Try.prog (fun _ => true) 119 = some F_extent_Check := by kernel_rfl
@[simp] abbrev n_extent_Joins : FuncId := 177
def F_extent_Joins : F := ⟨(.seq (.ops [⟨(some 2), none, (.box (.t 0))⟩, ⟨(some 3), none, (.box (.t 1))⟩, ⟨(some 4), none, (.mov (.c (.bool false)))⟩]) (.seq (.ops [⟨(some 5), none, (.ld (.t 2) (some 5))⟩, ⟨(some 6), none, (.call 119 [(.t 5)])⟩, ⟨(some 7), none, (.mov (.t 6))⟩, ⟨(some 8), (some (7, true)), (.ld (.t 3) (some 5))⟩, ⟨(some 9), (some (7, true)), (.call 119 [(.t 8)])⟩, ⟨(some 10), none, (.pick (.t 7) (.t 9) (.c (.bool false)))⟩, ⟨(some 11), none, (.mov (.t 10))⟩, ⟨(some 12), (some (11, true)), (.fad (.t 2) 0)⟩, ⟨(some 13), (some (11, true)), (.ld (.t 12) none)⟩, ⟨(some 14), (some (11, true)), (.fad (.t 2) 1)⟩, ⟨(some 15), (some (11, true)), (.ld (.t 14) none)⟩, ⟨(some 16), (some (11, true)), (.bin .add (.t 13) (.t 15))⟩, ⟨(some 17), (some (11, true)), (.fad (.t 3) 0)⟩, ⟨(some 18), (some (11, true)), (.ld (.t 17) none)⟩, ⟨(some 19), (some (11, true)), (.bin .eql (.t 16) (.t 18))⟩, ⟨(some 20), none, (.pick (.t 11) (.t 19) (.c (.bool false)))⟩, ⟨(some 21), none, (.mov (.t 20))⟩, ⟨(some 22), (some (21, true)), (.fad (.t 2) 2)⟩, ⟨(some 23), (some (21, true)), (.ld (.t 22) none)⟩, ⟨(some 24), (some (21, true)), (.fad (.t 3) 2)⟩, ⟨(some 25), (some (21, true)), (.ld (.t 24) none)⟩, ⟨(some 26), (some (21, true)), (.bin .eql (.t 23) (.t 25))⟩, ⟨(some 27), none, (.pick (.t 21) (.t 26) (.c (.bool false)))⟩, ⟨(some 28), none, (.mov (.t 27))⟩, ⟨(some 29), (some (28, true)), (.fad (.t 2) 3)⟩, ⟨(some 30), (some (28, true)), (.ld (.t 29) none)⟩, ⟨(some 31), (some (28, true)), (.fad (.t 3) 3)⟩, ⟨(some 32), (some (28, true)), (.ld (.t 31) none)⟩, ⟨(some 33), (some (28, true)), (.bin .eql (.t 30) (.t 32))⟩, ⟨(some 34), none, (.pick (.t 28) (.t 33) (.c (.bool false)))⟩, ⟨(some 4), none, (.mov (.t 34))⟩]) .ret)), 35, [(.tmp 4)]⟩
theorem F_extent_Joins_ok : compF Try.prog (fun _ => true) 177 = some F_extent_Joins := by kernel_rfl
@[simp] abbrev n_extent_Cut : FuncId := 141
def F_extent_Cut : F := ⟨(.seq (.ops [⟨(some 3), none, (.box (.t 0))⟩, ⟨(some 6), none, (.alc [(.val (.int .i64 0)), (.val (.int .i64 0)), (.val (.int .i64 0)), (.val (.int .i64 0)), (.lit 1 [])])⟩, ⟨(some 7), none, (.mov (.c (.bool false)))⟩]) (.seq (.seq (.ops [⟨(some 11), none, (.ld (.t 3) (some 5))⟩, ⟨(some 12), none, (.call 119 [(.t 11)])⟩, ⟨(some 13), none, (.un .not (.t 12))⟩, ⟨(some 14), none, (.mov (.t 13))⟩, ⟨(some 15), (some (14, false)), (.mov (.t 1))⟩, ⟨(some 16), (some (14, false)), (.call 169 [(.t 15), (.c (.int .i64 0)), (.c (.int .i64 64))])⟩, ⟨(some 17), (some (14, false)), (.un .not (.t 16))⟩, ⟨(some 18), none, (.pick (.t 14) (.c (.bool true)) (.t 17))⟩, ⟨(some 19), none, (.mov (.t 18))⟩, ⟨(some 20), (some (19, false)), (.mov (.t 2))⟩, ⟨(some 21), (some (19, false)), (.call 169 [(.t 20), (.c (.int .i64 0)), (.c (.int .i64 64))])⟩, ⟨(some 22), (some (19, false)), (.un .not (.t 21))⟩, ⟨(some 23), none, (.pick (.t 19) (.c (.bool true)) (.t 22))⟩]) (.cond (.t 23) (.seq (.ops [⟨(some 24), none, (.bld [(.val (.int .i64 0)), (.val (.int .i64 0)), (.val (.int .i64 0)), (.val (.int .i64 0)), (.lit 1 [])] [])⟩, ⟨none, none, (.st (.t 6) 5 (.t 24))⟩, ⟨(some 7), none, (.mov (.c (.bool false)))⟩]) .ret) .skip)) (.seq (.dops false [] [⟨(some 25), none, (.fad (.t 3) 0)⟩, ⟨(some 26), none, (.ld (.t 25) none)⟩, ⟨(some 27), none, (.mov (.t 1))⟩, ⟨(some 28), none, (.mm true (.t 26) (.t 27))⟩, ⟨(some 29), none, (.fad (.t 3) 0)⟩, ⟨(some 30), none, (.ld (.t 29) none)⟩, ⟨(some 31), none, (.fad (.t 3) 1)⟩, ⟨(some 32), none, (.ld (.t 31) none)⟩, ⟨(some 33), none, (.bin .add (.t 30) (.t 32))⟩, ⟨(some 34), none, (.mov (.t 1))⟩, ⟨(some 35), none, (.mov (.t 2))⟩, ⟨(some 36), none, (.bin .add (.t 34) (.t 35))⟩, ⟨(some 37), none, (.mm false (.t 33) (.t 36))⟩, ⟨(some 8), none, (.mov (.t 28))⟩, ⟨(some 9), none, (.mov (.t 37))⟩]) (.seq (.seq (.ops [⟨(some 38), none, (.mov (.t 8))⟩, ⟨(some 39), none, (.mov (.t 9))⟩, ⟨(some 40), none, (.bin .geq (.t 38) (.t 39))⟩]) (.cond (.t 40) (.seq (.ops [⟨(some 41), none, (.bld [(.val (.int .i64 0)), (.val (.int .i64 0)), (.val (.int .i64 0)), (.val (.int .i64 0)), (.lit 1 [])] [])⟩, ⟨none, none, (.st (.t 6) 5 (.t 41))⟩, ⟨(some 7), none, (.mov (.c (.bool false)))⟩]) .ret) .skip)) (.seq (.ops [⟨(some 42), none, (.fad (.t 3) 4)⟩, ⟨(some 43), none, (.ld (.t 42) none)⟩, ⟨(some 10), none, (.mov (.t 43))⟩]) (.seq (.seq (.ops [⟨(some 44), none, (.fad (.t 3) 4)⟩, ⟨none, none, (.st (.t 44) 1 (.c (.slice none 0 0)))⟩]) (.seq (.ops [⟨(some 45), none, (.fad (.t 3) 2)⟩, ⟨(some 46), none, (.ld (.t 45) none)⟩, ⟨(some 47), none, (.bin .eql (.t 46) (.c (.int .i64 2)))⟩]) (.cond (.t 47) (.ops [⟨(some 48), none, (.mov (.t 10))⟩, ⟨(some 49), none, (.mov (.t 8))⟩, ⟨(some 50), none, (.fad (.t 3) 0)⟩, ⟨(some 51), none, (.ld (.t 50) none)⟩, ⟨(some 52), none, (.bin .sub (.t 49) (.t 51))⟩, ⟨(some 53), none, (.bin .mul (.t 52) (.c (.int .i64 32)))⟩, ⟨(some 54), none, (.mov (.t 9))⟩, ⟨(some 55), none, (.fad (.t 3) 0)⟩, ⟨(some 56), none, (.ld (.t 55) none)⟩, ⟨(some 57), none, (.bin .sub (.t 54) (.t 56))⟩, ⟨(some 58), none, (.bin .mul (.t 57) (.c (.int .i64 32)))⟩, ⟨(some 59), none, (.slc (.t 48) (some (.t 53)) (some (.t 58)) none 1)⟩, ⟨(some 60), none, (.call 77 [(.t 59)])⟩, ⟨(some 61), none, (.fad (.t 3) 4)⟩, ⟨none, none, (.st (.t 61) 1 (.t 60))⟩]) .skip))) (.seq (.ops [⟨(some 62), none, (.mov (.t 8))⟩, ⟨(some 63), none, (.mov (.t 9))⟩, ⟨(some 64), none, (.mov (.t 8))⟩, ⟨(some 65), none, (.bin .sub (.t 63) (.t 64))⟩, ⟨(some 66), none, (.fad (.t 3) 0)⟩, ⟨none, none, (.st (.t 66) 1 (.t 62))⟩, ⟨(some 67), none, (.fad (.t 3) 1)⟩, ⟨none, none, (.st (.t 67) 1 (.t 65))⟩]) (.seq (.ops [⟨(some 68), none, (.ld (.t 3) (some 5))⟩, ⟨none, none, (.st (.t 6) 5 (.t 68))⟩, ⟨(some 7), none, (.mov (.c (.bool true)))⟩]) .ret)))))))), 69, [(.cell 6 (some 5)), (.tmp 7)]⟩
theorem F_extent_Cut_ok : compF Try.prog (fun _ => true) 141 = some F_extent_Cut := by kernel_rfl
@[simp] abbrev n_extent_Write : FuncId := 68
def F_extent_Write_L0 : C := (.seq (.ops [⟨(some 16), none, (.bin .lss (.t 15) (.t 14))⟩]) (.seq (.cond (.t 16) .skip (.exit 0)) (.seq (.block 1 (.seq (.ops [⟨(some 17), none, (.ixs (.t 13) (.t 15) 5)⟩, ⟨(some 18), none, (.lde (.t 17) (some 5))⟩, ⟨(some 6), none, (.alc [(.val (.int .i64 0)), (.val (.int .i64 0)), (.val (.int .i64 0)), (.val (.int .i64 0)), (.lit 1 [])])⟩, ⟨none, none, (.st (.t 6) 5 (.t 18))⟩]) (.seq (.ops [⟨(some 20), none, (.fad (.t 6) 0)⟩, ⟨(some 21), none, (.ld (.t 20) none)⟩, ⟨(some 22), none, (.conv .u64 (.t 21))⟩, ⟨(some 23), none, (.fad (.t 6) 1)⟩, ⟨(some 24), none, (.ld (.t 23) none)⟩, ⟨(some 25), none, (.conv .u64 (.t 24))⟩, ⟨(some 26), none, (.fad (.t 6) 2)⟩, ⟨(some 27), none, (.ld (.t 26) none)⟩, ⟨(some 28), none, (.conv .u64 (.t 27))⟩, ⟨(some 29), none, (.fad (.t 6) 3)⟩, ⟨(some 30), none, (.ld (.t 29) none)⟩, ⟨(some 31), none, (.conv .u64 (.t 30))⟩, ⟨(some 32), none, (.mkl 114 1 [(.t 22), (.t 25), (.t 28), (.t 31)] true)⟩, ⟨(some 33), none, (.call 70 [(.c (.string ⟨#[98, 98, 98, 119]⟩)), (.t 32)])⟩, ⟨(some 19), none, (.mov (.t 33))⟩, ⟨(some 34), none, (.ext (.t 19) 0)⟩, ⟨(some 35), none, (.ext (.t 19) 1)⟩, ⟨(some 7), none, (.mov (.t 34))⟩, ⟨(some 8), none, (.mov (.t 35))⟩]) (.seq (.seq (.ops [⟨(some 36), none, (.ld (.t 6) (some 5))⟩, ⟨(some 37), none, (.call 119 [(.t 36)])⟩, ⟨(some 38), none, (.un .not (.t 37))⟩, ⟨(some 39), none, (.mov (.t 38))⟩, ⟨(some 40), (some (39, false)), (.mov (.t 8))⟩, ⟨(some 41), (some (39, false)), (.bin .neq (.t 40) (.c (.int .i64 0)))⟩, ⟨(some 42), none, (.pick (.t 39) (.c (.bool true)) (.t 41))⟩]) (.cond (.t 42) (.seq (.ops [⟨(some 2), none, (.nil 5 1 true)⟩, ⟨(some 3), none, (.mov (.c (.int .i64 70)))⟩]) .ret) .skip)) (.dops false [] [⟨(some 43), none, (.mov (.t 4))⟩, ⟨(some 44), none, (.mov (.t 7))⟩, ⟨(some 46), none, (.fad (.t 6) 4)⟩, ⟨(some 47), none, (.ld (.t 46) none)⟩, ⟨(some 45), none, (.app (.t 43) (.t 44) 5 1 1 true)⟩, ⟨(some 48), none, (.app (.t 45) (.t 47) 5 1 1 true)⟩, ⟨(some 4), none, (.mov (.t 48))⟩]))))) (.ops [⟨(some 49), none, (.bin .add (.t 15) (.c (.int .i64 1)))⟩, ⟨(some 15), none, (.mov (.t 49))⟩]))))
def F_extent_Write : F := ⟨(.seq (.ops [⟨(some 2), none, (.nil 5 1 true)⟩, ⟨(some 3), none, (.mov (.c (.int .i64 0)))⟩]) (.seq (.ops [⟨(some 9), none, (.mov (.t 0))⟩, ⟨(some 10), none, (.len (.t 9))⟩, ⟨(some 11), none, (.conv .u8 (.t 10))⟩, ⟨(some 12), none, (.mkl 5 1 [(.t 11)] true)⟩, ⟨(some 4), none, (.mov (.t 12))⟩]) (.seq (.seq (.ops [⟨(some 13), none, (.mov (.t 0))⟩, ⟨(some 14), none, (.len (.t 13))⟩, ⟨(some 15), none, (.mov (.c (.int .i64 0)))⟩]) (.block 0 (.loop F_extent_Write_L0))) (.seq (.seq (.ops [⟨(some 50), none, (.mov (.t 0))⟩, ⟨(some 51), none, (.len (.t 50))⟩, ⟨(some 52), none, (.bin .gtr (.t 51) (.c (.int .i64 64)))⟩]) (.cond (.t 52) (.seq (.ops [⟨(some 2), none, (.nil 5 1 true)⟩, ⟨(some 3), none, (.mov (.c (.int .i64 70)))⟩]) .ret) .skip)) (.seq (.ops [⟨(some 53), none, (.mov (.t 4))⟩, ⟨(some 2), none, (.mov (.t 53))⟩, ⟨(some 3), none, (.mov (.c (.int .i64 0)))⟩]) .ret))))), 54, [(.tmp 2), (.tmp 3)]⟩
theorem F_extent_Write_ok : compF Try.prog (fun _ => true) 68 = some F_extent_Write := by kernel_rfl
@[simp] abbrev n_extent_Read : FuncId := 84
def F_extent_Read_B0 : C := (.seq (.seq (.ops [⟨(some 24), none, (.mov (.t 2))⟩, ⟨(some 25), none, (.len (.t 24))⟩, ⟨(some 26), none, (.mov (.t 4))⟩, ⟨(some 27), none, (.bin .eql (.t 25) (.t 26))⟩]) (.cond (.t 27) (.seq (.seq (.ops [⟨(some 28), none, (.ld (.t 1) none)⟩, ⟨(some 29), none, (.len (.t 28))⟩, ⟨(some 30), none, (.bin .gtr (.t 29) (.c (.int .i64 0)))⟩]) (.cond (.t 30) (.seq (.ops [⟨(some 2), none, (.nil 174 5 true)⟩, ⟨(some 3), none, (.mov (.c (.int .i64 70)))⟩]) .ret) .skip)) (.seq (.ops [⟨(some 31), none, (.mov (.t 2))⟩, ⟨(some 2), none, (.mov (.t 31))⟩, ⟨(some 3), none, (.mov (.c (.int .i64 0)))⟩]) .ret)) .skip)) (.seq (.ops [⟨(some 33), none, (.mov (.t 5))⟩, ⟨(some 34), none, (.callv (.t 33) [])⟩, ⟨(some 32), none, (.mov (.t 34))⟩, ⟨(some 35), none, (.ext (.t 32) 0)⟩, ⟨(some 36), none, (.ext (.t 32) 1)⟩, ⟨(some 6), none, (.alc [(.val (.int .i64 0)), (.val (.int .i64 0)), (.val (.int .i64 0)), (.val (.int .i64 0)), (.lit 1 [])])⟩, ⟨none, none, (.st (.t 6) 5 (.t 35))⟩, ⟨(some 7), none, (.mov (.t 36))⟩]) (.seq (.seq (.ops [⟨(some 37), none, (.mov (.t 7))⟩, ⟨(some 38), none, (.un .not (.t 37))⟩]) (.cond (.t 38) (.seq (.ops [⟨(some 2), none, (.nil 174 5 true)⟩, ⟨(some 3), none, (.mov (.c (.int .i64 70)))⟩]) .ret) .skip)) (.seq (.ops [⟨(some 39), none, (.mov (.t 2))⟩, ⟨(some 40), none, (.ld (.t 6) (some 5))⟩, ⟨(some 41), none, (.mkl 174 5 [(.t 40)] true)⟩, ⟨(some 42), none, (.app (.t 39) (.t 41) 174 5 56 true)⟩, ⟨(some 2), none, (.mov (.t 42))⟩]) (.goto 0)))))
def F_extent_Read_J0 : C := (.seq .skip F_extent_Read_B0)
def F_extent_Read_S0 : C := (.seq (.seq (.ops [⟨(some 8), none, (.ld (.t 1) none)⟩, ⟨(some 9), none, (.len (.t 8))⟩, ⟨(some 10), none, (.bin .eql (.t 9) (.c (.int .i64 0)))⟩, ⟨(some 11), none, (.mov (.t 10))⟩, ⟨(some 12), (some (11, false)), (.ld (.t 1) none)⟩, ⟨(some 13), (some (11, false)), (.ixs (.t 12) (.c (.int .i64 0)) 1)⟩, ⟨(some 14), (some (11, false)), (.lde (.t 13) none)⟩, ⟨(some 15), (some (11, false)), (.bin .gtr (.t 14) (.c (.int .u8 64)))⟩, ⟨(some 16), none, (.pick (.t 11) (.c (.bool true)) (.t 15))⟩]) (.cond (.t 16) (.seq (.ops [⟨(some 2), none, (.nil 174 5 true)⟩, ⟨(some 3), none, (.mov (.c (.int .i64 70)))⟩]) .ret) .skip)) (.seq (.ops [⟨(some 17), none, (.ld (.t 1) none)⟩, ⟨(some 18), none, (.ixs (.t 17) (.c (.int .i64 0)) 1)⟩, ⟨(some 19), none, (.lde (.t 18) none)⟩, ⟨(some 20), none, (.conv .i64 (.t 19))⟩, ⟨(some 4), none, (.mov (.t 20))⟩]) (.seq (.ops [⟨(some 21), none, (.ld (.t 1) none)⟩, ⟨(some 22), none, (.slc (.t 21) (some (.c (.int .i64 1))) none none 1)⟩, ⟨none, none, (.st (.t 1) 1 (.t 22))⟩]) (.seq (.ops [⟨(some 23), none, (.mkf 131 [(.t 1)])⟩, ⟨(some 5), none, (.mov (.t 23))⟩]) (.seq (.label 0) F_extent_Read_B0)))))
def F_extent_Read : F := ⟨(.seq (.ops [⟨(some 1), none, (.box (.t 0))⟩, ⟨(some 2), none, (.nil 174 5 true)⟩, ⟨(some 3), none, (.mov (.c (.int .i64 0)))⟩]) (.scopeJ F_extent_Read_S0 0 F_extent_Read_J0)), 43, [(.tmp 2), (.tmp 3)]⟩
theorem F_extent_Read_ok : compF Try.prog (fun _ => true) 84 = some F_extent_Read := by kernel_rfl
@[simp] abbrev n_extent_Read_1 : FuncId := 131
def F_extent_Read_1 : F := ⟨(.seq (.ops [⟨(some 1), none, (.alc [(.val (.int .i64 0)), (.val (.int .i64 0)), (.val (.int .i64 0)), (.val (.int .i64 0)), (.lit 1 [])])⟩, ⟨(some 2), none, (.mov (.c (.bool false)))⟩]) (.seq (.seq (.ops [⟨(some 6), none, (.ld (.t 0) none)⟩, ⟨(some 7), none, (.len (.t 6))⟩, ⟨(some 8), none, (.bin .lss (.t 7) (.c (.int .i64 7)))⟩]) (.cond (.t 8) (.seq (.ops [⟨(some 9), none, (.ld (.t 1) (some 5))⟩, ⟨none, none, (.st (.t 1) 5 (.t 9))⟩, ⟨(some 2), none, (.mov (.c (.bool false)))⟩]) .ret) .skip)) (.seq (.ops [⟨(some 11), none, (.ld (.t 0) none)⟩, ⟨(some 12), none, (.slc (.t 11) none (some (.c (.int .i64 7))) none 1)⟩, ⟨(some 13), none, (.call 82 [(.c (.string ⟨#[98, 98, 98, 119]⟩)), (.t 12)])⟩, ⟨(some 10), none, (.mov (.t 13))⟩, ⟨(some 14), none, (.ext (.t 10) 0)⟩, ⟨(some 15), none, (.ext (.t 10) 1)⟩, ⟨(some 3), none, (.mov (.t 14))⟩, ⟨(some 4), none, (.mov (.t 15))⟩]) (.seq (.seq (.ops [⟨(some 16), none, (.mov (.t 4))⟩, ⟨(some 17), none, (.bin .neq (.t 16) (.c (.int .i64 0)))⟩]) (.cond (.t 17) (.seq (.ops [⟨(some 18), none, (.ld (.t 1) (some 5))⟩, ⟨none, none, (.st (.t 1) 5 (.t 18))⟩, ⟨(some 2), none, (.mov (.c (.bool false)))⟩]) .ret) .skip)) (.seq (.dops false [(0, 1)] [⟨(some 19), none, (.mov (.t 3))⟩, ⟨(some 20), none, (.ixs (.t 19) (.c (.int .i64 0)) 1)⟩, ⟨(some 21), none, (.lde (.t 20) none)⟩, ⟨(some 22), none, (.conv .i64 (.t 21))⟩, ⟨(some 23), none, (.mov (.t 3))⟩, ⟨(some 24), none, (.ixs (.t 23) (.c (.int .i64 1)) 1)⟩, ⟨(some 25), none, (.lde (.t 24) none)⟩, ⟨(some 26), none, (.conv .i64 (.t 25))⟩, ⟨(some 27), none, (.mov (.t 3))⟩, ⟨(some 28), none, (.ixs (.t 27) (.c (.int .i64 2)) 1)⟩, ⟨(some 29), none, (.lde (.t 28) none)⟩, ⟨(some 30), none, (.conv .i64 (.t 29))⟩, ⟨(some 31), none, (.mov (.t 3))⟩, ⟨(some 32), none, (.ixs (.t 31) (.c (.int .i64 3)) 1)⟩, ⟨(some 33), none, (.lde (.t 32) none)⟩, ⟨(some 34), none, (.conv .i64 (.t 33))⟩, ⟨(some 35), none, (.bld [(.val (.int .i64 0)), (.val (.int .i64 0)), (.val (.int .i64 0)), (.val (.int .i64 0)), (.lit 1 [])] [(0, (1, (.t 22))), (1, (1, (.t 26))), (2, (1, (.t 30))), (3, (1, (.t 34)))])⟩, ⟨(some 36), none, (.ld (.t 0) none)⟩, ⟨(some 37), none, (.slc (.t 36) (some (.c (.int .i64 7))) none none 1)⟩, ⟨none, none, (.st (.t 1) 5 (.t 35))⟩, ⟨none, none, (.st (.t 0) 1 (.t 37))⟩]) (.seq (.seq (.ops [⟨(some 38), none, (.ld (.t 1) (some 5))⟩, ⟨(some 39), none, (.call 132 [(.t 38)])⟩, ⟨(some 5), none, (.mov (.t 39))⟩]) (.seq (.ops [⟨(some 40), none, (.mov (.t 5))⟩, ⟨(some 41), none, (.bin .gtr (.t 40) (.c (.int .i64 0)))⟩, ⟨(some 42), none, (.mov (.t 41))⟩, ⟨(some 43), (some (42, true)), (.mov (.t 5))⟩, ⟨(some 44), (some (42, true)), (.ld (.t 0) none)⟩, ⟨(some 45), (some (42, true)), (.len (.t 44))⟩, ⟨(some 46), (some (42, true)), (.bin .leq (.t 43) (.t 45))⟩, ⟨(some 47), none, (.pick (.t 42) (.t 46) (.c (.bool false)))⟩]) (.cond (.t 47) (.dops false [(0, 55)] [⟨(some 48), none, (.ld (.t 0) none)⟩, ⟨(some 49), none, (.mov (.t 5))⟩, ⟨(some 50), none, (.slc (.t 48) none (some (.t 49)) none 1)⟩, ⟨(some 51), none, (.callq 77 [(.t 50)])⟩, ⟨(some 52), none, (.ld (.t 0) none)⟩, ⟨(some 53), none, (.mov (.t 5))⟩, ⟨(some 54), none, (.slc (.t 52) (some (.t 53)) none none 1)⟩, ⟨(some 55), none, (.fad (.t 1) 4)⟩, ⟨none, none, (.st (.t 55) 1 (.t 51))⟩, ⟨none, none, (.st (.t 0) 1 (.t 54))⟩]) .skip))) (.seq (.dops false [] [⟨(some 56), none, (.ld (.t 1) (some 5))⟩, ⟨(some 57), none, (.ld (.t 1) (some 5))⟩, ⟨(some 58), none, (.callq 119 [(.t 57)])⟩, ⟨none, none, (.st (.t 1) 5 (.t 56))⟩, ⟨(some 2), none, (.mov (.t 58))⟩]) .ret))))))), 59, [(.cell 1 (some 5)), (.tmp 2)]⟩
theorem F_extent_Read_1_ok : compF Try.prog (fun _ => true) 131 = some F_extent_Read_1 := by kernel_rfl
@[simp] abbrev n_r07_Check : FuncId := 174
def F_r07_Check : F := ⟨(.seq (.ops [⟨(some 1), none, (.box (.t 0))⟩, ⟨(some 2), none, (.mov (.c (.bool false)))⟩]) (.seq (.seq (.ops [⟨(some 3), none, (.fad (.t 1) 0)⟩, ⟨(some 4), none, (.ld (.t 3) none)⟩, ⟨(some 5), none, (.bin .lss (.t 4) (.c (.int .i64 0)))⟩, ⟨(some 6), none, (.mov (.t 5))⟩, ⟨(some 7), (some (6, false)), (.fad (.t 1) 0)⟩, ⟨(some 8), (some (6, false)), (.ld (.t 7) none)⟩, ⟨(some 9), (some (6, false)), (.bin .gtr (.t 8) (.c (.int .i64 64)))⟩, ⟨(some 10), none, (.pick (.t 6) (.c (.bool true)) (.t 9))⟩, ⟨(some 11), none, (.mov (.t 10))⟩, ⟨(some 12), (some (11, false)), (.fad (.t 1) 1)⟩, ⟨(some 13), (some (11, false)), (.ld (.t 12) none)⟩, ⟨(some 14), (some (11, false)), (.bin .lss (.t 13) (.c (.int .i64 1)))⟩, ⟨(some 15), none, (.pick (.t 11) (.c (.bool true)) (.t 14))⟩, ⟨(some 16), none, (.mov (.t 15))⟩, ⟨(some 17), (some (16, false)), (.fad (.t 1) 1)⟩, ⟨(some 18), (some (16, false)), (.ld (.t 17) none)⟩, ⟨(some 19), (some (16, false)), (.fad (.t 1) 0)⟩, ⟨(some 20), (some (16, false)), (.ld (.t 19) none)⟩, ⟨(some 21), (some (16, false)), (.bin .sub (.c (.int .i64 64)) (.t 20))⟩, ⟨(some 22), (some (16, false)), (.bin .gtr (.t 18) (.t 21))⟩, ⟨(some 23), none, (.pick (.t 16) (.c (.bool true)) (.t 22))⟩, ⟨(some 24), none, (.mov (.t 23))⟩, ⟨(some 25), (some (24, false)), (.fad (.t 1) 2)⟩, ⟨(some 26), (some (24, false)), (.ld (.t 25) none)⟩, ⟨(some 27), (some (24, false)), (.bin .lss (.t 26) (.c (.int .i64 0)))⟩, ⟨(some 28), none, (.pick (.t 24) (.c (.bool true)) (.t 27))⟩, ⟨(some 29), none, (.mov (.t 28))⟩, ⟨(some 30), (some (29, false)), (.fad (.t 1) 2)⟩, ⟨(some 31), (some (29, false)), (.ld (.t 30) none)⟩, ⟨(some 32), (some (29, false)), (.bin .gtr (.t 31) (.c (.int .i64 2)))⟩, ⟨(some 33), none, (.pick (.t 29) (.c (.bool true)) (.t 32))⟩, ⟨(some 34), none, (.mov (.t 33))⟩, ⟨(some 35), (some (34, false)), (.fad (.t 1) 3)⟩, ⟨(some 36), (some (34, false)), (.ld (.t 35) none)⟩, ⟨(some 37), (some (34, false)), (.bin .lss (.t 36) (.c (.int .i64 0)))⟩, ⟨(some 38), none, (.pick (.t 34) (.c (.bool true)) (.t 37))⟩, ⟨(some 39), none, (.mov (.t 38))⟩, ⟨(some 40), (some (39, false)), (.fad (.t 1) 3)⟩, ⟨(some 41), (some (39, false)), (.ld (.t 40) none)⟩, ⟨(some 42), (some (39, false)), (.bin .geq (.t 41) (.c (.int .i64 2147483648)))⟩, ⟨(some 43), none, (.pick (.t 39) (.c (.bool true)) (.t 42))⟩]) (.cond (.t 43) (.seq (.ops [⟨(some 2), none, (.mov (.c (.bool false)))⟩]) .ret) .skip)) (.seq (.seq (.ops [⟨(some 44), none, (.fad (.t 1) 2)⟩, ⟨(some 45), none, (.ld (.t 44) none)⟩, ⟨(some 46), none, (.bin .eql (.t 45) (.c (.int .i64 2)))⟩]) (.cond (.t 46) (.seq (.ops [⟨(some 47), none, (.fad (.t 1) 4)⟩, ⟨(some 48), none, (.ld (.t 47) none)⟩, ⟨(some 49), none, (.len (.t 48))⟩, ⟨(some 50), none, (.fad (.t 1) 1)⟩, ⟨(some 51), none, (.ld (.t 50) none)⟩, ⟨(some 52), none, (.bin .mul (.c (.int .i64 32)) (.t 51))⟩, ⟨(some 53), none, (.bin .eql (.t 49) (.t 52))⟩, ⟨(some 2), none, (.mov (.t 53))⟩]) .ret) .skip)) (.seq (.ops [⟨(some 54), none, (.fad (.t 1) 4)⟩, ⟨(some 55), none, (.ld (.t 54) none)⟩, ⟨(some 56), none, (.len (.t 55))⟩, ⟨(some 57), none, (.bin .eql (.t 56) (.c (.int .i64 0)))⟩, ⟨(some 2), none, (.mov (.t 57))⟩]) .ret)))), 58, [(.tmp 2)]⟩
theorem F_r07_Check_ok : compF Try.prog (fun _ => true) 174 = some F_r07_Check := by kernel_rfl
@[simp] abbrev n_r07_Joins : FuncId := 200
def F_r07_Joins : F := ⟨(.seq (.ops [⟨(some 2), none, (.box (.t 0))⟩, ⟨(some 3), none, (.box (.t 1))⟩, ⟨(some 4), none, (.mov (.c (.bool false)))⟩]) (.seq (.ops [⟨(some 7), none, (.ld (.t 2) (some 5))⟩, ⟨(some 8), none, (.call 174 [(.t 7)])⟩, ⟨(some 5), none, (.mov (.t 8))⟩]) (.seq (.ops [⟨(some 9), none, (.ld (.t 3) (some 5))⟩, ⟨(some 10), none, (.call 174 [(.t 9)])⟩, ⟨(some 6), none, (.mov (.t 10))⟩]) (.seq (.ops [⟨(some 11), none, (.mov (.t 5))⟩, ⟨(some 12), none, (.mov (.t 11))⟩, ⟨(some 13), (some (12, true)), (.mov (.t 6))⟩, ⟨(some 14), none, (.pick (.t 12) (.t 13) (.c (.bool false)))⟩, ⟨(some 15), none, (.mov (.t 14))⟩, ⟨(some 16), (some (15, true)), (.fad (.t 2) 0)⟩, ⟨(some 17), (some (15, true)), (.ld (.t 16) none)⟩, ⟨(some 18), (some (15, true)), (.fad (.t 2) 1)⟩, ⟨(some 19), (some (15, true)), (.ld (.t 18) none)⟩, ⟨(some 20), (some (15, true)), (.bin .add (.t 17) (.t 19))⟩, ⟨(some 21), (some (15, true)), (.fad (.t 3) 0)⟩, ⟨(some 22), (some (15, true)), (.ld (.t 21) none)⟩, ⟨(some 23), (some (15, true)), (.bin .eql (.t 20) (.t 22))⟩, ⟨(some 24), none, (.pick (.t 15) (.t 23) (.c (.bool false)))⟩, ⟨(some 25), none, (.mov (.t 24))⟩, ⟨(some 26), (some (25, true)), (.fad (.t 2) 2)⟩, ⟨(some 27), (some (25, true)), (.ld (.t 26) none)⟩, ⟨(some 28), (some (25, true)), (.fad (.t 3) 2)⟩, ⟨(some 29), (some (25, true)), (.ld (.t 28) none)⟩, ⟨(some 30), (some (25, true)), (.bin .eql (.t 27) (.t 29))⟩, ⟨(some 31), none, (.pick (.t 25) (.t 30) (.c (.bool false)))⟩, ⟨(some 32), none, (.mov (.t 31))⟩, ⟨(some 33), (some (32, true)), (.fad (.t 2) 3)⟩, ⟨(some 34), (some (32, true)), (.ld (.t 33) none)⟩, ⟨(some 35), (some (32, true)), (.fad (.t 3) 3)⟩, ⟨(some 36), (some (32, true)), (.ld (.t 35) none)⟩, ⟨(some 37), (some (32, true)), (.bin .eql (.t 34) (.t 36))⟩, ⟨(some 38), none, (.pick (.t 32) (.t 37) (.c (.bool false)))⟩, ⟨(some 4), none, (.mov (.t 38))⟩]) .ret)))), 39, [(.tmp 4)]⟩
theorem F_r07_Joins_ok : compF Try.prog (fun _ => true) 200 = some F_r07_Joins := by kernel_rfl
@[simp] abbrev n_r07_Bytes : FuncId := 201
def F_r07_Bytes : F := ⟨(.seq (.ops [⟨(some 1), none, (.box (.t 0))⟩, ⟨(some 2), none, (.nil 5 1 true)⟩]) (.seq (.ops [⟨(some 4), none, (.ld (.t 1) (some 5))⟩, ⟨(some 5), none, (.call 174 [(.t 4)])⟩, ⟨(some 3), none, (.mov (.t 5))⟩]) (.seq (.seq (.ops [⟨(some 6), none, (.mov (.t 3))⟩, ⟨(some 7), none, (.un .not (.t 6))⟩]) (.cond (.t 7) (.seq (.ops [⟨(some 2), none, (.nil 5 1 true)⟩]) .ret) .skip)) (.seq (.seq (.ops [⟨(some 8), none, (.fad (.t 1) 2)⟩, ⟨(some 9), none, (.ld (.t 8) none)⟩, ⟨(some 10), none, (.bin .eql (.t 9) (.c (.int .i64 2)))⟩]) (.cond (.t 10) (.seq (.ops [⟨(some 11), none, (.mkl 5 1 [] true)⟩, ⟨(some 12), none, (.fad (.t 1) 4)⟩, ⟨(some 13), none, (.ld (.t 12) none)⟩, ⟨(some 14), none, (.app (.t 11) (.t 13) 5 1 1 true)⟩, ⟨(some 2), none, (.mov (.t 14))⟩]) .ret) .skip)) (.seq (.ops [⟨(some 15), none, (.fad (.t 1) 1)⟩, ⟨(some 16), none, (.ld (.t 15) none)⟩, ⟨(some 17), none, (.bin .mul (.c (.int .i64 32)) (.t 16))⟩, ⟨(some 18), none, (.mks (.t 17) (.t 17) 5 1 1 [(.val (.int .u8 0))] true)⟩, ⟨(some 2), none, (.mov (.t 18))⟩]) .ret))))), 19, [(.tmp 2)]⟩
theorem F_r07_Bytes_ok : compF Try.prog (fun _ => true) 201 = some F_r07_Bytes := by kernel_rfl
@[simp] abbrev n_r07_Write : FuncId := 126
def F_r07_Write_L0 : C := (.seq (.seq (.ops [⟨(some 16), none, (.mov (.t 5))⟩, ⟨(some 17), none, (.mov (.t 0))⟩, ⟨(some 18), none, (.len (.t 17))⟩, ⟨(some 19), none, (.bin .lss (.t 16) (.t 18))⟩]) (.cond (.t 19) .skip (.exit 0))) (.seq (.block 1 (.seq (.ops [⟨(some 22), none, (.mov (.t 0))⟩, ⟨(some 23), none, (.mov (.t 5))⟩, ⟨(some 24), none, (.ixs (.t 22) (.t 23) 5)⟩, ⟨(some 25), none, (.lde (.t 24) (some 5))⟩, ⟨(some 26), none, (.call 174 [(.t 25)])⟩, ⟨(some 6), none, (.mov (.t 26))⟩]) (.seq (.seq (.ops [⟨(some 27), none, (.mov (.t 6))⟩, ⟨(some 28), none, (.un .not (.t 27))⟩]) (.cond (.t 28) (.seq (.ops [⟨(some 2), none, (.nil 5 1 true)⟩, ⟨(some 3), none, (.mov (.c (.int .i64 70)))⟩]) .ret) .skip)) (.seq (.dops false [] [⟨(some 30), none, (.mov (.t 0))⟩, ⟨(some 31), none, (.mov (.t 5))⟩, ⟨(some 32), none, (.ixs (.t 30) (.t 31) 5)⟩, ⟨(some 33), none, (.fad (.t 32) 0)⟩, ⟨(some 34), none, (.lde (.t 33) none)⟩, ⟨(some 35), none, (.conv .u64 (.t 34))⟩, ⟨(some 36), none, (.mov (.t 0))⟩, ⟨(some 37), none, (.mov (.t 5))⟩, ⟨(some 38), none, (.ixs (.t 36) (.t 37) 5)⟩, ⟨(some 39), none, (.fad (.t 38) 1)⟩, ⟨(some 40), none, (.lde (.t 39) none)⟩, ⟨(some 41), none, (.conv .u64 (.t 40))⟩, ⟨(some 42), none, (.mov (.t 0))⟩, ⟨(some 43), none, (.mov (.t 5))⟩, ⟨(some 44), none, (.ixs (.t 42) (.t 43) 5)⟩, ⟨(some 45), none, (.fad (.t 44) 2)⟩, ⟨(some 46), none, (.lde (.t 45) none)⟩, ⟨(some 47), none, (.conv .u64 (.t 46))⟩, ⟨(some 48), none, (.mov (.t 0))⟩, ⟨(some 49), none, (.mov (.t 5))⟩, ⟨(some 50), none, (.ixs (.t 48) (.t 49) 5)⟩, ⟨(some 51), none, (.fad (.t 50) 3)⟩, ⟨(some 52), none, (.lde (.t 51) none)⟩, ⟨(some 53), none, (.conv .u64 (.t 52))⟩, ⟨(some 54), none, (.mkl 114 1 [(.t 35), (.t 41), (.t 47), (.t 53)] true)⟩, ⟨(some 55), none, (.call 73 [(.c (.string ⟨#[98, 98, 98, 119]⟩)), (.t 54)])⟩, ⟨(some 29), none, (.mov (.t 55))⟩, ⟨(some 56), none, (.ext (.t 29) 0)⟩, ⟨(some 57), none, (.ext (.t 29) 1)⟩, ⟨(some 7), none, (.mov (.t 56))⟩, ⟨(some 8), none, (.mov (.t 57))⟩]) (.dops false [] [⟨(some 58), none, (.mov (.t 4))⟩, ⟨(some 59), none, (.mov (.t 7))⟩, ⟨(some 61), none, (.mov (.t 0))⟩, ⟨(some 62), none, (.mov (.t 5))⟩, ⟨(some 63), none, (.ixs (.t 61) (.t 62) 5)⟩, ⟨(some 64), none, (.fad (.t 63) 4)⟩, ⟨(some 65), none, (.lde (.t 64) none)⟩, ⟨(some 60), none, (.app (.t 58) (.t 59) 5 1 1 true)⟩, ⟨(some 66), none, (.app (.t 60) (.t 65) 5 1 1 true)⟩, ⟨(some 4), none, (.mov (.t 66))⟩]))))) (.ops [⟨(some 20), none, (.mov (.t 5))⟩, ⟨(some 21), none, (.bin .add (.t 20) (.c (.int .i64 1)))⟩, ⟨(some 5), none, (.mov (.t 21))⟩])))
def F_r07_Write : F := ⟨(.seq (.ops [⟨(some 2), none, (.nil 5 1 true)⟩, ⟨(some 3), none, (.mov (.c (.int .i64 0)))⟩]) (.seq (.seq (.ops [⟨(some 9), none, (.mov (.t 0))⟩, ⟨(some 10), none, (.len (.t 9))⟩, ⟨(some 11), none, (.bin .gtr (.t 10) (.c (.int .i64 64)))⟩]) (.cond (.t 11) (.seq (.ops [⟨(some 2), none, (.nil 5 1 true)⟩, ⟨(some 3), none, (.mov (.c (.int .i64 70)))⟩]) .ret) .skip)) (.seq (.ops [⟨(some 12), none, (.mov (.t 0))⟩, ⟨(some 13), none, (.len (.t 12))⟩, ⟨(some 14), none, (.conv .u8 (.t 13))⟩, ⟨(some 15), none, (.mkl 5 1 [(.t 14)] true)⟩, ⟨(some 4), none, (.mov (.t 15))⟩]) (.seq (.seq (.ops [⟨(some 5), none, (.mov (.c (.int .i64 0)))⟩]) (.block 0 (.loop F_r07_Write_L0))) (.seq (.ops [⟨(some 67), none, (.mov (.t 4))⟩, ⟨(some 2), none, (.mov (.t 67))⟩, ⟨(some 3), none, (.mov (.c (.int .i64 0)))⟩]) .ret))))), 68, [(.tmp 2), (.tmp 3)]⟩
theorem F_r07_Write_ok : compF Try.prog (fun _ => true) 126 = some F_r07_Write := by kernel_rfl
@[simp] abbrev n_r07_Read : FuncId := 134
def F_r07_Read_L0 : C := (.seq (.seq (.ops [⟨(some 15), none, (.mov (.t 6))⟩, ⟨(some 16), none, (.mov (.t 0))⟩, ⟨(some 17), none, (.ixs (.t 16) (.c (.int .i64 0)) 1)⟩, ⟨(some 18), none, (.lde (.t 17) none)⟩, ⟨(some 19), none, (.conv .i64 (.t 18))⟩, ⟨(some 20), none, (.bin .lss (.t 15) (.t 19))⟩]) (.cond (.t 20) .skip (.exit 0))) (.seq (.block 1 (.seq (.seq (.ops [⟨(some 23), none, (.mov (.t 0))⟩, ⟨(some 24), none, (.len (.t 23))⟩, ⟨(some 25), none, (.mov (.t 5))⟩, ⟨(some 26), none, (.bin .sub (.t 24) (.t 25))⟩, ⟨(some 27), none, (.bin .lss (.t 26) (.c (.int .i64 7)))⟩]) (.cond (.t 27) (.seq (.ops [⟨(some 2), none, (.nil 174 5 true)⟩, ⟨(some 3), none, (.mov (.c (.int .i64 70)))⟩]) .ret) .skip)) (.seq (.ops [⟨(some 29), none, (.mov (.t 0))⟩, ⟨(some 30), none, (.mov (.t 5))⟩, ⟨(some 31), none, (.mov (.t 5))⟩, ⟨(some 32), none, (.bin .add (.t 31) (.c (.int .i64 7)))⟩, ⟨(some 33), none, (.slc (.t 29) (some (.t 30)) (some (.t 32)) none 1)⟩, ⟨(some 34), none, (.call 85 [(.c (.string ⟨#[98, 98, 98, 119]⟩)), (.t 33)])⟩, ⟨(some 28), none, (.mov (.t 34))⟩, ⟨(some 35), none, (.ext (.t 28) 0)⟩, ⟨(some 36), none, (.ext (.t 28) 1)⟩, ⟨(some 7), none, (.mov (.t 35))⟩, ⟨(some 8), none, (.mov (.t 36))⟩]) (.seq (.dops false [] [⟨(some 37), none, (.mov (.t 7))⟩, ⟨(some 38), none, (.ixs (.t 37) (.c (.int .i64 0)) 1)⟩, ⟨(some 39), none, (.lde (.t 38) none)⟩, ⟨(some 40), none, (.conv .i64 (.t 39))⟩, ⟨(some 41), none, (.mov (.t 7))⟩, ⟨(some 42), none, (.ixs (.t 41) (.c (.int .i64 1)) 1)⟩, ⟨(some 43), none, (.lde (.t 42) none)⟩, ⟨(some 44), none, (.conv .i64 (.t 43))⟩, ⟨(some 45), none, (.mov (.t 7))⟩, ⟨(some 46), none, (.ixs (.t 45) (.c (.int .i64 2)) 1)⟩, ⟨(some 47), none, (.lde (.t 46) none)⟩, ⟨(some 48), none, (.conv .i64 (.t 47))⟩, ⟨(some 49), none, (.mov (.t 7))⟩, ⟨(some 50), none, (.ixs (.t 49) (.c (.int .i64 3)) 1)⟩, ⟨(some 51), none, (.lde (.t 50) none)⟩, ⟨(some 52), none, (.conv .i64 (.t 51))⟩, ⟨(some 53), none, (.bld [(.val (.int .i64 0)), (.val (.int .i64 0)), (.val (.int .i64 0)), (.val (.int .i64 0)), (.lit 1 [])] [(0, (1, (.t 40))), (1, (1, (.t 44))), (2, (1, (.t 48))), (3, (1, (.t 52)))])⟩, ⟨(some 9), none, (.alc [(.val (.int .i64 0)), (.val (.int .i64 0)), (.val (.int .i64 0)), (.val (.int .i64 0)), (.lit 1 [])])⟩, ⟨none, none, (.st (.t 9) 5 (.t 53))⟩]) (.seq (.ops [⟨(some 54), none, (.mov (.t 5))⟩, ⟨(some 55), none, (.bin .add (.t 54) (.c (.int .i64 7)))⟩, ⟨(some 5), none, (.mov (.t 55))⟩]) (.seq (.seq (.ops [⟨(some 56), none, (.fad (.t 9) 2)⟩, ⟨(some 57), none, (.ld (.t 56) none)⟩, ⟨(some 58), none, (.bin .eql (.t 57) (.c (.int .i64 2)))⟩]) (.cond (.t 58) (.seq (.seq (.ops [⟨(some 59), none, (.mov (.t 0))⟩, ⟨(some 60), none, (.len (.t 59))⟩, ⟨(some 61), none, (.mov (.t 5))⟩, ⟨(some 62), none, (.bin .sub (.t 60) (.t 61))⟩, ⟨(some 63), none, (.fad (.t 9) 1)⟩, ⟨(some 64), none, (.ld (.t 63) none)⟩, ⟨(some 65), none, (.bin .mul (.c (.int .i64 32)) (.t 64))⟩, ⟨(some 66), none, (.bin .lss (.t 62) (.t 65))⟩]) (.cond (.t 66) (.seq (.ops [⟨(some 2), none, (.nil 174 5 true)⟩, ⟨(some 3), none, (.mov (.c (.int .i64 70)))⟩]) .ret) .skip)) (.seq (.ops [⟨(some 67), none, (.mkl 5 1 [] true)⟩, ⟨(some 68), none, (.mov (.t 0))⟩, ⟨(some 69), none, (.mov (.t 5))⟩, ⟨(some 70), none, (.mov (.t 5))⟩, ⟨(some 71), none, (.fad (.t 9) 1)⟩, ⟨(some 72), none, (.ld (.t 71) none)⟩, ⟨(some 73), none, (.bin .mul (.c (.int .i64 32)) (.t 72))⟩, ⟨(some 74), none, (.bin .add (.t 70) (.t 73))⟩, ⟨(some 75), none, (.slc (.t 68) (some (.t 69)) (some (.t 74)) none 1)⟩, ⟨(some 76), none, (.app (.t 67) (.t 75) 5 1 1 true)⟩, ⟨(some 77), none, (.fad (.t 9) 4)⟩, ⟨none, none, (.st (.t 77) 1 (.t 76))⟩]) (.ops [⟨(some 78), none, (.mov (.t 5))⟩, ⟨(some 79), none, (.fad (.t 9) 1)⟩, ⟨(some 80), none, (.ld (.t 79) none)⟩, ⟨(some 81), none, (.bin .mul (.c (.int .i64 32)) (.t 80))⟩, ⟨(some 82), none, (.bin .add (.t 78) (.t 81))⟩, ⟨(some 5), none, (.mov (.t 82))⟩]))) .skip)) (.ops [⟨(some 83), none, (.mov (.t 4))⟩, ⟨(some 84), none, (.ld (.t 9) (some 5))⟩, ⟨(some 85), none, (.mkl 174 5 [(.t 84)] false)⟩, ⟨(some 86), none, (.app (.t 83) (.t 85) 174 5 56 true)⟩, ⟨(some 4), none, (.mov (.t 86))⟩]))))))) (.ops [⟨(some 21), none, (.mov (.t 6))⟩, ⟨(some 22), none, (.bin .add (.t 21) (.c (.int .i64 1)))⟩, ⟨(some 6), none, (.mov (.t 22))⟩])))
def F_r07_Read : F := ⟨(.seq (.ops [⟨(some 2), none, (.nil 174 5 true)⟩, ⟨(some 3), none, (.mov (.c (.int .i64 0)))⟩]) (.seq (.seq (.ops [⟨(some 12), none, (.mov (.t 0))⟩, ⟨(some 13), none, (.len (.t 12))⟩, ⟨(some 14), none, (.bin .eql (.t 13) (.c (.int .i64 0)))⟩]) (.cond (.t 14) (.seq (.ops [⟨(some 2), none, (.nil 174 5 true)⟩, ⟨(some 3), none, (.mov (.c (.int .i64 70)))⟩]) .ret) .skip)) (.seq (.ops [⟨(some 4), none, (.nil 174 5 true)⟩]) (.seq (.ops [⟨(some 5), none, (.mov (.c (.int .i64 1)))⟩]) (.seq (.seq (.ops [⟨(some 6), none, (.mov (.c (.int .i64 0)))⟩]) (.block 0 (.loop F_r07_Read_L0))) (.seq (.ops [⟨(some 88), none, (.mov (.t 4))⟩, ⟨(some 89), none, (.call 126 [(.t 88)])⟩, ⟨(some 87), none, (.mov (.t 89))⟩, ⟨(some 90), none, (.ext (.t 87) 0)⟩, ⟨(some 91), none, (.ext (.t 87) 1)⟩, ⟨(some 10), none, (.mov (.t 90))⟩, ⟨(some 11), none, (.mov (.t 91))⟩]) (.seq (.seq (.ops [⟨(some 92), none, (.mov (.t 11))⟩, ⟨(some 93), none, (.bin .neq (.t 92) (.c (.int .i64 0)))⟩, ⟨(some 94), none, (.mov (.t 93))⟩, ⟨(some 95), (some (94, false)), (.mov (.t 10))⟩, ⟨(some 96), (some (94, false)), (.b2s (.t 95))⟩, ⟨(some 97), (some (94, false)), (.mov (.t 0))⟩, ⟨(some 98), (some (94, false)), (.b2s (.t 97))⟩, ⟨(some 99), (some (94, false)), (.bin .neq (.t 96) (.t 98))⟩, ⟨(some 100), none, (.pick (.t 94) (.c (.bool true)) (.t 99))⟩]) (.cond (.t 100) (.seq (.ops [⟨(some 2), none, (.nil 174 5 true)⟩, ⟨(some 3), none, (.mov (.c (.int .i64 70)))⟩]) .ret) .skip)) (.seq (.ops [⟨(some 101), none, (.mov (.t 4))⟩, ⟨(some 2), none, (.mov (.t 101))⟩, ⟨(some 3), none, (.mov (.c (.int .i64 0)))⟩]) .ret)))))))), 102, [(.tmp 2), (.tmp 3)]⟩
theorem F_r07_Read_ok : compF Try.prog (fun d => !([85].contains d)) 134 = some F_r07_Read := by kernel_rfl
@[simp] abbrev n_r07_Same : FuncId := 135
def F_r07_Same : F := ⟨(.seq (.ops [⟨(some 2), none, (.box (.t 0))⟩, ⟨(some 3), none, (.box (.t 1))⟩, ⟨(some 4), none, (.mov (.c (.bool false)))⟩]) (.seq (.ops [⟨(some 5), none, (.fad (.t 2) 0)⟩, ⟨(some 6), none, (.ld (.t 5) none)⟩, ⟨(some 7), none, (.fad (.t 3) 0)⟩, ⟨(some 8), none, (.ld (.t 7) none)⟩, ⟨(some 9), none, (.bin .eql (.t 6) (.t 8))⟩, ⟨(some 10), none, (.mov (.t 9))⟩, ⟨(some 11), (some (10, true)), (.fad (.t 2) 1)⟩, ⟨(some 12), (some (10, true)), (.ld (.t 11) none)⟩, ⟨(some 13), (some (10, true)), (.fad (.t 3) 1)⟩, ⟨(some 14), (some (10, true)), (.ld (.t 13) none)⟩, ⟨(some 15), (some (10, true)), (.bin .eql (.t 12) (.t 14))⟩, ⟨(some 16), none, (.pick (.t 10) (.t 15) (.c (.bool false)))⟩, ⟨(some 17), none, (.mov (.t 16))⟩, ⟨(some 18), (some (17, true)), (.fad (.t 2) 2)⟩, ⟨(some 19), (some (17, true)), (.ld (.t 18) none)⟩, ⟨(some 20), (some (17, true)), (.fad (.t 3) 2)⟩, ⟨(some 21), (some (17, true)), (.ld (.t 20) none)⟩, ⟨(some 22), (some (17, true)), (.bin .eql (.t 19) (.t 21))⟩, ⟨(some 23), none, (.pick (.t 17) (.t 22) (.c (.bool false)))⟩, ⟨(some 24), none, (.mov (.t 23))⟩, ⟨(some 25), (some (24, true)), (.fad (.t 2) 3)⟩, ⟨(some 26), (some (24, true)), (.ld (.t 25) none)⟩, ⟨(some 27), (some (24, true)), (.fad (.t 3) 3)⟩, ⟨(some 28), (some (24, true)), (.ld (.t 27) none)⟩, ⟨(some 29), (some (24, true)), (.bin .eql (.t 26) (.t 28))⟩, ⟨(some 30), none, (.pick (.t 24) (.t 29) (.c (.bool false)))⟩, ⟨(some 31), none, (.mov (.t 30))⟩, ⟨(some 32), (some (31, true)), (.fad (.t 2) 4)⟩, ⟨(some 33), (some (31, true)), (.ld (.t 32) none)⟩, ⟨(some 34), (some (31, true)), (.b2s (.t 33))⟩, ⟨(some 35), (some (31, true)), (.fad (.t 3) 4)⟩, ⟨(some 36), (some (31, true)), (.ld (.t 35) none)⟩, ⟨(some 37), (some (31, true)), (.b2s (.t 36))⟩, ⟨(some 38), (some (31, true)), (.bin .eql (.t 34) (.t 37))⟩, ⟨(some 39), none, (.pick (.t 31) (.t 38) (.c (.bool false)))⟩, ⟨(some 4), none, (.mov (.t 39))⟩]) .ret)), 40, [(.tmp 4)]⟩
theorem F_r07_Same_ok : compF Try.prog (fun _ => true) 135 = some F_r07_Same := by kernel_rfl
@[simp] abbrev n_r07_All : FuncId := 87
def F_r07_All_L0 : C := (.seq (.seq (.ops [⟨(some 12), none, (.mov (.t 5))⟩, ⟨(some 13), none, (.mov (.t 0))⟩, ⟨(some 14), none, (.len (.t 13))⟩, ⟨(some 15), none, (.bin .lss (.t 12) (.t 14))⟩]) (.cond (.t 15) .skip (.exit 0))) (.seq (.block 1 (.seq (.dops false [] [⟨(some 18), none, (.mov (.t 0))⟩, ⟨(some 19), none, (.mov (.t 5))⟩, ⟨(some 20), none, (.ixs (.t 18) (.t 19) 5)⟩, ⟨(some 21), none, (.lde (.t 20) (some 5))⟩, ⟨(some 22), none, (.mov (.t 1))⟩, ⟨(some 23), none, (.mov (.t 5))⟩, ⟨(some 24), none, (.ixs (.t 22) (.t 23) 5)⟩, ⟨(some 25), none, (.lde (.t 24) (some 5))⟩, ⟨(some 26), none, (.call 135 [(.t 21), (.t 25)])⟩, ⟨(some 6), none, (.mov (.t 26))⟩]) (.seq (.ops [⟨(some 27), none, (.mov (.t 6))⟩, ⟨(some 28), none, (.un .not (.t 27))⟩]) (.cond (.t 28) (.seq (.ops [⟨(some 4), none, (.mov (.c (.bool false)))⟩]) .ret) .skip)))) (.ops [⟨(some 16), none, (.mov (.t 5))⟩, ⟨(some 17), none, (.bin .add (.t 16) (.c (.int .i64 1)))⟩, ⟨(some 5), none, (.mov (.t 17))⟩])))
def F_r07_All : F := ⟨(.seq (.ops [⟨(some 4), none, (.mov (.c (.bool false)))⟩]) (.seq (.seq (.ops [⟨(some 7), none, (.mov (.t 0))⟩, ⟨(some 8), none, (.len (.t 7))⟩, ⟨(some 9), none, (.mov (.t 1))⟩, ⟨(some 10), none, (.len (.t 9))⟩, ⟨(some 11), none, (.bin .neq (.t 8) (.t 10))⟩]) (.cond (.t 11) (.seq (.ops [⟨(some 4), none, (.mov (.c (.bool false)))⟩]) .ret) .skip)) (.seq (.seq (.ops [⟨(some 5), none, (.mov (.c (.int .i64 0)))⟩]) (.block 0 (.loop F_r07_All_L0))) (.seq (.ops [⟨(some 4), none, (.mov (.c (.bool true)))⟩]) .ret)))), 29, [(.tmp 4)]⟩
theorem F_r07_All_ok : compF Try.prog (fun _ => true) 87 = some F_r07_All := by kernel_rfl
end Go.Av
