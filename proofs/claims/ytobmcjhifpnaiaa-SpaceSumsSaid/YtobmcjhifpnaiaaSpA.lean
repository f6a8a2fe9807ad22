/- Contracts of the functions of package space, and of its reference, for the walk of the laws of chapter 13. -/
import Derived.Test.YtobmcjhifpnaiaaRows
import Derived.WalkKit
import Derived.ProofKit
import Derived.OpenShut
import Derived.Lib.Hide
namespace Go.Proofs.Ytobmcjhifpnaiaa.Sp
open Go.ChangeShapes Go.WideShapes Go.ChangeAt Go.RowKit
set_option linter.unusedVariables false

theorem retInt {k : IntKind} {a b : Int} (h : a = b) : Ending.returned (.int k a) = .returned (.int k b) := by rw [h]
theorem retBool {a b : Bool} (h : a = b) : Ending.returned (.bool a) = .returned (.bool b) := by rw [h]
theorem retInt2 {k : IntKind} {a b c d : Int} (h : a = b) (g : c = d) : Ending.returned (.tuple #[.int k a, .int k c]) = .returned (.tuple #[.int k b, .int k d]) := by rw [h, g]

theorem held_calls (n lo hi : Int) (w : World) :
    Calls Try.prog 29 #[.int .i64 n, .int .i64 lo, .int .i64 hi] w fun e w' => e = .returned (.int .i64 (min (max n lo) hi)) ∧ w = w' := by
  go_enter Try.func29, Try.ntmps29
  go_wp2
  all_goals
    go_ret
    exact ⟨retInt (by omega), rfl⟩

def someB (b : Int) : Bool := decide (1 ≤ b) && decide (b ≤ 64)
def mayB (b : Int) : Bool := decide (8192 ≤ b) && decide (b ≤ 1048576)

theorem some_calls (n : Int) (w : World) :
    Calls Try.prog 22 #[.int .i64 n] w fun e w' => e = .returned (.bool (someB n)) ∧ w = w' := by
  go_enter Try.func22, Try.ntmps22
  go_wp2_with (go_at_call 29; refine (held_calls _ _ _ _).mono ?_; rintro e w' ⟨rfl, rfl⟩)
  go_ret
  exact ⟨retBool (by unfold someB; rw [Bool.eq_iff_iff]; simp; omega), rfl⟩

theorem may_calls (n : Int) (w : World) :
    Calls Try.prog 26 #[.int .i64 n] w fun e w' => e = .returned (.bool (mayB n)) ∧ w = w' := by
  go_enter Try.func26, Try.ntmps26
  go_wp2_with (go_at_call 29; refine (held_calls _ _ _ _).mono ?_; rintro e w' ⟨rfl, rfl⟩)
  go_ret
  exact ⟨retBool (by unfold mayB; rw [Bool.eq_iff_iff]; simp; omega), rfl⟩

def IsI (n : Int) : Prop := -9223372036854775808 ≤ n ∧ n ≤ 9223372036854775807

/-- Takes -/
def takesF (n size : Int) : Int := if mayB size = true then max n 0 / (size - 4116) + 1 else 0
/-- Snap -/
def bytesF (b : Int) : Int := 4016 + (3 + b * 39) + 4 * (8 + (3 + b * 39))
def partsF (b : Int) : Int := (bytesF b + 4095) / 4096
def snapF (b : Int) : Int := if someB b = true then bytesF b + partsF b * 20 + 22 else 0
def snapK (b : Int) : Int := if someB b = true then partsF b + 1 else 0
def changeF (b : Int) : Int := if someB b = true then 20 + max (10 + b * 39) 1009 else 0
def needF (b s : Int) : Int := if someB b = true ∧ mayB s = true then takesF (changeF b) s + takesF (snapF b) s else 0
def zonesF (b s : Int) : Int := if needF b s = 0 then 0 else 3 + needF b s + takesF (snapF b) s + 1
def checkF (z s b : Int) : Int := if zonesF b s = 0 ∨ z < zonesF b s ∨ 64 < z then 130 else 0
def boundF (z b : Int) : Int := if snapK b = 0 then 0 else 2 * (snapK b + 1 + min (max z 0) 1073741824) + 5

theorem someB_iff {b : Int} : someB b = true ↔ 1 ≤ b ∧ b ≤ 64 := by unfold someB; simp
theorem mayB_iff {b : Int} : mayB b = true ↔ 8192 ≤ b ∧ b ≤ 1048576 := by unfold mayB; simp

theorem size_calls (n : Int) (w : World) (h0 : 0 ≤ n) (h1 : n ≤ 4096) :
    Calls Try.prog 24 #[.int .i64 n] w fun e w' => e = .returned (.int .i64 (20 + n)) ∧ w = w' := by
  have a1 : decide (n < 0) = false := by simp; omega
  have a2 : decide (4096 < n) = false := by simp; omega
  go_enter Try.func24, Try.ntmps24
  go_wp2
  go_ret
  exact ⟨retInt (by omega), rfl⟩

theorem mapped_calls (b : Int) (w : World) (h0 : 0 ≤ b) (h1 : b ≤ 64) :
    Calls Try.prog 23 #[.int .i64 b] w fun e w' => e = .returned (.int .i64 (3 + b * 39)) ∧ w = w' := by
  go_enter Try.func23, Try.ntmps23
  go_wp2
  go_ret
  exact ⟨rfl, rfl⟩

theorem takes_calls (n s : Int) (w : World) (hn : IsI n) (hs : IsI s) :
    Calls Try.prog 10 #[.int .i64 n, .int .i64 s] w fun e w' => e = .returned (.int .i64 (takesF n s)) ∧ w = w' := by
  unfold IsI at hn hs
  cases hb : mayB s
  · have e1 : takesF n s = 0 := by unfold takesF; rw [hb]; simp
    have hB := Lib.hid hb; clear hb
    go_enter Try.func10, Try.ntmps10
    go_wp2_with (go_at_call 26; refine (may_calls _ _).mono ?_; rintro e w' ⟨rfl, rfl⟩; rw [hB.out])
    go_ret
    exact ⟨retInt e1.symm, rfl⟩
  · have hm := mayB_iff.1 hb
    have e1 : takesF n s = max n 0 / (s - 4116) + 1 := by unfold takesF; rw [hb]; simp
    have hq : ∀ m : Int, 0 ≤ m → m ≤ 9223372036854775807 → 0 ≤ m / (s - 4116) ∧ m / (s - 4116) * 4076 ≤ m := by
      intro m h0 h1
      have hd := Int.ediv_nonneg h0 (show 0 ≤ s - 4116 by omega)
      have h2 := Int.ediv_mul_le m (show s - 4116 ≠ 0 by omega)
      have h3 := Int.mul_le_mul_of_nonneg_left (show (4076 : Int) ≤ s - 4116 by omega) hd
      exact ⟨hd, by omega⟩
    have hB := Lib.hid hb; clear hb
    rcases Int.lt_or_le n 0 with h0 | h0
    · have e2 : max n 0 = 0 := by omega
      rw [e2] at e1
      have hq0 := hq 0 (by omega) (by omega)
      have E1 := Lib.hid e1; clear e1 e2 hq
      go_enter Try.func10, Try.ntmps10
      go_wp2_with (first | (go_at_call 26; refine (may_calls _ _).mono ?_; rintro e w' ⟨rfl, rfl⟩; rw [hB.out]) | (go_at_call 24; refine (size_calls _ _ (by omega) (by omega)).mono ?_; rintro e w' ⟨rfl, rfl⟩))
      go_ret
      exact ⟨retInt (by rw [E1.out]; simp), rfl⟩
    · have e2 : max n 0 = n := by omega
      rw [e2] at e1
      have hq0 := hq n (by omega) (by omega)
      have E1 := Lib.hid e1; clear e1 e2 hq
      go_enter Try.func10, Try.ntmps10
      go_wp2_with (first | (go_at_call 26; refine (may_calls _ _).mono ?_; rintro e w' ⟨rfl, rfl⟩; rw [hB.out]) | (go_at_call 24; refine (size_calls _ _ (by omega) (by omega)).mono ?_; rintro e w' ⟨rfl, rfl⟩))
      go_ret
      exact ⟨retInt (by rw [E1.out]), rfl⟩

theorem snap_calls (b : Int) (w : World) (hb0 : IsI b) :
    Calls Try.prog 8 #[.int .i64 b] w fun e w' => e = .returned (.tuple #[.int .i64 (snapF b), .int .i64 (snapK b)]) ∧ w = w' := by
  unfold IsI at hb0
  cases hb : someB b
  · have e1 : snapF b = 0 := by unfold snapF; rw [hb]; simp
    have e2 : snapK b = 0 := by unfold snapK; rw [hb]; simp
    have hB := Lib.hid hb; clear hb
    have E1 := Lib.hid e1; have E2 := Lib.hid e2; clear e1 e2
    go_enter Try.func8, Try.ntmps8
    go_wp2_with (go_at_call 22; refine (some_calls _ _).mono ?_; rintro e w' ⟨rfl, rfl⟩; rw [hB.out])
    go_ret2
    exact ⟨retInt2 E1.out.symm E2.out.symm, rfl⟩
  · have hm := someB_iff.1 hb
    have e1 : snapF b = bytesF b + partsF b * 20 + 22 := by unfold snapF; rw [hb]; simp
    have e2 : snapK b = partsF b + 1 := by unfold snapK; rw [hb]; simp
    have hB := Lib.hid hb; clear hb
    have E1 := Lib.hid e1; have E2 := Lib.hid e2; clear e1 e2
    go_enter Try.func8, Try.ntmps8
    go_wp2_with (first | (go_at_call 22; refine (some_calls _ _).mono ?_; rintro e w' ⟨rfl, rfl⟩; rw [hB.out]) | (go_at_call 24; refine (size_calls _ _ (by omega) (by omega)).mono ?_; rintro e w' ⟨rfl, rfl⟩) | (go_at_call 23; refine (mapped_calls _ _ (by omega) (by omega)).mono ?_; rintro e w' ⟨rfl, rfl⟩))
    go_ret2
    exact ⟨retInt2 (by rw [E1.out]; unfold partsF bytesF; omega) (by rw [E2.out]; unfold partsF bytesF; omega), rfl⟩

theorem change_calls (b : Int) (w : World) (hb0 : IsI b) :
    Calls Try.prog 12 #[.int .i64 b] w fun e w' => e = .returned (.int .i64 (changeF b)) ∧ w = w' := by
  unfold IsI at hb0
  cases hb : someB b
  · have e1 : changeF b = 0 := by unfold changeF; rw [hb]; simp
    have hB := Lib.hid hb; clear hb
    have E1 := Lib.hid e1; clear e1
    go_enter Try.func12, Try.ntmps12
    go_wp2_with (go_at_call 22; refine (some_calls _ _).mono ?_; rintro e w' ⟨rfl, rfl⟩; rw [hB.out])
    go_ret
    exact ⟨retInt E1.out.symm, rfl⟩
  · have hm := someB_iff.1 hb
    have e1 : changeF b = 20 + max (10 + b * 39) 1009 := by unfold changeF; rw [hb]; simp
    have hB := Lib.hid hb; clear hb
    have E1 := Lib.hid e1; clear e1
    go_enter Try.func12, Try.ntmps12
    go_wp2_with (first | (go_at_call 22; refine (some_calls _ _).mono ?_; rintro e w' ⟨rfl, rfl⟩; rw [hB.out]) | (go_at_call 24; refine (size_calls _ _ (by omega) (by omega)).mono ?_; rintro e w' ⟨rfl, rfl⟩))
    all_goals
      go_ret
      exact ⟨retInt (by rw [E1.out]; omega), rfl⟩

/-- The closure of Need: a box holds the zones' size. -/
theorem need1_calls (n s : Int) (a : Addr) (w : World) (hn : IsI n) (hs : IsI s) (hc : w.cell? a = some (.int .i64 s)) :
    Calls Try.prog 28 #[.int .i64 n, .pointer (some a)] w fun e w' => e = .returned (.int .i64 (takesF n s)) ∧ w = w' := by
  go_enter Try.func28, Try.ntmps28
  go_wp2_with (go_at_call 10; refine (takes_calls _ _ _ hn hs).mono ?_; rintro e w' ⟨rfl, rfl⟩)
  go_ret
  exact ⟨rfl, rfl⟩

theorem isI_snap (b : Int) : IsI (snapF b) ∧ IsI (changeF b) ∧ 0 ≤ snapF b ∧ snapF b ≤ 17000 ∧ 0 ≤ changeF b ∧ changeF b ≤ 4096 ∧ 0 ≤ snapK b ∧ snapK b ≤ 10 := by
  unfold IsI snapF changeF snapK partsF bytesF
  cases hb : someB b
  · simp
  · have hm := someB_iff.1 hb
    simp only [if_true]
    omega
theorem takes_nn (n s : Int) : 0 ≤ takesF n s := by
  unfold takesF
  cases hb : mayB s
  · simp
  · have hm := mayB_iff.1 hb
    simp only [if_true]
    have := Int.ediv_nonneg (show 0 ≤ max n 0 by omega) (show 0 ≤ s - 4116 by omega)
    omega
theorem takes_le (n s : Int) (h : n ≤ 17000) : takesF n s ≤ 10 := by
  unfold takesF
  cases hb : mayB s
  · simp
  · have hm := mayB_iff.1 hb
    simp only [if_true]
    have h2 := Int.ediv_mul_le (max n 0) (show s - 4116 ≠ 0 by omega)
    have h3 := Int.mul_le_mul_of_nonneg_left (show (4076 : Int) ≤ s - 4116 by omega) (Int.ediv_nonneg (show 0 ≤ max n 0 by omega) (show 0 ≤ s - 4116 by omega))
    omega

theorem need_calls (b s : Int) (w : World) (hb0 : IsI b) (hs0 : IsI s) :
    Calls Try.prog 14 #[.int .i64 b, .int .i64 s] w fun e w' => e = .returned (.int .i64 (needF b s)) ∧ Grown w w' := by
  obtain ⟨i1, i2, j1, j2, j3, j4, _, _⟩ := isI_snap b
  have t1 := takes_nn (changeF b) s
  have t2 := takes_nn (snapF b) s
  have t3 := takes_le (changeF b) s (by omega)
  have t4 := takes_le (snapF b) s (by omega)
  cases hb : someB b
  · have e1 : needF b s = 0 := by unfold needF; rw [hb]; simp
    have hB := Lib.hid hb; clear hb
    have E1 := Lib.hid e1; clear e1
    go_enter Try.func14, Try.ntmps14
    go_wp2_with (first | (go_at_call 22; refine (some_calls _ _).mono ?_; rintro e w' ⟨rfl, rfl⟩; rw [hB.out]))
    go_ret
    exact ⟨retInt E1.out.symm, by repeat (first | exact Grown.refl _ | apply Grown.drew | apply Grown.alloc)⟩
  · cases hm : mayB s
    · have e1 : needF b s = 0 := by unfold needF; rw [hm]; simp
      have hB := Lib.hid hb; clear hb
      have hM := Lib.hid hm; clear hm
      have E1 := Lib.hid e1; clear e1
      go_enter Try.func14, Try.ntmps14
      go_wp2_with (first | (go_at_call 22; refine (some_calls _ _).mono ?_; rintro e w' ⟨rfl, rfl⟩; rw [hB.out]) | (go_at_call 26; refine (may_calls _ _).mono ?_; rintro e w' ⟨rfl, rfl⟩; rw [hM.out]))
      go_ret
      exact ⟨retInt E1.out.symm, by repeat (first | exact Grown.refl _ | apply Grown.drew | apply Grown.alloc)⟩
    · have e1 : needF b s = takesF (changeF b) s + takesF (snapF b) s := by unfold needF; rw [hb, hm]; simp
      have hB := Lib.hid hb; clear hb
      have hM := Lib.hid hm; clear hm
      have E1 := Lib.hid e1; clear e1
      have I1 := Lib.hid i1; have I2 := Lib.hid i2; have IB := Lib.hid hb0; have IS := Lib.hid hs0; clear i1 i2 hb0 hs0
      go_enter Try.func14, Try.ntmps14
      go_wp2_with (first | (go_at_call 22; refine (some_calls _ _).mono ?_; rintro e w' ⟨rfl, rfl⟩; rw [hB.out]) | (go_at_call 26; refine (may_calls _ _).mono ?_; rintro e w' ⟨rfl, rfl⟩; rw [hM.out]) | (go_at_call 8; refine (snap_calls _ _ IB.out).mono ?_; rintro e w' ⟨rfl, rfl⟩) | (go_at_call 12; refine (change_calls _ _ IB.out).mono ?_; rintro e w' ⟨rfl, rfl⟩) | (go_at_call 28; refine (need1_calls _ s _ _ (by first | exact I1.out | exact I2.out) IS.out (by simp)).mono ?_; rintro e w' ⟨rfl, rfl⟩))
      go_ret
      exact ⟨retInt E1.out.symm, by repeat (first | exact Grown.refl _ | apply Grown.drew | apply Grown.alloc)⟩

theorem need_bd (b s : Int) : 0 ≤ needF b s ∧ needF b s ≤ 20 := by
  obtain ⟨_, _, j1, j2, j3, j4, _, _⟩ := isI_snap b
  have t1 := takes_nn (changeF b) s
  have t2 := takes_nn (snapF b) s
  have t3 := takes_le (changeF b) s (by omega)
  have t4 := takes_le (snapF b) s (by omega)
  unfold needF
  split <;> omega
theorem zones_bd (b s : Int) : 0 ≤ zonesF b s ∧ zonesF b s ≤ 40 := by
  obtain ⟨_, _, j1, j2, j3, j4, _, _⟩ := isI_snap b
  have t1 := takes_nn (snapF b) s
  have t3 := takes_le (snapF b) s (by omega)
  have t4 := need_bd b s
  unfold zonesF
  split <;> omega

theorem zones_calls (b s : Int) (w : World) (hb0 : IsI b) (hs0 : IsI s) :
    Calls Try.prog 16 #[.int .i64 b, .int .i64 s] w fun e w' => e = .returned (.int .i64 (zonesF b s)) ∧ Grown w w' := by
  obtain ⟨i1, i2, j1, j2, j3, j4, _, _⟩ := isI_snap b
  have t1 := takes_nn (snapF b) s
  have t3 := takes_le (snapF b) s (by omega)
  have t4 := need_bd b s
  have I1 := Lib.hid i1; have IB := Lib.hid hb0; have IS := Lib.hid hs0; clear i1 hb0 hs0 i2
  by_cases h0 : needF b s = 0
  · have e1 : zonesF b s = 0 := by unfold zonesF; rw [if_pos h0]
    have hz : (needF b s == 0) = true := by rw [h0]; rfl
    have E1 := Lib.hid e1; clear e1 h0
    go_enter Try.func16, Try.ntmps16
    go_wp2_with (first | (go_at_call 14; refine (need_calls _ _ _ IB.out IS.out).mono ?_; rintro e w1 ⟨rfl, hg⟩))
    go_ret
    exact ⟨retInt E1.out.symm, by repeat (first | exact Grown.refl _ | assumption | apply Grown.drew | apply Grown.alloc)⟩
  · have e1 : zonesF b s = 3 + needF b s + takesF (snapF b) s + 1 := by unfold zonesF; rw [if_neg h0]
    have hz : (needF b s == 0) = false := beq_eq_false_iff_ne.2 h0
    have E1 := Lib.hid e1; clear e1 h0
    go_enter Try.func16, Try.ntmps16
    go_wp2_with (first | (go_at_call 14; refine (need_calls _ _ _ IB.out IS.out).mono ?_; rintro e w1 ⟨rfl, hg⟩) | (go_at_call 8; refine (snap_calls _ _ IB.out).mono ?_; rintro e w' ⟨rfl, rfl⟩) | (go_at_call 10; refine (takes_calls _ _ _ I1.out IS.out).mono ?_; rintro e w' ⟨rfl, rfl⟩))
    go_ret
    exact ⟨retInt E1.out.symm, by repeat (first | exact Grown.refl _ | assumption | apply Grown.drew | apply Grown.alloc)⟩

theorem check_calls (z s b : Int) (w : World) (hb0 : IsI b) (hs0 : IsI s) :
    Calls Try.prog 18 #[.int .i64 z, .int .i64 s, .int .i64 b] w fun e w' => e = .returned (.int .i64 (checkF z s b)) ∧ Grown w w' := by
  have IB := Lib.hid hb0; have IS := Lib.hid hs0; clear hb0 hs0
  by_cases h0 : zonesF b s = 0
  · have e1 : checkF z s b = 130 := by unfold checkF; rw [if_pos (.inl h0)]
    have hz : (zonesF b s == 0) = true := by rw [h0]; rfl
    have E1 := Lib.hid e1; clear e1 h0
    go_enter Try.func18, Try.ntmps18
    go_wp2_with (first | (go_at_call 16; refine (zones_calls _ _ _ IB.out IS.out).mono ?_; rintro e w1 ⟨rfl, hg⟩))
    go_ret
    exact ⟨retInt E1.out.symm, by repeat (first | exact Grown.refl _ | assumption | apply Grown.drew | apply Grown.alloc)⟩
  · have hz : (zonesF b s == 0) = false := beq_eq_false_iff_ne.2 h0
    by_cases h1 : z < zonesF b s
    · have e1 : checkF z s b = 130 := by unfold checkF; rw [if_pos (.inr (.inl h1))]
      have E1 := Lib.hid e1; clear e1 h0
      have hd : decide (z < zonesF b s) = true := by simpa using h1
      go_enter Try.func18, Try.ntmps18
      go_wp2_with (first | (go_at_call 16; refine (zones_calls _ _ _ IB.out IS.out).mono ?_; rintro e w1 ⟨rfl, hg⟩))
      go_ret
      exact ⟨retInt E1.out.symm, by repeat (first | exact Grown.refl _ | assumption | apply Grown.drew | apply Grown.alloc)⟩
    · have hd : decide (z < zonesF b s) = false := by simpa using h1
      by_cases h2 : 64 < z
      · have e1 : checkF z s b = 130 := by unfold checkF; rw [if_pos (.inr (.inr h2))]
        have E1 := Lib.hid e1; clear e1 h0
        have hd2 : decide (64 < z) = true := by simpa using h2
        go_enter Try.func18, Try.ntmps18
        go_wp2_with (first | (go_at_call 16; refine (zones_calls _ _ _ IB.out IS.out).mono ?_; rintro e w1 ⟨rfl, hg⟩))
        go_ret
        exact ⟨retInt E1.out.symm, by repeat (first | exact Grown.refl _ | assumption | apply Grown.drew | apply Grown.alloc)⟩
      · have e1 : checkF z s b = 0 := by unfold checkF; rw [if_neg (by omega)]
        have E1 := Lib.hid e1; clear e1 h0
        have hd2 : decide (64 < z) = false := by simpa using h2
        go_enter Try.func18, Try.ntmps18
        go_wp2_with (first | (go_at_call 16; refine (zones_calls _ _ _ IB.out IS.out).mono ?_; rintro e w1 ⟨rfl, hg⟩))
        go_ret
        exact ⟨retInt E1.out.symm, by repeat (first | exact Grown.refl _ | assumption | apply Grown.drew | apply Grown.alloc)⟩

theorem bound_calls (z b : Int) (w : World) (hb0 : IsI b) :
    Calls Try.prog 20 #[.int .i64 z, .int .i64 b] w fun e w' => e = .returned (.int .i64 (boundF z b)) ∧ w = w' := by
  obtain ⟨i1, i2, j1, j2, j3, j4, j5, j6⟩ := isI_snap b
  have IB := Lib.hid hb0; clear i1 hb0 i2
  have hm : 0 ≤ min (max z 0) 1073741824 ∧ min (max z 0) 1073741824 ≤ 1073741824 := by omega
  by_cases h0 : snapK b = 0
  · have e1 : boundF z b = 0 := by unfold boundF; rw [if_pos h0]
    have hz : (snapK b == 0) = true := by rw [h0]; rfl
    have E1 := Lib.hid e1; clear e1 h0
    go_enter Try.func20, Try.ntmps20
    go_wp2_with (first | (go_at_call 8; refine (snap_calls _ _ IB.out).mono ?_; rintro e w1 ⟨rfl, rfl⟩))
    go_ret
    exact ⟨retInt E1.out.symm, rfl⟩
  · have hz : (snapK b == 0) = false := beq_eq_false_iff_ne.2 h0
    have e1 : boundF z b = 2 * (snapK b + 1 + min (max z 0) 1073741824) + 5 := by unfold boundF; rw [if_neg h0]
    obtain ⟨m, hm0⟩ : ∃ m, m = min (max z 0) 1073741824 := ⟨_, rfl⟩
    rw [← hm0] at e1 hm
    have E1 := Lib.hid e1; have H0 := Lib.hid hm0; clear e1 h0 hm0
    go_enter Try.func20, Try.ntmps20
    go_wp2_with (first | (go_at_call 8; refine (snap_calls _ _ IB.out).mono ?_; rintro e w1 ⟨rfl, rfl⟩) | (go_at_call 29; refine (held_calls _ _ _ _).mono ?_; rintro e w' ⟨rfl, rfl⟩; rw [← H0.out]))
    go_ret
    exact ⟨retInt E1.out.symm, rfl⟩

end Go.Proofs.Ytobmcjhifpnaiaa.Sp
