/- Contracts of the functions of the reference of chapter 13. -/
import Derived.Test.YtobmcjhifpnaiaaSpA
namespace Go.Proofs.Ytobmcjhifpnaiaa.Sp
open Go.ChangeShapes Go.WideShapes Go.ChangeAt Go.RowKit
set_option linter.unusedVariables false

theorem rsome_calls (n : Int) (w : World) :
    Calls Try.prog 25 #[.int .i64 n] w fun e w' => e = .returned (.bool (someB n)) ∧ w = w' := by
  unfold someB
  cases h1 : decide (1 ≤ n)
  · go_enter Try.func25, Try.ntmps25
    go_wp2
    go_ret
    exact ⟨rfl, rfl⟩
  · go_enter Try.func25, Try.ntmps25
    go_wp2
    go_ret
    exact ⟨retBool (by simp), rfl⟩

theorem rmay_calls (n : Int) (w : World) :
    Calls Try.prog 27 #[.int .i64 n] w fun e w' => e = .returned (.bool (mayB n)) ∧ w = w' := by
  unfold mayB
  cases h1 : decide (8192 ≤ n)
  · go_enter Try.func27, Try.ntmps27
    go_wp2
    go_ret
    exact ⟨rfl, rfl⟩
  · go_enter Try.func27, Try.ntmps27
    go_wp2
    go_ret
    exact ⟨retBool (by simp), rfl⟩

theorem rtakes_calls (n s : Int) (w : World) (hn : IsI n) (hs : IsI s) :
    Calls Try.prog 11 #[.int .i64 n, .int .i64 s] w fun e w' => e = .returned (.int .i64 (takesF n s)) ∧ w = w' := by
  unfold IsI at hn hs
  cases hb : mayB s
  · have e1 : takesF n s = 0 := by unfold takesF; rw [hb]; simp
    have hB := Lib.hid hb; clear hb
    go_enter Try.func11, Try.ntmps11
    go_wp2_with (go_at_call 27; refine (rmay_calls _ _).mono ?_; rintro e w' ⟨rfl, rfl⟩; rw [hB.out])
    go_ret
    exact ⟨retInt e1.symm, rfl⟩
  · have hm := mayB_iff.1 hb
    have e1 : takesF n s = max n 0 / (s - 4116) + 1 := by unfold takesF; rw [hb]; simp
    have hq : ∀ m : Int, 0 ≤ m → m ≤ 9223372036854775807 → 0 ≤ m / (s - 4116) ∧ m / (s - 4116) * 4076 ≤ m := by
      intro m h0 h1
      have hd := Int.ediv_nonneg h0 (show 0 ≤ s - 4116 by omega)
      have h2 := Int.ediv_mul_le m (show s - 4116 ≠ 0 by omega)
      have h3 := Int.mul_le_mul_of_nonneg_left (show (4076 : Int) ≤ s - 4116 by omega) hd
      exact ⟨hd, by omega⟩
    have hB := Lib.hid hb; clear hb
    rcases Int.lt_or_le n 0 with h0 | h0
    · have e2 : max n 0 = 0 := by omega
      rw [e2] at e1
      have hq0 := hq 0 (by omega) (by omega)
      have E1 := Lib.hid e1; clear e1 e2 hq
      go_enter Try.func11, Try.ntmps11
      go_wp2_with (first | (go_at_call 27; refine (rmay_calls _ _).mono ?_; rintro e w' ⟨rfl, rfl⟩; rw [hB.out]) | (go_at_call 24; refine (size_calls _ _ (by omega) (by omega)).mono ?_; rintro e w' ⟨rfl, rfl⟩))
      go_ret
      exact ⟨retInt (by rw [E1.out]; simp), rfl⟩
    · have e2 : max n 0 = n := by omega
      rw [e2] at e1
      have hq0 := hq n (by omega) (by omega)
      have E1 := Lib.hid e1; clear e1 e2 hq
      go_enter Try.func11, Try.ntmps11
      go_wp2_with (first | (go_at_call 27; refine (rmay_calls _ _).mono ?_; rintro e w' ⟨rfl, rfl⟩; rw [hB.out]) | (go_at_call 24; refine (size_calls _ _ (by omega) (by omega)).mono ?_; rintro e w' ⟨rfl, rfl⟩))
      go_ret
      exact ⟨retInt (by rw [E1.out]), rfl⟩

theorem rsnap_calls (b : Int) (w : World) (hb0 : IsI b) :
    Calls Try.prog 9 #[.int .i64 b] w fun e w' => e = .returned (.tuple #[.int .i64 (snapF b), .int .i64 (snapK b)]) ∧ w = w' := by
  unfold IsI at hb0
  cases hb : someB b
  · have e1 : snapF b = 0 := by unfold snapF; rw [hb]; simp
    have e2 : snapK b = 0 := by unfold snapK; rw [hb]; simp
    have hB := Lib.hid hb; clear hb
    have E1 := Lib.hid e1; have E2 := Lib.hid e2; clear e1 e2
    go_enter Try.func9, Try.ntmps9
    go_wp2_with (go_at_call 25; refine (rsome_calls _ _).mono ?_; rintro e w' ⟨rfl, rfl⟩; rw [hB.out])
    go_ret2
    exact ⟨retInt2 E1.out.symm E2.out.symm, rfl⟩
  · have hm := someB_iff.1 hb
    have e1 : snapF b = bytesF b + partsF b * 20 + 22 := by unfold snapF; rw [hb]; simp
    have e2 : snapK b = partsF b + 1 := by unfold snapK; rw [hb]; simp
    have hB := Lib.hid hb; clear hb
    have E1 := Lib.hid e1; have E2 := Lib.hid e2; clear e1 e2
    go_enter Try.func9, Try.ntmps9
    go_wp2_with (first | (go_at_call 25; refine (rsome_calls _ _).mono ?_; rintro e w' ⟨rfl, rfl⟩; rw [hB.out]) | (go_at_call 24; refine (size_calls _ _ (by omega) (by omega)).mono ?_; rintro e w' ⟨rfl, rfl⟩) | (go_at_call 23; refine (mapped_calls _ _ (by omega) (by omega)).mono ?_; rintro e w' ⟨rfl, rfl⟩))
    go_ret2
    exact ⟨retInt2 (by rw [E1.out]; unfold partsF bytesF; omega) (by rw [E2.out]; unfold partsF bytesF; omega), rfl⟩

theorem rchange_calls (b : Int) (w : World) (hb0 : IsI b) :
    Calls Try.prog 13 #[.int .i64 b] w fun e w' => e = .returned (.int .i64 (changeF b)) ∧ w = w' := by
  unfold IsI at hb0
  cases hb : someB b
  · have e1 : changeF b = 0 := by unfold changeF; rw [hb]; simp
    have hB := Lib.hid hb; clear hb
    have E1 := Lib.hid e1; clear e1
    go_enter Try.func13, Try.ntmps13
    go_wp2_with (go_at_call 25; refine (rsome_calls _ _).mono ?_; rintro e w' ⟨rfl, rfl⟩; rw [hB.out])
    go_ret
    exact ⟨retInt E1.out.symm, rfl⟩
  · have hm := someB_iff.1 hb
    have e1 : changeF b = 20 + max (10 + b * 39) 1009 := by unfold changeF; rw [hb]; simp
    have hB := Lib.hid hb; clear hb
    have E1 := Lib.hid e1; clear e1
    go_enter Try.func13, Try.ntmps13
    go_wp2_with (first | (go_at_call 25; refine (rsome_calls _ _).mono ?_; rintro e w' ⟨rfl, rfl⟩; rw [hB.out]) | (go_at_call 24; refine (size_calls _ _ (by omega) (by omega)).mono ?_; rintro e w' ⟨rfl, rfl⟩))
    all_goals
      go_ret
      exact ⟨retInt (by rw [E1.out]; omega), rfl⟩

theorem rneed_calls (b s : Int) (w : World) (hb0 : IsI b) (hs0 : IsI s) :
    Calls Try.prog 15 #[.int .i64 b, .int .i64 s] w fun e w' => e = .returned (.int .i64 (needF b s)) ∧ w = w' := by
  obtain ⟨i1, i2, j1, j2, j3, j4, _, _⟩ := isI_snap b
  have t1 := takes_nn (changeF b) s
  have t2 := takes_nn (snapF b) s
  have t3 := takes_le (changeF b) s (by omega)
  have t4 := takes_le (snapF b) s (by omega)
  have IB := Lib.hid hb0; have IS := Lib.hid hs0; clear hb0 hs0
  cases hb : someB b
  · have e1 : needF b s = 0 := by unfold needF; rw [hb]; simp
    have E1 := Lib.hid e1; clear e1
    cases hm : mayB s
    all_goals
      have hB := Lib.hid hb
      have hM := Lib.hid hm
      clear hb hm
      go_enter Try.func15, Try.ntmps15
      go_wp2_with (first | (go_at_call 25; refine (rsome_calls _ _).mono ?_; rintro e w' ⟨rfl, rfl⟩; rw [hB.out]) | (go_at_call 27; refine (rmay_calls _ _).mono ?_; rintro e w' ⟨rfl, rfl⟩; rw [hM.out]))
      go_ret
      exact ⟨retInt E1.out.symm, rfl⟩
  · cases hm : mayB s
    · have e1 : needF b s = 0 := by unfold needF; rw [hm]; simp
      have E1 := Lib.hid e1; clear e1
      have hB := Lib.hid hb
      have hM := Lib.hid hm
      clear hb hm
      go_enter Try.func15, Try.ntmps15
      go_wp2_with (first | (go_at_call 25; refine (rsome_calls _ _).mono ?_; rintro e w' ⟨rfl, rfl⟩; rw [hB.out]) | (go_at_call 27; refine (rmay_calls _ _).mono ?_; rintro e w' ⟨rfl, rfl⟩; rw [hM.out]))
      go_ret
      exact ⟨retInt E1.out.symm, rfl⟩
    · have e1 : needF b s = takesF (changeF b) s + takesF (snapF b) s := by unfold needF; rw [hb, hm]; simp
      have hB := Lib.hid hb; clear hb
      have hM := Lib.hid hm; clear hm
      have E1 := Lib.hid e1; clear e1
      have I1 := Lib.hid i1; have I2 := Lib.hid i2; clear i1 i2
      go_enter Try.func15, Try.ntmps15
      go_wp2_with (first | (go_at_call 25; refine (rsome_calls _ _).mono ?_; rintro e w' ⟨rfl, rfl⟩; rw [hB.out]) | (go_at_call 27; refine (rmay_calls _ _).mono ?_; rintro e w' ⟨rfl, rfl⟩; rw [hM.out]) | (go_at_call 9; refine (rsnap_calls _ _ IB.out).mono ?_; rintro e w' ⟨rfl, rfl⟩) | (go_at_call 13; refine (rchange_calls _ _ IB.out).mono ?_; rintro e w' ⟨rfl, rfl⟩) | (go_at_call 11; refine (rtakes_calls _ _ _ (by first | exact I1.out | exact I2.out) IS.out).mono ?_; rintro e w' ⟨rfl, rfl⟩))
      go_ret
      exact ⟨retInt E1.out.symm, rfl⟩

theorem rzones_calls (b s : Int) (w : World) (hb0 : IsI b) (hs0 : IsI s) :
    Calls Try.prog 17 #[.int .i64 b, .int .i64 s] w fun e w' => e = .returned (.int .i64 (zonesF b s)) ∧ w = w' := by
  obtain ⟨i1, i2, j1, j2, j3, j4, _, _⟩ := isI_snap b
  have t1 := takes_nn (snapF b) s
  have t3 := takes_le (snapF b) s (by omega)
  have t4 := need_bd b s
  have I1 := Lib.hid i1; have IB := Lib.hid hb0; have IS := Lib.hid hs0; clear i1 hb0 hs0 i2
  by_cases h0 : needF b s = 0
  · have e1 : zonesF b s = 0 := by unfold zonesF; rw [if_pos h0]
    have hz : (needF b s == 0) = true := by rw [h0]; rfl
    have E1 := Lib.hid e1; clear e1 h0
    go_enter Try.func17, Try.ntmps17
    go_wp2_with (first | (go_at_call 15; refine (rneed_calls _ _ _ IB.out IS.out).mono ?_; rintro e w1 ⟨rfl, rfl⟩))
    go_ret
    exact ⟨retInt E1.out.symm, rfl⟩
  · have e1 : zonesF b s = 3 + needF b s + takesF (snapF b) s + 1 := by unfold zonesF; rw [if_neg h0]
    have hz : (needF b s == 0) = false := beq_eq_false_iff_ne.2 h0
    have E1 := Lib.hid e1; clear e1 h0
    go_enter Try.func17, Try.ntmps17
    go_wp2_with (first | (go_at_call 15; refine (rneed_calls _ _ _ IB.out IS.out).mono ?_; rintro e w1 ⟨rfl, rfl⟩) | (go_at_call 9; refine (rsnap_calls _ _ IB.out).mono ?_; rintro e w' ⟨rfl, rfl⟩) | (go_at_call 11; refine (rtakes_calls _ _ _ I1.out IS.out).mono ?_; rintro e w' ⟨rfl, rfl⟩))
    go_ret
    exact ⟨retInt E1.out.symm, rfl⟩

theorem rcheck_calls (z s b : Int) (w : World) (hb0 : IsI b) (hs0 : IsI s) :
    Calls Try.prog 19 #[.int .i64 z, .int .i64 s, .int .i64 b] w fun e w' => e = .returned (.int .i64 (checkF z s b)) ∧ w = w' := by
  have IB := Lib.hid hb0; have IS := Lib.hid hs0; clear hb0 hs0
  by_cases h0 : zonesF b s = 0
  · have e1 : checkF z s b = 130 := by unfold checkF; rw [if_pos (.inl h0)]
    have hz : (zonesF b s == 0) = true := by rw [h0]; rfl
    have E1 := Lib.hid e1; clear e1 h0
    go_enter Try.func19, Try.ntmps19
    go_wp2_with (first | (go_at_call 17; refine (rzones_calls _ _ _ IB.out IS.out).mono ?_; rintro e w1 ⟨rfl, rfl⟩))
    go_ret
    exact ⟨retInt E1.out.symm, rfl⟩
  · have hz : (zonesF b s == 0) = false := beq_eq_false_iff_ne.2 h0
    by_cases h1 : z < zonesF b s
    · have e1 : checkF z s b = 130 := by unfold checkF; rw [if_pos (.inr (.inl h1))]
      have E1 := Lib.hid e1; clear e1 h0
      have hd : decide (z < zonesF b s) = true := by simpa using h1
      go_enter Try.func19, Try.ntmps19
      go_wp2_with (first | (go_at_call 17; refine (rzones_calls _ _ _ IB.out IS.out).mono ?_; rintro e w1 ⟨rfl, rfl⟩))
      go_ret
      exact ⟨retInt E1.out.symm, rfl⟩
    · have hd : decide (z < zonesF b s) = false := by simpa using h1
      by_cases h2 : 64 < z
      · have e1 : checkF z s b = 130 := by unfold checkF; rw [if_pos (.inr (.inr h2))]
        have E1 := Lib.hid e1; clear e1 h0
        have hd2 : decide (64 < z) = true := by simpa using h2
        go_enter Try.func19, Try.ntmps19
        go_wp2_with (first | (go_at_call 17; refine (rzones_calls _ _ _ IB.out IS.out).mono ?_; rintro e w1 ⟨rfl, rfl⟩))
        go_ret
        exact ⟨retInt E1.out.symm, rfl⟩
      · have e1 : checkF z s b = 0 := by unfold checkF; rw [if_neg (by omega)]
        have E1 := Lib.hid e1; clear e1 h0
        have hd2 : decide (64 < z) = false := by simpa using h2
        go_enter Try.func19, Try.ntmps19
        go_wp2_with (first | (go_at_call 17; refine (rzones_calls _ _ _ IB.out IS.out).mono ?_; rintro e w1 ⟨rfl, rfl⟩))
        go_ret
        exact ⟨retInt E1.out.symm, rfl⟩

theorem rbound_calls (z b : Int) (w : World) (hb0 : IsI b) :
    Calls Try.prog 21 #[.int .i64 z, .int .i64 b] w fun e w' => e = .returned (.int .i64 (boundF z b)) ∧ w = w' := by
  obtain ⟨i1, i2, j1, j2, j3, j4, j5, j6⟩ := isI_snap b
  have IB := Lib.hid hb0; clear i1 hb0 i2
  have hm : 0 ≤ min (max z 0) 1073741824 ∧ min (max z 0) 1073741824 ≤ 1073741824 := by omega
  by_cases h0 : snapK b = 0
  · have e1 : boundF z b = 0 := by unfold boundF; rw [if_pos h0]
    have hz : (snapK b == 0) = true := by rw [h0]; rfl
    have E1 := Lib.hid e1; clear e1 h0
    go_enter Try.func21, Try.ntmps21
    go_wp2_with (first | (go_at_call 9; refine (rsnap_calls _ _ IB.out).mono ?_; rintro e w1 ⟨rfl, rfl⟩))
    go_ret
    exact ⟨retInt E1.out.symm, rfl⟩
  · have hz : (snapK b == 0) = false := beq_eq_false_iff_ne.2 h0
    have e1 : boundF z b = 2 * (snapK b + 1 + min (max z 0) 1073741824) + 5 := by unfold boundF; rw [if_neg h0]
    have E1 := Lib.hid e1; clear e1 h0
    go_enter Try.func21, Try.ntmps21
    go_wp2_with (first | (go_at_call 9; refine (rsnap_calls _ _ IB.out).mono ?_; rintro e w1 ⟨rfl, rfl⟩))
    all_goals
      go_ret
      exact ⟨retInt (by rw [E1.out]; omega), rfl⟩

end Go.Proofs.Ytobmcjhifpnaiaa.Sp
