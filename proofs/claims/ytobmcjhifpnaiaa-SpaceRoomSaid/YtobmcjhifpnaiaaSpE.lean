/- The walks of SpaceSums, SpaceRoom and SpaceGrows: each comes to true. -/
import Derived.Test.YtobmcjhifpnaiaaSpD
namespace Go.Proofs.Ytobmcjhifpnaiaa.Sp
open Go.ChangeShapes Go.WideShapes Go.ChangeAt Go.RowKit
set_option linter.unusedVariables false

theorem takes_top {n s : Int} (h0 : 0 ≤ n) (h1 : 8192 ≤ s) (h2 : s ≤ 1048576) : takesF n s ≤ n + 1 := by
  rw [takes_eq h1 h2, Int.max_eq_left h0]
  have := Int.ediv_le_self (s - 4116) h0
  omega

set_option maxHeartbeats 1000000 in
theorem sums_calls (a0 a1 a2 : Int) (w : World) (h0 : 0 ≤ a0) (h1 : a0 ≤ 4294967295) (h2 : 0 ≤ a1) (h3 : a1 ≤ 4294967295) (h4 : 0 ≤ a2) (h5 : a2 ≤ 65535) :
    Calls Try.prog 5 #[.int .u32 a0, .int .u32 a1, .int .u16 a2] w fun e w' => e = .returned (.bool true) ∧ Grown w w' := by
  have f1 : decide (takesF (a0 + a1) (8192 + a2) ≤ takesF a0 (8192 + a2) + takesF a1 (8192 + a2)) = true := by
    simpa using sums h0 h2 (show 8192 ≤ 8192 + a2 by omega) (by omega)
  have f2 : takesF a0 (8192 + a2) ≤ takesF (a0 + a1) (8192 + a2) := takes_mono (by omega)
  have f3 : takesF a1 (8192 + a2) ≤ takesF (a0 + a1) (8192 + a2) := takes_mono (by omega)
  have g1 := takes_pos (n := a0) (show 8192 ≤ 8192 + a2 by omega) (by omega)
  have g2 := takes_pos (n := a1) (show 8192 ≤ 8192 + a2 by omega) (by omega)
  have t1 := takes_top h0 (show 8192 ≤ 8192 + a2 by omega) (by omega)
  have t2 := takes_top h2 (show 8192 ≤ 8192 + a2 by omega) (by omega)
  have HG := Grown.refl w
  go_enter Try.func5, Try.ntmps5
  go_wp2_with (first | (go_at_call 7; refine (awake_calls _).mono ?_; rintro e w1 ⟨rfl, hg⟩; replace HG := grown_trans HG hg; clear hg) | (go_at_call 10; refine (takes_calls _ _ _ (⟨by omega, by omega⟩) (⟨by omega, by omega⟩)).mono ?_; rintro e w1 ⟨rfl, rfl⟩))
  all_goals
    go_ret
    exact ⟨rfl, HG⟩

set_option maxHeartbeats 1000000 in
theorem room_calls (a0 a1 : Int) (w : World) (h0 : 0 ≤ a0) (h1 : a0 ≤ 255) (h4 : 0 ≤ a1) (h5 : a1 ≤ 65535) :
    Calls Try.prog 6 #[.int .u8 a0, .int .u16 a1] w fun e w' => e = .returned (.bool true) ∧ Grown w w' := by
  obtain ⟨f0, f1, f2, f3, f4⟩ := room (b := 1 + a0 % 64) (s := 8192 + a1) (by omega) (by omega) (by omega) (by omega)
  have g1 := zones_bd (1 + a0 % 64) (8192 + a1)
  have g2 := need_bd (1 + a0 % 64) (8192 + a1)
  obtain ⟨_, _, j1, j2, j3, j4, j5, j6⟩ := isI_snap (1 + a0 % 64)
  have g3 := takes_nn (snapF (1 + a0 % 64)) (8192 + a1)
  have g4 := takes_le (snapF (1 + a0 % 64)) (8192 + a1) j2
  have HG := Grown.refl w
  clear f0
  go_enter Try.func6, Try.ntmps6
  go_wp2_with (first | (go_at_call 7; refine (awake_calls _).mono ?_; rintro e w1 ⟨rfl, hg⟩; replace HG := grown_trans HG hg; clear hg) | (go_at_call 8; refine (snap_calls _ _ (⟨by omega, by omega⟩)).mono ?_; rintro e w1 ⟨rfl, rfl⟩) | (go_at_call 10; refine (takes_calls _ _ _ (⟨by omega, by omega⟩) (⟨by omega, by omega⟩)).mono ?_; rintro e w1 ⟨rfl, rfl⟩) | (go_at_call 16; refine (zones_calls _ _ _ (⟨by omega, by omega⟩) (⟨by omega, by omega⟩)).mono ?_; rintro e w1 ⟨rfl, hg⟩; replace HG := grown_trans HG hg; clear hg) | (go_at_call 14; refine (need_calls _ _ _ (⟨by omega, by omega⟩) (⟨by omega, by omega⟩)).mono ?_; rintro e w1 ⟨rfl, hg⟩; replace HG := grown_trans HG hg; clear hg) | (go_at_call 20; refine (bound_calls _ _ _ (⟨by omega, by omega⟩)).mono ?_; rintro e w1 ⟨rfl, rfl⟩) | (go_at_call 12; refine (change_calls _ _ (⟨by omega, by omega⟩)).mono ?_; rintro e w1 ⟨rfl, rfl⟩))
  all_goals
    go_ret
    exact ⟨rfl, HG⟩

set_option maxHeartbeats 2000000 in
theorem grows_calls (a0 a1 a2 a3 a4 : Int) (w : World) (h0 : 0 ≤ a0) (h1 : a0 ≤ 255) (h2 : 0 ≤ a1) (h3 : a1 ≤ 255) (h4 : 0 ≤ a2) (h5 : a2 ≤ 65535) (h6 : 0 ≤ a3) (h7 : a3 ≤ 65535) (h8 : 0 ≤ a4) (h9 : a4 ≤ 255) :
    Calls Try.prog 4 #[.int .u8 a0, .int .u8 a1, .int .u16 a2, .int .u16 a3, .int .u8 a4] w fun e w' => e = .returned (.bool true) ∧ Grown w w' := by
  have f1 : decide (7 ≤ zonesF (1 + a0 % 64) (8192 + a2)) = true := by simpa using zones_seven (b := 1 + a0 % 64) (s := 8192 + a2) (by omega) (by omega) (by omega) (by omega)
  have f2 : 1 + a0 % 64 + a1 % 64 ≤ 64 → decide (zonesF (1 + a0 % 64) (8192 + a2) ≤ zonesF (1 + a0 % 64 + a1 % 64) (8192 + a2)) = true := fun h => by
    simpa using zones_grow (b := 1 + a0 % 64) (c := 1 + a0 % 64 + a1 % 64) (s := 8192 + a2) (by omega) (by omega) h (by omega) (by omega)
  have f3 : decide (zonesF (1 + a0 % 64) (8192 + a2) ≤ zonesF 64 (8192 + a2)) = true := by
    simpa using zones_grow (b := 1 + a0 % 64) (c := 64) (s := 8192 + a2) (by omega) (by omega) (by omega) (by omega) (by omega)
  have f4 : decide (zonesF (1 + a0 % 64) (8192 + a2 + a3) ≤ zonesF (1 + a0 % 64) (8192 + a2)) = true := by
    simpa using zones_shrink (b := 1 + a0 % 64) (s := 8192 + a2) (t := 8192 + a2 + a3) (by omega) (by omega) (by omega) (by omega) (by omega)
  have c1 := check_iff (z := a4) (b := 1 + a0 % 64) (s := 8192 + a2) (by omega) (by omega) (by omega) (by omega)
  have c2 := check_iff (z := a4 + 1) (b := 1 + a0 % 64) (s := 8192 + a2) (by omega) (by omega) (by omega) (by omega)
  have c3 := check_iff (z := a4) (b := 1 + a0 % 64) (s := 8192 + a2 + a3) (by omega) (by omega) (by omega) (by omega)
  have f5 : zonesF (1 + a0 % 64) (8192 + a2 + a3) ≤ zonesF (1 + a0 % 64) (8192 + a2) := by simpa using f4
  have HG := Grown.refl w
  by_cases ok : zonesF (1 + a0 % 64) (8192 + a2) ≤ a4 ∧ a4 ≤ 64
  · have k1 : (checkF a4 (8192 + a2) (1 + a0 % 64) == 0) = true := by rw [c1.2 ok]; rfl
    have k3 : (checkF a4 (8192 + a2 + a3) (1 + a0 % 64) == 0) = true := by rw [c3.2 ⟨by omega, ok.2⟩]; rfl
    obtain ⟨ok1, ok2⟩ := ok
    have k4 : decide (zonesF (1 + a0 % 64) (8192 + a2) ≤ a4) = true := by simpa using ok1
    have k5 : decide (a4 ≤ 64) = true := by simpa using ok2
    by_cases h63 : 63 < a4
    · have k6 : decide (63 < a4) = true := by simpa using h63
      clear c1 c2 c3
      by_cases hc : 1 + a0 % 64 + a1 % 64 ≤ 64
      · have f2' := f2 hc
        clear f2 f3 f5
        go_enter Try.func4, Try.ntmps4
        go_wp2_with (first | (go_at_call 7; refine (awake_calls _).mono ?_; rintro e w1 ⟨rfl, hg⟩; replace HG := grown_trans HG hg; clear hg) | (go_at_call 16; refine (zones_calls _ _ _ (⟨by omega, by omega⟩) (⟨by omega, by omega⟩)).mono ?_; rintro e w1 ⟨rfl, hg⟩; replace HG := grown_trans HG hg; clear hg) | (go_at_call 18; refine (check_calls _ _ _ _ (⟨by omega, by omega⟩) (⟨by omega, by omega⟩)).mono ?_; rintro e w1 ⟨rfl, hg⟩; replace HG := grown_trans HG hg; clear hg))
        all_goals
          go_ret
          exact ⟨rfl, HG⟩
      · clear f2 f5
        go_enter Try.func4, Try.ntmps4
        go_wp2_with (first | (go_at_call 7; refine (awake_calls _).mono ?_; rintro e w1 ⟨rfl, hg⟩; replace HG := grown_trans HG hg; clear hg) | (go_at_call 16; refine (zones_calls _ _ _ (⟨by omega, by omega⟩) (⟨by omega, by omega⟩)).mono ?_; rintro e w1 ⟨rfl, hg⟩; replace HG := grown_trans HG hg; clear hg) | (go_at_call 18; refine (check_calls _ _ _ _ (⟨by omega, by omega⟩) (⟨by omega, by omega⟩)).mono ?_; rintro e w1 ⟨rfl, hg⟩; replace HG := grown_trans HG hg; clear hg))
        all_goals
          go_ret
          exact ⟨rfl, HG⟩
    · have k6 : decide (63 < a4) = false := by simpa using h63
      have k7 : (checkF (a4 + 1) (8192 + a2) (1 + a0 % 64) == 0) = true := by rw [c2.2 ⟨by omega, by omega⟩]; rfl
      clear c1 c2 c3
      by_cases hc : 1 + a0 % 64 + a1 % 64 ≤ 64
      · have f2' := f2 hc
        clear f2 f3 f5
        go_enter Try.func4, Try.ntmps4
        go_wp2_with (first | (go_at_call 7; refine (awake_calls _).mono ?_; rintro e w1 ⟨rfl, hg⟩; replace HG := grown_trans HG hg; clear hg) | (go_at_call 16; refine (zones_calls _ _ _ (⟨by omega, by omega⟩) (⟨by omega, by omega⟩)).mono ?_; rintro e w1 ⟨rfl, hg⟩; replace HG := grown_trans HG hg; clear hg) | (go_at_call 18; refine (check_calls _ _ _ _ (⟨by omega, by omega⟩) (⟨by omega, by omega⟩)).mono ?_; rintro e w1 ⟨rfl, hg⟩; replace HG := grown_trans HG hg; clear hg))
        all_goals
          go_ret
          exact ⟨rfl, HG⟩
      · clear f2 f5
        go_enter Try.func4, Try.ntmps4
        go_wp2_with (first | (go_at_call 7; refine (awake_calls _).mono ?_; rintro e w1 ⟨rfl, hg⟩; replace HG := grown_trans HG hg; clear hg) | (go_at_call 16; refine (zones_calls _ _ _ (⟨by omega, by omega⟩) (⟨by omega, by omega⟩)).mono ?_; rintro e w1 ⟨rfl, hg⟩; replace HG := grown_trans HG hg; clear hg) | (go_at_call 18; refine (check_calls _ _ _ _ (⟨by omega, by omega⟩) (⟨by omega, by omega⟩)).mono ?_; rintro e w1 ⟨rfl, hg⟩; replace HG := grown_trans HG hg; clear hg))
        all_goals
          go_ret
          exact ⟨rfl, HG⟩
  · have k1 : (checkF a4 (8192 + a2) (1 + a0 % 64) == 0) = false := by
      rw [beq_eq_false_iff_ne]; exact fun h => ok (c1.1 h)
    clear c1 c2 c3
    by_cases k : zonesF (1 + a0 % 64) (8192 + a2) ≤ a4
    · have k4 : decide (zonesF (1 + a0 % 64) (8192 + a2) ≤ a4) = true := by simpa using k
      have k5 : decide (a4 ≤ 64) = false := by simp; omega
      clear ok
      by_cases hc : 1 + a0 % 64 + a1 % 64 ≤ 64
      · have f2' := f2 hc
        clear f2 f3 f5
        go_enter Try.func4, Try.ntmps4
        go_wp2_with (first | (go_at_call 7; refine (awake_calls _).mono ?_; rintro e w1 ⟨rfl, hg⟩; replace HG := grown_trans HG hg; clear hg) | (go_at_call 16; refine (zones_calls _ _ _ (⟨by omega, by omega⟩) (⟨by omega, by omega⟩)).mono ?_; rintro e w1 ⟨rfl, hg⟩; replace HG := grown_trans HG hg; clear hg) | (go_at_call 18; refine (check_calls _ _ _ _ (⟨by omega, by omega⟩) (⟨by omega, by omega⟩)).mono ?_; rintro e w1 ⟨rfl, hg⟩; replace HG := grown_trans HG hg; clear hg))
        all_goals
          go_ret
          exact ⟨rfl, HG⟩
      · clear f2 f5
        go_enter Try.func4, Try.ntmps4
        go_wp2_with (first | (go_at_call 7; refine (awake_calls _).mono ?_; rintro e w1 ⟨rfl, hg⟩; replace HG := grown_trans HG hg; clear hg) | (go_at_call 16; refine (zones_calls _ _ _ (⟨by omega, by omega⟩) (⟨by omega, by omega⟩)).mono ?_; rintro e w1 ⟨rfl, hg⟩; replace HG := grown_trans HG hg; clear hg) | (go_at_call 18; refine (check_calls _ _ _ _ (⟨by omega, by omega⟩) (⟨by omega, by omega⟩)).mono ?_; rintro e w1 ⟨rfl, hg⟩; replace HG := grown_trans HG hg; clear hg))
        all_goals
          go_ret
          exact ⟨rfl, HG⟩
    · have k4 : decide (zonesF (1 + a0 % 64) (8192 + a2) ≤ a4) = false := by simpa using k
      clear ok
      by_cases hc : 1 + a0 % 64 + a1 % 64 ≤ 64
      · have f2' := f2 hc
        clear f2 f3 f5
        go_enter Try.func4, Try.ntmps4
        go_wp2_with (first | (go_at_call 7; refine (awake_calls _).mono ?_; rintro e w1 ⟨rfl, hg⟩; replace HG := grown_trans HG hg; clear hg) | (go_at_call 16; refine (zones_calls _ _ _ (⟨by omega, by omega⟩) (⟨by omega, by omega⟩)).mono ?_; rintro e w1 ⟨rfl, hg⟩; replace HG := grown_trans HG hg; clear hg) | (go_at_call 18; refine (check_calls _ _ _ _ (⟨by omega, by omega⟩) (⟨by omega, by omega⟩)).mono ?_; rintro e w1 ⟨rfl, hg⟩; replace HG := grown_trans HG hg; clear hg))
        all_goals
          go_ret
          exact ⟨rfl, HG⟩
      · clear f2 f5
        go_enter Try.func4, Try.ntmps4
        go_wp2_with (first | (go_at_call 7; refine (awake_calls _).mono ?_; rintro e w1 ⟨rfl, hg⟩; replace HG := grown_trans HG hg; clear hg) | (go_at_call 16; refine (zones_calls _ _ _ (⟨by omega, by omega⟩) (⟨by omega, by omega⟩)).mono ?_; rintro e w1 ⟨rfl, hg⟩; replace HG := grown_trans HG hg; clear hg) | (go_at_call 18; refine (check_calls _ _ _ _ (⟨by omega, by omega⟩) (⟨by omega, by omega⟩)).mono ?_; rintro e w1 ⟨rfl, hg⟩; replace HG := grown_trans HG hg; clear hg))
        all_goals
          go_ret
          exact ⟨rfl, HG⟩

end Go.Proofs.Ytobmcjhifpnaiaa.Sp
