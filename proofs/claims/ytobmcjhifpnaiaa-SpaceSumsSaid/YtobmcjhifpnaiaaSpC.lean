/- The first call of each law of chapter 13, and the four laws' walks. -/
import Derived.Test.YtobmcjhifpnaiaaSpB
namespace Go.Proofs.Ytobmcjhifpnaiaa.Sp
open Go.ChangeShapes Go.WideShapes Go.ChangeAt Go.RowKit
set_option linter.unusedVariables false

theorem grown_trans {a b c : World} (h : Grown a b) (k : Grown b c) : Grown a c :=
  ⟨World.keptBut_trans h.1 k.1, fun x => (k.2.1 x).trans (h.2.1 x), Nat.le_trans h.2.2 k.2.2⟩

theorem isI_of {n : Int} (h0 : -9223372036854775808 ≤ n) (h : n ≤ 9223372036854775807) : IsI n := ⟨h0, h⟩

set_option maxHeartbeats 1000000 in
theorem awake_calls (w : World) :
    Calls Try.prog 7 #[] w fun e w' => e = .returned (.bool true) ∧ Grown w w' := by
  have a1 : takesF 10000 8192 = 3 := by decide
  have a2 : takesF 5 8191 = 0 := by decide
  have a3 : changeF 64 = 2526 := by decide
  have a4 : changeF 0 = 0 := by decide
  have a5 : snapF 64 = 16665 := by decide
  have a6 : snapK 64 = 6 := by decide
  have a7 : zonesF 64 8192 = 15 := by decide
  have a8 : needF 64 8192 = 6 := by decide
  have a9 : checkF 15 8192 64 = 0 := by decide
  have b1 : checkF 14 8192 64 = 130 := by decide
  have b2 : boundF 15 64 = 49 := by decide
  have HG := Grown.refl w
  go_enter Try.func7, Try.ntmps7
  go_wp2_with (first | (go_at_call 8; refine (snap_calls _ _ (⟨by decide, by decide⟩)).mono ?_; rintro e w1 ⟨rfl, rfl⟩) | (go_at_call 10; refine (takes_calls _ _ _ (⟨by decide, by decide⟩) (⟨by decide, by decide⟩)).mono ?_; rintro e w1 ⟨rfl, rfl⟩) | (go_at_call 12; refine (change_calls _ _ (⟨by decide, by decide⟩)).mono ?_; rintro e w1 ⟨rfl, rfl⟩) | (go_at_call 14; refine (need_calls _ _ _ (⟨by decide, by decide⟩) (⟨by decide, by decide⟩)).mono ?_; rintro e w1 ⟨rfl, hg⟩; replace HG := grown_trans HG hg; clear hg) | (go_at_call 16; refine (zones_calls _ _ _ (⟨by decide, by decide⟩) (⟨by decide, by decide⟩)).mono ?_; rintro e w1 ⟨rfl, hg⟩; replace HG := grown_trans HG hg; clear hg) | (go_at_call 18; refine (check_calls _ _ _ _ (⟨by decide, by decide⟩) (⟨by decide, by decide⟩)).mono ?_; rintro e w1 ⟨rfl, hg⟩; replace HG := grown_trans HG hg; clear hg) | (go_at_call 20; refine (bound_calls _ _ _ (⟨by decide, by decide⟩)).mono ?_; rintro e w1 ⟨rfl, rfl⟩))
  go_ret
  exact ⟨rfl, HG⟩

set_option maxHeartbeats 1000000 in
theorem tells_calls (n s b z : Int) (w : World) (hn : IsI n) (hs : IsI s) (hb : IsI b) :
    Calls Try.prog 3 #[.int .i64 n, .int .i64 s, .int .i64 b, .int .i64 z] w fun e w' => e = .returned (.bool true) ∧ Grown w w' := by
  have HG := Grown.refl w
  have Hn := Lib.hid hn; have Hs := Lib.hid hs; have Hb := Lib.hid hb; clear hn hs hb
  go_enter Try.func3, Try.ntmps3
  go_wp2_with (first | (go_at_call 7; refine (awake_calls _).mono ?_; rintro e w1 ⟨rfl, hg⟩; replace HG := grown_trans HG hg; clear hg) | (go_at_call 8; refine (snap_calls _ _ (by first | exact Hn.out | exact Hs.out | exact Hb.out)).mono ?_; rintro e w1 ⟨rfl, rfl⟩) | (go_at_call 10; refine (takes_calls _ _ _ (by first | exact Hn.out | exact Hs.out | exact Hb.out) (by first | exact Hn.out | exact Hs.out | exact Hb.out)).mono ?_; rintro e w1 ⟨rfl, rfl⟩) | (go_at_call 12; refine (change_calls _ _ (by first | exact Hn.out | exact Hs.out | exact Hb.out)).mono ?_; rintro e w1 ⟨rfl, rfl⟩) | (go_at_call 14; refine (need_calls _ _ _ (by first | exact Hn.out | exact Hs.out | exact Hb.out) (by first | exact Hn.out | exact Hs.out | exact Hb.out)).mono ?_; rintro e w1 ⟨rfl, hg⟩; replace HG := grown_trans HG hg; clear hg) | (go_at_call 16; refine (zones_calls _ _ _ (by first | exact Hn.out | exact Hs.out | exact Hb.out) (by first | exact Hn.out | exact Hs.out | exact Hb.out)).mono ?_; rintro e w1 ⟨rfl, hg⟩; replace HG := grown_trans HG hg; clear hg) | (go_at_call 18; refine (check_calls _ _ _ _ (by first | exact Hn.out | exact Hs.out | exact Hb.out) (by first | exact Hn.out | exact Hs.out | exact Hb.out)).mono ?_; rintro e w1 ⟨rfl, hg⟩; replace HG := grown_trans HG hg; clear hg) | (go_at_call 20; refine (bound_calls _ _ _ (by first | exact Hn.out | exact Hs.out | exact Hb.out)).mono ?_; rintro e w1 ⟨rfl, rfl⟩) | (go_at_call 9; refine (rsnap_calls _ _ (by first | exact Hn.out | exact Hs.out | exact Hb.out)).mono ?_; rintro e w1 ⟨rfl, rfl⟩) | (go_at_call 11; refine (rtakes_calls _ _ _ (by first | exact Hn.out | exact Hs.out | exact Hb.out) (by first | exact Hn.out | exact Hs.out | exact Hb.out)).mono ?_; rintro e w1 ⟨rfl, rfl⟩) | (go_at_call 13; refine (rchange_calls _ _ (by first | exact Hn.out | exact Hs.out | exact Hb.out)).mono ?_; rintro e w1 ⟨rfl, rfl⟩) | (go_at_call 15; refine (rneed_calls _ _ _ (by first | exact Hn.out | exact Hs.out | exact Hb.out) (by first | exact Hn.out | exact Hs.out | exact Hb.out)).mono ?_; rintro e w1 ⟨rfl, rfl⟩) | (go_at_call 17; refine (rzones_calls _ _ _ (by first | exact Hn.out | exact Hs.out | exact Hb.out) (by first | exact Hn.out | exact Hs.out | exact Hb.out)).mono ?_; rintro e w1 ⟨rfl, rfl⟩) | (go_at_call 19; refine (rcheck_calls _ _ _ _ (by first | exact Hn.out | exact Hs.out | exact Hb.out) (by first | exact Hn.out | exact Hs.out | exact Hb.out)).mono ?_; rintro e w1 ⟨rfl, rfl⟩) | (go_at_call 21; refine (rbound_calls _ _ _ (by first | exact Hn.out | exact Hs.out | exact Hb.out)).mono ?_; rintro e w1 ⟨rfl, rfl⟩))
  go_ret
  exact ⟨rfl, HG⟩

end Go.Proofs.Ytobmcjhifpnaiaa.Sp
