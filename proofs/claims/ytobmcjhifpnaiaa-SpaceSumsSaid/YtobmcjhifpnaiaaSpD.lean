/- The plain laws of chapter 13: sizes grow, sums, and room; no program in sight. -/
import Derived.Test.YtobmcjhifpnaiaaSpC
namespace Go.Proofs.Ytobmcjhifpnaiaa.Sp
open Go.ChangeShapes Go.WideShapes Go.ChangeAt Go.RowKit

theorem ediv_anti (n s t : Int) (hn : 0 ≤ n) (hs : 0 < s) (h : s ≤ t) : n / t ≤ n / s := by
  apply Int.le_ediv_of_mul_le hs
  have h1 : n / t * t ≤ n := Int.ediv_mul_le n (by omega)
  have h2 := Int.mul_le_mul_of_nonneg_left h (Int.ediv_nonneg hn (show 0 ≤ t by omega))
  omega

theorem takes_eq {n s : Int} (h1 : 8192 ≤ s) (h2 : s ≤ 1048576) : takesF n s = max n 0 / (s - 4116) + 1 := by
  unfold takesF; rw [if_pos (mayB_iff.2 ⟨h1, h2⟩)]
theorem takes_mono {m n s : Int} (h : m ≤ n) : takesF m s ≤ takesF n s := by
  unfold takesF
  cases hb : mayB s
  · simp
  · have hm := mayB_iff.1 hb
    simp only [if_true]
    have := Int.ediv_le_ediv (show 0 < s - 4116 by omega) (show max m 0 ≤ max n 0 by omega)
    omega
theorem takes_anti {n s t : Int} (h1 : 8192 ≤ s) (h2 : t ≤ 1048576) (h : s ≤ t) : takesF n t ≤ takesF n s := by
  rw [takes_eq h1 (by omega), takes_eq (by omega) h2]
  have := ediv_anti (max n 0) (s - 4116) (t - 4116) (by omega) (by omega) (by omega)
  omega
theorem snap_eq {b : Int} (h1 : 1 ≤ b) (h2 : b ≤ 64) : snapF b = bytesF b + partsF b * 20 + 22 := by
  unfold snapF; rw [if_pos (someB_iff.2 ⟨h1, h2⟩)]
theorem change_eq {b : Int} (h1 : 1 ≤ b) (h2 : b ≤ 64) : changeF b = 20 + max (10 + b * 39) 1009 := by
  unfold changeF; rw [if_pos (someB_iff.2 ⟨h1, h2⟩)]
theorem snap_mono {b c : Int} (h0 : 1 ≤ b) (h : b ≤ c) (h1 : c ≤ 64) : snapF b ≤ snapF c := by
  rw [snap_eq h0 (by omega), snap_eq (by omega) h1]
  have hp : partsF b ≤ partsF c := by
    unfold partsF bytesF
    exact Int.ediv_le_ediv (by omega) (by omega)
  unfold bytesF
  omega
theorem change_mono {b c : Int} (h0 : 1 ≤ b) (h : b ≤ c) (h1 : c ≤ 64) : changeF b ≤ changeF c := by
  rw [change_eq h0 (by omega), change_eq (by omega) h1]
  omega
theorem takes_pos {n s : Int} (h1 : 8192 ≤ s) (h2 : s ≤ 1048576) : 1 ≤ takesF n s := by
  rw [takes_eq h1 h2]
  have := Int.ediv_nonneg (show 0 ≤ max n 0 by omega) (show 0 ≤ s - 4116 by omega)
  omega
theorem need_eq {b s : Int} (h1 : 1 ≤ b) (h2 : b ≤ 64) (h3 : 8192 ≤ s) (h4 : s ≤ 1048576) : needF b s = takesF (changeF b) s + takesF (snapF b) s := by
  unfold needF; rw [if_pos ⟨someB_iff.2 ⟨h1, h2⟩, mayB_iff.2 ⟨h3, h4⟩⟩]
theorem zones_eq {b s : Int} (h1 : 1 ≤ b) (h2 : b ≤ 64) (h3 : 8192 ≤ s) (h4 : s ≤ 1048576) :
    zonesF b s = 3 + (takesF (changeF b) s + takesF (snapF b) s) + takesF (snapF b) s + 1 := by
  have a1 := takes_pos (n := changeF b) h3 h4
  have a2 := takes_pos (n := snapF b) h3 h4
  unfold zonesF; rw [need_eq h1 h2 h3 h4, if_neg (by omega)]
theorem zones_grow {b c s : Int} (h0 : 1 ≤ b) (h : b ≤ c) (h1 : c ≤ 64) (h3 : 8192 ≤ s) (h4 : s ≤ 1048576) : zonesF b s ≤ zonesF c s := by
  rw [zones_eq h0 (by omega) h3 h4, zones_eq (by omega) h1 h3 h4]
  have a1 := takes_mono (s := s) (change_mono h0 h h1)
  have a2 := takes_mono (s := s) (snap_mono h0 h h1)
  omega
theorem zones_shrink {b s t : Int} (h0 : 1 ≤ b) (h1 : b ≤ 64) (h3 : 8192 ≤ s) (h : s ≤ t) (h4 : t ≤ 1048576) : zonesF b t ≤ zonesF b s := by
  rw [zones_eq h0 h1 h3 (by omega), zones_eq h0 h1 (by omega) h4]
  have a1 := takes_anti (n := changeF b) h3 h4 h
  have a2 := takes_anti (n := snapF b) h3 h4 h
  omega
theorem zones_seven {b s : Int} (h0 : 1 ≤ b) (h1 : b ≤ 64) (h3 : 8192 ≤ s) (h4 : s ≤ 1048576) : 7 ≤ zonesF b s := by
  rw [zones_eq h0 h1 h3 h4]
  have a1 := takes_pos (n := changeF b) h3 h4
  have a2 := takes_pos (n := snapF b) h3 h4
  omega
theorem check_iff {z b s : Int} (h0 : 1 ≤ b) (h1 : b ≤ 64) (h3 : 8192 ≤ s) (h4 : s ≤ 1048576) : checkF z s b = 0 ↔ zonesF b s ≤ z ∧ z ≤ 64 := by
  have := zones_seven h0 h1 h3 h4
  unfold checkF
  split <;> omega
theorem sums {a b s : Int} (ha : 0 ≤ a) (hb : 0 ≤ b) (h3 : 8192 ≤ s) (h4 : s ≤ 1048576) : takesF (a + b) s ≤ takesF a s + takesF b s := by
  rw [takes_eq h3 h4, takes_eq h3 h4, takes_eq h3 h4, Int.max_eq_left (by omega), Int.max_eq_left ha, Int.max_eq_left hb]
  have hd : 0 < s - 4116 := by omega
  have e1 := Int.mul_ediv_add_emod a (s - 4116)
  have e2 := Int.mul_ediv_add_emod b (s - 4116)
  have m1 := Int.emod_lt_of_pos a hd
  have m2 := Int.emod_lt_of_pos b hd
  have : (a + b) / (s - 4116) < a / (s - 4116) + b / (s - 4116) + 2 := by
    apply Int.ediv_lt_of_lt_mul hd
    have : (a / (s - 4116) + b / (s - 4116) + 2) * (s - 4116) = (s - 4116) * (a / (s - 4116)) + (s - 4116) * (b / (s - 4116)) + 2 * (s - 4116) := by
      rw [Int.add_mul, Int.add_mul, Int.mul_comm (a / (s - 4116)), Int.mul_comm (b / (s - 4116))]
    omega
  omega

theorem room {b s : Int} (h0 : 1 ≤ b) (h1 : b ≤ 64) (h3 : 8192 ≤ s) (h4 : s ≤ 1048576) :
    takesF (snapF b) s < zonesF b s - 3 - takesF (snapF b) s + takesF (snapF b) s - takesF (changeF b) s ∧ needF b s < zonesF b s - 3 - takesF (snapF b) s ∧ takesF (snapF b) s < needF b s ∧ 2 * snapK b ≤ boundF (zonesF b s) b ∧ changeF b ≤ 4116 := by
  have a1 := takes_pos (n := changeF b) h3 h4
  have a2 := takes_pos (n := snapF b) h3 h4
  have z := zones_eq h0 h1 h3 h4
  have n := need_eq h0 h1 h3 h4
  obtain ⟨_, _, j1, j2, j3, j4, j5, j6⟩ := isI_snap b
  refine ⟨by omega, by omega, by omega, ?_, by omega⟩
  unfold boundF
  split <;> omega

end Go.Proofs.Ytobmcjhifpnaiaa.Sp
