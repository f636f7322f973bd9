/- distaffkeep: Within. -/
import Derived.Test.YtenahekdhepnfaaDoorProg
import Derived.Test.YtenahekdhepnfaaDoorLib
import Derived.IntWalk
namespace Go.Proofs.YtenahekdhepnfaaDoor
open Go Go.RowKit

set_option maxRecDepth 100000 in
theorem within_ok (v n : Int) (h1 : 1 ≤ n) (hv0 : -9223372036854775808 ≤ v) (hv1 : v ≤ 9223372036854775807) (hn : n ≤ 1000000) (w : World) :
    Calls Tryd.prog 16 #[.int .i64 v, .int .i64 n] w fun e w' => e = .returned (.int .i64 (v % n)) ∧ w = w' := by
  have hp0 := Int.emod_nonneg v (show n ≠ 0 by omega)
  have hp1 := Int.emod_lt_of_pos v (show 0 < n by omega)
  by_cases hv : 0 ≤ v
  · go_enter Tryd.func16, Tryd.ntmps16
    go_wp2
    go_ret
    exact ⟨rfl, rfl⟩
  · have e1 : v.tmod n = -((-v) % n) := by
      rw [show v = -(-v) by omega, Int.neg_tmod, Int.tmod_eq_emod_of_nonneg (by omega)]
      simp
    have hq0 := Int.emod_nonneg (-v) (show n ≠ 0 by omega)
    have hq1 := Int.emod_lt_of_pos (-v) (show 0 < n by omega)
    have e2 : v % n = if (-v) % n = 0 then 0 else n - (-v) % n := by
      have := Int.emod_add_mul_ediv (-v) n
      split
      · rename_i h
        rw [h] at this
        rw [show v = n * (-((-v) / n)) by rw [Int.mul_neg]; omega]
        exact Int.mul_emod_right _ _
      · rename_i h
        rw [show v = (n - (-v) % n) + n * (-((-v) / n) - 1) by rw [Int.mul_sub, Int.mul_neg]; omega, Int.add_mul_emod_self_left, Int.emod_eq_of_lt (by omega) (by omega)]
        rw [show (n - (-v) % n) + n * (-((-v) / n) - 1) = v by rw [Int.mul_sub, Int.mul_neg]; omega]
    rw [e2]
    generalize (-v) % n = r at *
    have e1' := hid e1
    clear e2 hp0 hp1
    by_cases hr : r = 0
    · rw [if_pos hr]
      subst hr
      have e3 : v.tmod n = 0 := e1
      clear e1
      go_enter Tryd.func16, Tryd.ntmps16
      go_wp2
      go_ret
      exact ⟨rfl, rfl⟩
    · rw [if_neg hr]
      go_enter Tryd.func16, Tryd.ntmps16
      go_wp2
      go_ret
      exact ⟨ret_int (by omega), rfl⟩

end Go.Proofs.YtenahekdhepnfaaDoor
