/- word.Bucket and word.Meet. -/
import Derived.Test.YtenahekdhepnfaaDoorProg
import Derived.Test.YtenahekdhepnfaaDoorLib
import Derived.RegionTactic
import Derived.BigRegion
import Derived.IntWalk
import Derived.Laws.BitsAllLaws
namespace Go.Proofs.YtenahekdhepnfaaDoor
open Go Go.RowKit

def bktN (a n : Nat) : Nat := a * 11400714819323198485 % 18446744073709551616 / 4294967296 % n
theorem bkt_eq (a n : Nat) (hn : 1 ≤ n) (hn2 : n ≤ 9223372036854775807) : wrap64 ((IntKind.u64.wrap ((a : Int) * 11400714819323198485) / 4294967296).tmod (n : Int)) = (bktN a n : Int) := by
  have h1 : IntKind.u64.wrap ((a : Int) * 11400714819323198485) = ((a * 11400714819323198485 % 18446744073709551616 : Nat) : Int) := by
    rw [IntKind.wrap_u64]; omega
  have h2 : ((a * 11400714819323198485 % 18446744073709551616 : Nat) : Int) / 4294967296 = ((a * 11400714819323198485 % 18446744073709551616 / 4294967296 : Nat) : Int) := by omega
  rw [h1, h2, Int.tmod_eq_emod_of_nonneg (by omega), ← Int.natCast_emod]
  have h3 : bktN a n < n := Nat.mod_lt _ (by omega)
  unfold bktN at h3 ⊢
  exact IntWalk.wrap64_in _ ⟨by omega, by omega⟩
theorem bktN_lt (a : Nat) {n : Nat} (hn : 1 ≤ n) : bktN a n < n := Nat.mod_lt _ (by omega)
theorem bucket_ok (a n : Nat) (hn : 1 ≤ n) (hn2 : n ≤ 9223372036854775807) (w : World) :
    Calls Tryd.prog 44 #[.int .u64 a, .int .i64 n] w fun e w' => e = .returned (.int .i64 (bktN a n)) ∧ w = w' := by
  have HE := hid (bkt_eq a n hn hn2)
  go_enter Tryd.func44, Tryd.ntmps44
  go_wp2_with fail
  go_ret
  exact ⟨ret_int HE.out, rfl⟩
theorem meet_ok (a b : Nat) (ha : a < 18446744073709551616) (hb : b < 18446744073709551616) (w : World) :
    Calls Tryd.prog 53 #[.int .u64 a, .int .u64 b] w fun e w' => e = .returned (.bool (decide (a &&& b ≠ 0))) ∧ w = w' := by
  have hand := u64_and_nat a b ha hb
  obtain ⟨x, hx⟩ : ∃ x, a &&& b = x := ⟨_, rfl⟩
  rw [hx] at hand ⊢
  clear hx
  go_enter Tryd.func53, Tryd.ntmps53
  go_wp2_with fail
  go_ret
  exact ⟨ret_bool (by by_cases e : x = 0 <;> simp [e]), rfl⟩

end Go.Proofs.YtenahekdhepnfaaDoor
