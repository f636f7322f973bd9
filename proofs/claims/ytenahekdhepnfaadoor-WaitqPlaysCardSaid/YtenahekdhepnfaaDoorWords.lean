/- distaffkeep.Words: two rows of the same numbers. -/
import Derived.Test.YtenahekdhepnfaaDoorProg
import Derived.Test.YtenahekdhepnfaaDoorApp
import Derived.Deep.Quiet
import Derived.Deep.QuietTactic
import Derived.BigQuiet
import Derived.Deep.DeepMust
namespace Go.Proofs.YtenahekdhepnfaaDoor
open Go Go.RowKit

theorem words_ok (a b : Value) (n : Nat) (l : List Int) (hn : n ≤ 1000000000) (w : World) (ha : Src w a n 1 (l.map (.int .u64))) (hb : Src w b n 1 (l.map (.int .u64))) :
    Calls Tryd.prog 36 #[a, b] w fun e w' => e = .returned (.bool true) ∧ Kept [] w w' := by
  obtain ⟨aa, ca, rfl⟩ := ha.form
  obtain ⟨ab, cb, rfl⟩ := hb.form
  have HA := hid ha
  have HB := hid hb
  have hl : l.length = n := by have := ha.1; rw [List.length_map] at this; omega
  have HL := hid hl
  clear ha hb hl
  go_enter Tryd.func36, Tryd.ntmps36
  go_wp2_with fail
  go_loopw [5] (fun i wr => ∃ k m : Nat, k ≤ n ∧ i = .int .i64 k ∧ wr = w.drewN m) (fun i _ => n - (intOf i).toNat)
  case atStart => exact ⟨0, 0, Nat.zero_le _, rfl, rfl⟩
  case round =>
    obtain ⟨k, m, hk, rfl, rfl⟩ := hrel
    by_cases hlk : k < n
    · obtain ⟨x, hx⟩ : ∃ x, l[k]? = some x := ⟨_, List.getElem?_eq_getElem (by rw [HL.out]; exact hlk)⟩
      have hm : (l.map (Value.int .u64))[k]? = some (.int .u64 x) := by rw [List.getElem?_map, hx]; rfl
      obtain ⟨g, i, rfl, d0⟩ := HA.out.at hm
      obtain ⟨g', i', rfl, d1⟩ := HB.out.at hm
      clear hx hm
      have hxx : (x != x) = false := by simp
      go_wp2_with fail
      go_quiet (fail)
      rename_i nq
      go_wp2_with fail
      go_roundw
      case rel => exact ⟨k + 1, m + nq, by omega, by go_num, rfl⟩
      case measure => simp [intOf]; omega
    · go_wp2_with fail
      go_ret
      exact ⟨rfl, (Kept.refl _ _).drewN m⟩

end Go.Proofs.YtenahekdhepnfaaDoor
