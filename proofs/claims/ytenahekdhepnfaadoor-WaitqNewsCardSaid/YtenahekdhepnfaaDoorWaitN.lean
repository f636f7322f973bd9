/- package waitq: the law WaitqNews. -/
import Derived.Test.YtenahekdhepnfaaDoorWaitE
namespace Go.Proofs.YtenahekdhepnfaaDoor
open Go Go.RowKit

set_option maxRecDepth 100000 in
set_option maxHeartbeats 2000000 in
theorem news_law (n : Int) (w : World) (hg : Laid w) (h0 : -9223372036854775808 ≤ n) (h1 : n ≤ 9223372036854775807) :
    Calls Tryd.prog 3 #[.int .i64 n] w fun e w' => e = .returned (.bool true) ∧ Kept [] w w' := by
  have HG := hid hg
  clear hg
  by_cases hb : n < 1 ∨ 64 < n
  · have hbad := hid (new_bad n hb)
    rcases hb with hb | hb
    all_goals
      go_enter Tryd.func3, Tryd.ntmps3
      go_wp2_with fail
      refine (hbad.out _).mono ?_
      rintro e w1 ⟨v, rfl, b, rfl, hb1, hB, hK⟩
      have HB := hid hB
      have HK := hid hK
      clear hB hK
      go_wp2_with fail
      refine (no_ok _ _ _ _).mono ?_
      rintro e w2 ⟨fb, rfl, hF, hfb, hK2⟩
      have HF := hid hF
      have HK2 := hid hK2
      clear hF hK2
      go_wp2_with fail
      refine (same_hit b fb sWaitq 0 1 (by decide) (by decide) _ (HG.out.keptN (HK.out.trans HK2.out)) (HB.out.keptN HK2.out) HF.out).mono ?_
      rintro e w3 ⟨rfl, hK3⟩
      have HK3 := hid hK3
      clear hK3
      go_wp2_with fail
      refine (awake_ok _).mono ?_
      rintro e w4 ⟨rfl, hK4⟩
      have HK4 := hid hK4
      clear hK4
      go_wp2_with fail
      go_ret
      exact ⟨rfl, ((HK.out.trans HK2.out).trans HK3.out).trans HK4.out⟩
  · obtain ⟨n, rfl⟩ : ∃ m : Nat, n = m := ⟨n.toNat, by omega⟩
    have hn1 : 1 ≤ n := by omega
    have hn2 : n ≤ 64 := by omega
    clear hb
    go_enter Tryd.func3, Tryd.ntmps3
    go_wp2_with fail
    refine (new_ok n hn1 hn2 w).mono ?_
    rintro e w1 ⟨qb, lb, mb, rfl, hqb, hO, hW, hK⟩
    have HW := hid hW
    have HK := hid hK
    clear hW hK hO
    go_wp2_with fail
    refine (len_ok HW.out).mono ?_
    rintro e w2 ⟨rfl, rfl⟩
    go_wp2_with fail
    refine (tell_ok HW.out 0 hn1 (by simp)).mono ?_
    rintro e w3 ⟨v, rfl, hV, hK3⟩
    obtain ⟨a3, c3, rfl⟩ := own_form' hV
    have HK3 := hid hK3
    clear hV hK3
    simp only [bks, List.filter_nil, List.length_nil]
    go_wp2_with fail
    refine (awake_ok _).mono ?_
    rintro e w4 ⟨rfl, hK4⟩
    have HK4 := hid hK4
    clear hK4
    go_wp2_with fail
    go_ret
    exact ⟨rfl, (HK.out.trans HK3.out).trans HK4.out⟩

end Go.Proofs.YtenahekdhepnfaaDoor
