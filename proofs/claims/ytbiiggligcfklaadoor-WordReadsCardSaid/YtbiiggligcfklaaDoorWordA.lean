/- The document's examples. -/
import Derived.Test.YtbiiggligcfklaaDoorWordR
namespace Go.Proofs.YtbiiggligcfklaaDoor
open Go Go.RowKit

set_option maxRecDepth 100000 in
set_option maxHeartbeats 1000000 in
theorem awake_ok (w : World) (hg : Laid w) : Calls Tryd.prog 12 #[] w fun e w' => e = .returned (.bool true) ∧ Kept [] w w' := by
  have HG := hid hg
  have hp1 : parseW (byt ⟨#[48, 120, 49, 102]⟩) = .ok 31 := by kernel_rfl
  have hp2 : parseW (byt ⟨#[49, 50, 97]⟩) = .error 2 := by kernel_rfl
  have hs : sumN 32 4294967295 2 = 1 := by decide
  have hpr : strB (dec 70) = ⟨#[55, 48]⟩ := by
    rw [dec_large (by omega), dec_small (by omega)]
    decide
  have HP1 := hid hp1
  have HP2 := hid hp2
  have HS := hid hs
  have HPR := hid hpr
  clear hg hp1 hp2 hs hpr
  go_enter Tryd.func12, Tryd.ntmps12
  go_wp2_with fail
  refine (parse_ok ⟨#[48, 120, 49, 102]⟩ (by decide) _).mono ?_
  rintro e w1 ⟨v1, rfl, h1⟩
  unfold ParseOut at h1
  rw [HP1.out] at h1
  obtain ⟨rfl, rfl⟩ := h1
  go_wp2_with fail
  refine (parse_ok ⟨#[49, 50, 97]⟩ (by decide) _).mono ?_
  rintro e w2 ⟨v2, rfl, h2⟩
  unfold ParseOut at h2
  rw [HP2.out] at h2
  obtain ⟨x, rfl, bx, rfl, -, hB, hK⟩ := h2
  have HB := hid hB
  have HK := hid hK
  clear hB hK
  go_wp2_with fail
  refine (sum_ok 32 4294967295 2 (by decide) (by decide) _).mono ?_
  rintro e w3 ⟨rfl, rfl⟩
  rw [HS.out]
  go_wp2_with fail
  refine (no_ok _ _ _ _).mono ?_
  rintro e w4 ⟨fb, rfl, hF, hfb, hK4⟩
  have HF := hid hF
  have HK4 := hid hK4
  clear hF hK4
  go_wp2_with fail
  refine (same_hit bx fb sWord 2 6 (by decide) (by decide) _ (HG.out.keptN (HK.out.trans HK4.out)) (HB.out.keptN HK4.out) HF.out).mono ?_
  rintro e w5 ⟨rfl, hK5⟩
  have HK5 := hid hK5
  clear hK5
  go_wp2_with fail
  refine (print_ok 70 (by decide) _).mono ?_
  rintro e w6 ⟨rfl, hK6⟩
  rw [HPR.out]
  have HK6 := hid hK6
  clear hK6
  go_wp2_with fail
  go_ret
  exact ⟨rfl, ((HK.out.trans HK4.out).trans HK5.out).trans HK6.out⟩

end Go.Proofs.YtbiiggligcfklaaDoor
