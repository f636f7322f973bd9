/- The law WordReads. -/
import Derived.Test.YtbiiggligcfklaaDoorWordA
import Derived.Test.YtbiiggligcfklaaDoorWordQ
namespace Go.Proofs.YtbiiggligcfklaaDoor
open Go Go.RowKit

set_option maxRecDepth 100000 in
set_option maxHeartbeats 1000000 in
theorem reads_law (s : ByteArray) (w : World) (hg : Laid w) (hs : s.size ≤ maxLen) :
    Calls Tryd.prog 4 #[.string s] w fun e w' => e = .returned (.bool true) ∧ Kept [] w w' := by
  have hs' : s.size ≤ 9223372036854775807 := by unfold maxLen at hs; omega
  have HG := hid hg
  have HP := hid (parse_ok s hs')
  have HR := hid (rparse_ok s hs')
  obtain ⟨r, hr⟩ : ∃ r, parseW (byt s) = r := ⟨_, rfl⟩
  rw [hr] at HP HR
  clear hg hs hs' hr
  go_enter Tryd.func4, Tryd.ntmps4
  go_wp2_with fail
  refine (HP.out _).mono ?_
  rintro e w1 ⟨v1, rfl, h1⟩
  unfold ParseOut at h1
  cases r with
  | ok n =>
    obtain ⟨rfl, rfl⟩ := h1
    have qn : ((n : Int) == (n : Int)) = true := by simp
    go_wp2_with fail
    refine (HR.out _).mono ?_
    rintro e w2 ⟨v2, rfl, h2⟩
    unfold RParseOut at h2
    obtain ⟨rfl, rfl⟩ := h2
    go_wp2_with fail
    refine (same_nil_nil _).mono ?_
    rintro e w3 ⟨rfl, rfl⟩
    go_wp2_with fail
    refine (awake_ok _ HG.out).mono ?_
    rintro e w4 ⟨rfl, hK4⟩
    have HK4 := hid hK4
    clear hK4
    go_wp2_with fail
    go_ret
    exact ⟨rfl, HK4.out⟩
  | error p =>
    obtain ⟨x, rfl, bx, rfl, -, hB, hK⟩ := h1
    have HB := hid hB
    have HK := hid hK
    clear hB hK
    go_wp2_with fail
    refine (HR.out _).mono ?_
    rintro e w2 ⟨v2, rfl, h2⟩
    unfold RParseOut at h2
    obtain ⟨fb, rfl, hF, hK2⟩ := h2
    have HF := hid hF
    have HK2 := hid hK2
    clear hF hK2
    go_wp2_with fail
    refine (same_hit bx fb sWord p 6 (by decide) (by decide) _ (HG.out.keptN (HK.out.trans HK2.out)) (HB.out.keptN HK2.out) HF.out).mono ?_
    rintro e w3 ⟨rfl, hK3⟩
    have HK3 := hid hK3
    clear hK3
    go_wp2_with fail
    refine (awake_ok _ (HG.out.keptN ((HK.out.trans HK2.out).trans HK3.out))).mono ?_
    rintro e w4 ⟨rfl, hK4⟩
    have HK4 := hid hK4
    clear hK4
    go_wp2_with fail
    go_ret
    exact ⟨rfl, ((HK.out.trans HK2.out).trans HK3.out).trans HK4.out⟩

end Go.Proofs.YtbiiggligcfklaaDoor
