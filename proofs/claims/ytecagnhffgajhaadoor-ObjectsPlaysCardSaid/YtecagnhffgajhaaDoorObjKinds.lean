/- package objects: the law ObjectsKinds. -/
import Derived.Test.YtecagnhffgajhaaDoorObjAwake
namespace Go.Proofs.YtecagnhffgajhaaDoor
open Go Go.RowKit

theorem find_none {w : World} {bo bl n : Nat} {f : Nat → Row} (hO : Objs w bo bl n f) (h kind : Int) (h0 : 0 ≤ h) (hh : h < 18446744073709551616) (hp : placeOf f n h = none) :
    Calls Tryd.prog 16 #[.pointer (some ⟨bo, 0, none⟩), .int .u64 h, .int .i64 kind] w fun e w' => ∃ v, e = .returned (.tuple #[.int .u64 0, v]) ∧ ErrOut sObjects 0 7 w v w' := by
  refine (find_ok hO h kind h0 hh).mono ?_
  rintro e w' ⟨v, rfl, hM⟩
  unfold FindOut at hM
  rw [hp] at hM
  obtain ⟨x, rfl, h⟩ := hM
  exact ⟨x, rfl, h⟩
theorem find_other {w : World} {bo bl n : Nat} {f : Nat → Row} (hO : Objs w bo bl n f) (h kind : Int) (h0 : 0 ≤ h) (hh : h < 18446744073709551616) {p : Nat} (hp : placeOf f n h = some p) (hk : (f p).kind ≠ kind) :
    Calls Tryd.prog 16 #[.pointer (some ⟨bo, 0, none⟩), .int .u64 h, .int .i64 kind] w fun e w' => ∃ v, e = .returned (.tuple #[.int .u64 0, v]) ∧ ErrOut sObjects 0 1 w v w' := by
  refine (find_ok hO h kind h0 hh).mono ?_
  rintro e w' ⟨v, rfl, hM⟩
  unfold FindOut at hM
  rw [hp] at hM
  change if (f p).kind = kind then _ else _ at hM
  rw [if_neg hk] at hM
  obtain ⟨x, rfl, h⟩ := hM
  exact ⟨x, rfl, h⟩
theorem find_some {w : World} {bo bl n : Nat} {f : Nat → Row} (hO : Objs w bo bl n f) (h kind : Int) (h0 : 0 ≤ h) (hh : h < 18446744073709551616) {p : Nat} (hp : placeOf f n h = some p) (hk : (f p).kind = kind) {a : Int} (ha : (f p).addr = a) :
    Calls Tryd.prog 16 #[.pointer (some ⟨bo, 0, none⟩), .int .u64 h, .int .i64 kind] w fun e w' => e = .returned (.tuple #[.int .u64 a, .nilIface]) ∧ w = w' := by
  refine (find_ok hO h kind h0 hh).mono ?_
  rintro e w' ⟨v, rfl, hM⟩
  unfold FindOut at hM
  rw [hp] at hM
  change if (f p).kind = kind then _ else _ at hM
  rw [if_pos hk] at hM
  subst ha
  exact ⟨congrArg _ hM.1, hM.2⟩

/-- Same of an error and No, both fresh: the law's frequent step. -/
theorem no_same {w0 w : World} {v : Value} (layer : ByteArray) (n k : Int) (hk1 : 1 ≤ k) (hk2 : k ≤ 10) (hg : Laid w) (hv : ErrOut layer n k w0 v w) (fb : Nat) {w1 : World} (hF : FailAt w1 fb layer n k) (hK : Kept [] w w1) :
    Calls Tryd.prog 8 #[v, .pointer (some ⟨fb, 0, none⟩)] w1 fun e w' => e = .returned (.bool true) ∧ Kept [] w1 w' := by
  obtain ⟨b, rfl, h1, h2, h3⟩ := hv
  exact same_hit b fb layer n k hk1 hk2 w1 (hg.keptN hK) (h2.keptN hK) hF

set_option maxRecDepth 100000 in
set_option maxHeartbeats 4000000 in
theorem kinds_law (kind other addr : Int) (w : World) (hg : Laid w) :
    Calls Tryd.prog 6 #[.int .i64 kind, .int .i64 other, .int .u64 addr] w fun e w' => e = .returned (.bool true) ∧ Kept [] w w' := by
  have HG := hid hg
  clear hg
  by_cases hb : kind < 1 ∨ 6 < kind
  · have hbad := hid (fun bo w => make_bad bo kind addr hb w)
    rcases hb with hb | hb
    all_goals
      go_enter Tryd.func6, Tryd.ntmps6
      go_wp2_with fail
      refine (new_ok 3 (by decide) (by decide) w).mono ?_
      rintro e w1 ⟨bo, bl, rfl, hbo, hbl, hO, hK⟩
      have HO := hid hO
      have HK := hid hK
      clear hO hK
      go_wp2_with fail
      refine (hbad.out _ _).mono ?_
      rintro e w2 ⟨v, rfl, b, rfl, hb1, hB, hK⟩
      have HB := hid hB
      have HK2 := hid hK
      clear hB hK
      go_wp2_with fail
      refine (no_ok _ _ _ _).mono ?_
      rintro e w3 ⟨fb, rfl, hF, hfb, hK3⟩
      have HF := hid hF
      have HK3 := hid hK3
      clear hF hK3
      go_wp2_with fail
      refine (same_hit b fb sObjects 0 1 (by decide) (by decide) _ (HG.out.keptN ((HK.out.trans HK2.out).trans HK3.out)) (HB.out.keptN HK3.out) HF.out).mono ?_
      rintro e w4 ⟨rfl, hK4⟩
      have HK4 := hid hK4
      clear hK4
      go_wp2_with fail
      refine (len_ok (HO.out.keptN ((HK2.out.trans HK3.out).trans HK4.out)) (by decide)).mono ?_
      rintro e w5 ⟨rfl, hK5⟩
      rw [show (alive (fun _ => row0) 3).length = 0 from rfl]
      have HK5 := hid hK5
      clear hK5
      go_wp2_with fail
      refine (awake_ok _).mono ?_
      rintro e w6 ⟨rfl, hK6⟩
      have HK6 := hid hK6
      clear hK6
      go_wp2_with fail
      go_ret
      exact ⟨rfl, ((((HK.out.trans HK2.out).trans HK3.out).trans HK4.out).trans HK5.out).trans HK6.out⟩
  · have hk1 : 1 ≤ kind := by omega
    have hk2 : kind ≤ 6 := by omega
    clear hb
    by_cases ho : other = kind
    · subst ho
      go_enter Tryd.func6, Tryd.ntmps6
      go_wp2_with fail
      refine (new_ok 3 (by decide) (by decide) w).mono ?_
      rintro e w1 ⟨bo, bl, rfl, hbo, hbl, hO, hK⟩
      have HO := hid hO
      have HK := hid hK
      clear hO hK
      go_wp2_with fail
      refine (make_some HO.out other addr hk1 hk2 (by intro p hp; simp [row0]) (p := 0) rfl (r := 1) rfl).mono ?_
      rintro e w2 ⟨rfl, hO, hK⟩
      have HO2 := hid hO
      have HK2 := hid hK
      clear hO hK
      go_wp2_with fail
      refine (find_some HO2.out 1 other (by decide) (by decide) (p := 0) rfl rfl (a := addr) rfl).mono ?_
      rintro e w3 ⟨rfl, rfl⟩
      go_wp2_with fail
      refine (awake_ok _).mono ?_
      rintro e w6 ⟨rfl, hK6⟩
      have HK6 := hid hK6
      clear hK6
      go_wp2_with fail
      go_ret
      exact ⟨rfl, (HK.out.trans' HK2.out (by simp; omega)).trans HK6.out⟩
    · have e' : (other == kind) = false := by simpa using ho
      have HE := hid (fun h : kind = other => ho h.symm)
      clear ho
      go_enter Tryd.func6, Tryd.ntmps6
      go_wp2_with fail
      refine (new_ok 3 (by decide) (by decide) w).mono ?_
      rintro e w1 ⟨bo, bl, rfl, hbo, hbl, hO, hK⟩
      have HO := hid hO
      have HK := hid hK
      clear hO hK
      go_wp2_with fail
      refine (make_some HO.out kind addr hk1 hk2 (by intro p hp; simp [row0]) (p := 0) rfl (r := 1) rfl).mono ?_
      rintro e w2 ⟨rfl, hO, hK⟩
      have HO2 := hid hO
      have HK2 := hid hK
      clear hO hK
      go_wp2_with fail
      refine (find_other HO2.out 1 other (by decide) (by decide) (p := 0) rfl HE.out).mono ?_
      rintro e w3 ⟨v, rfl, b, rfl, hb1, hB, hK⟩
      have HB := hid hB
      have HK3 := hid hK
      clear hB hK
      go_wp2_with fail
      refine (no_ok _ _ _ _).mono ?_
      rintro e w4 ⟨fb, rfl, hF, hfb, hK4⟩
      have HF := hid hF
      have HK4 := hid hK4
      clear hF hK4
      go_wp2_with fail
      have HKa := hid ((HK.out.trans' HK2.out (by simp; omega)).trans HK3.out)
      refine (same_hit b fb sObjects 0 1 (by decide) (by decide) _ (HG.out.keptN (HKa.out.trans HK4.out)) (HB.out.keptN HK4.out) HF.out).mono ?_
      rintro e w5 ⟨rfl, hK5⟩
      have HK5 := hid hK5
      clear hK5
      go_wp2_with fail
      refine (awake_ok _).mono ?_
      rintro e w6 ⟨rfl, hK6⟩
      have HK6 := hid hK6
      clear hK6
      go_wp2_with fail
      go_ret
      exact ⟨rfl, ((HKa.out.trans HK4.out).trans HK5.out).trans HK6.out⟩

end Go.Proofs.YtecagnhffgajhaaDoor
