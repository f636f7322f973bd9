/- package clock: the statements' example awake; After; the law ClockAfter. -/
import Derived.Test.YtcaikpfdhdbioaaClockT
namespace Go.Proofs.Ytcaikpfdhdbioaa
open Go Go.RowKit

theorem fresh_trans {T T' : List Nat} {a w : World} (h : ∀ x, x ∈ T → a.heap.size ≤ x) (hk : Kept [] a w) (h' : ∀ x, x ∈ T' → x ∈ T ∨ w.heap.size ≤ x) : ∀ x, x ∈ T' → a.heap.size ≤ x := fun x hx => by
  rcases h' x hx with h1 | h1
  · exact h x h1
  · exact Nat.le_trans hk.size h1

set_option maxRecDepth 100000 in
set_option maxHeartbeats 2000000 in
theorem awake_ok (w : World) : Calls Try.prog 11 #[] w fun e w' => e = .returned (.bool true) ∧ Kept [] w w' := by
  go_enter Try.func11, Try.ntmps11
  go_wp2_with fail
  refine (newclock_ok w).mono ?_
  rintro e w1 ⟨cb, T1, rfl, hT1, hC1, hK1⟩
  have HC1 := hid hC1
  have HT1 := hid hT1
  have HK1 := hid hK1
  clear hC1 hK1 hT1
  go_wp2_with fail
  refine (arm_ok HC1.out (by decide) (by decide) 7 0 (by decide) (by decide) (by decide) (fun t ht => by cases ht)).mono ?_
  rintro e w2 ⟨rfl, T2, hC2, hT2, hK2⟩
  have HC2 := hid (show ClockIs w2 cb T2 [⟨0, 7, 1⟩] 1 0 from hC2)
  have HT2 := hid (fresh_trans HT1.out HK1.out hT2)
  have HK2 := hid (HK1.out.trans' hK2 (fun x hx => .inr (HT1.out x hx)))
  clear hC2 hK2 hT2
  go_wp2_with fail
  refine (arm_ok HC2.out (by decide) (by decide) 8 2 (by decide) (by decide) (by decide) (fun t ht => by simp at ht; subst ht; decide)).mono ?_
  rintro e w3 ⟨rfl, T3, hC3, hT3, hK3⟩
  have HC3 := hid (show ClockIs w3 cb T3 ([⟨0, 7, 1⟩] ++ [⟨2, 8, 2⟩]) 2 0 from hC3)
  have HT3 := hid (fresh_trans HT2.out HK2.out hT3)
  have HK3 := hid (HK2.out.trans' hK3 (fun x hx => .inr (HT2.out x hx)))
  clear hC3 hK3 hT3
  go_wp2_with fail
  refine (tick_ok (A := [⟨0, 7, 1⟩]) (B := [⟨2, 8, 2⟩]) HC3.out (by decide) (by decide) (by decide) (fun s hs => by simp at hs; subst hs; decide) (fun s hs => by simp at hs; subst hs; decide)).mono ?_
  rintro e w4 ⟨v4, T4, rfl, hC4, hT4, hR4, hK4⟩
  have HC4 := hid (show ClockIs w4 cb T4 ([⟨2, 8, 2⟩] ++ []) 2 1 from hC4)
  have HT4 := hid (fun x (hx : x ∈ T4) => HT3.out x (hT4 x hx))
  have HK4 := hid (HK3.out.trans' hK4 (fun x hx => .inr (HT3.out x hx)))
  obtain ⟨g4, cap4, rfl, hg4⟩ := own_form (n := 0) hR4
  have a0 := own_cell hR4 (i := 0) rfl
  have hne : ∀ x, x ∈ T4 → x ≠ g4 := fun x hx e => by
    have := HC3.out.lt x (hT4 x hx)
    omega
  have HNE := hid hne
  clear hC4 hK4 hT4 hR4 hne
  go_wp2_with fail
  refine (tick_ok (A := [⟨2, 8, 2⟩]) (B := []) HC4.out (by decide) (by decide) (by decide) (fun s hs => by simp at hs; subst hs; decide) (fun s hs => by cases hs)).mono ?_
  rintro e w5 ⟨v5, T5, rfl, hC5, hT5, hR5, hK5⟩
  obtain ⟨g5, cap5, rfl, hg5⟩ := own_form (n := 0) hR5
  have a0 := hK5.cellSome a0 (fun hm => HNE.out _ hm rfl)
  have b0 := own_cell hR5 (i := 0) rfl
  have HC5 := hid hC5
  have HK5 := hid (HK4.out.trans' hK5 (fun x hx => .inr (HT4.out x hx)))
  clear hC5 hK5 hT5 hR5
  simp only [numV] at a0 b0
  go_wp2_with fail
  refine (now_ok HC5.out).mono ?_
  rintro e w6 ⟨rfl, rfl⟩
  go_wp2_with fail
  go_ret
  exact ⟨rfl, HK5.out⟩

def afterN (a b : Nat) : Nat := if 18446744073709551615 < a + b then 18446744073709551615 else a + b
set_option maxRecDepth 100000 in
theorem after_ok (a b : Nat) (ha : a ≤ 18446744073709551615) (w : World) :
    Calls Try.prog 14 #[.int .u64 a, .int .u64 b] w fun e w' => e = .returned (.int .u64 (afterN a b)) ∧ w = w' := by
  obtain ⟨c, hc⟩ : ∃ c : Nat, 18446744073709551615 - a = c := ⟨_, rfl⟩
  have hcI : (18446744073709551615 : Int) - (a : Int) = (c : Int) := by omega
  have hw : IntKind.u64.wrap (c : Int) = (c : Int) := by rw [IntKind.wrap_u64]; omega
  by_cases h : c < b
  · have h1 : (c : Int) < (b : Int) := by omega
    have HA := hid (show afterN a b = 18446744073709551615 by unfold afterN; rw [if_pos (by omega)])
    rw [HA.out]
    clear hc ha h
    go_enter Try.func14, Try.ntmps14
    go_wp2_with fail
    go_ret
    exact ⟨rfl, rfl⟩
  · have h1 : ¬ (c : Int) < (b : Int) := by omega
    have HA := hid (show afterN a b = a + b by unfold afterN; rw [if_neg (by omega)])
    obtain ⟨s, hs⟩ : ∃ s : Nat, a + b = s := ⟨_, rfl⟩
    have hsI : (a : Int) + (b : Int) = (s : Int) := by omega
    have hws : IntKind.u64.wrap (s : Int) = (s : Int) := by rw [IntKind.wrap_u64]; omega
    rw [HA.out, hs]
    clear hc ha h hs HA
    go_enter Try.func14, Try.ntmps14
    go_wp2_with fail
    go_ret
    exact ⟨rfl, rfl⟩
set_option maxRecDepth 100000 in
theorem refAfter_ok (a b : Nat) (hb : b ≤ 18446744073709551615) (w : World) :
    Calls Try.prog 15 #[.int .u64 a, .int .u64 b] w fun e w' => e = .returned (.int .u64 (afterN a b)) ∧ w = w' := by
  obtain ⟨c, hc⟩ : ∃ c : Nat, 18446744073709551615 - b = c := ⟨_, rfl⟩
  have hcI : (18446744073709551615 : Int) - (b : Int) = (c : Int) := by omega
  have hw : IntKind.u64.wrap (c : Int) = (c : Int) := by rw [IntKind.wrap_u64]; omega
  by_cases h : c < a
  · have h1 : (c : Int) < (a : Int) := by omega
    have HA := hid (show afterN a b = 18446744073709551615 by unfold afterN; rw [if_pos (by omega)])
    rw [HA.out]
    clear hc hb h
    go_enter Try.func15, Try.ntmps15
    go_wp2_with fail
    go_ret
    exact ⟨rfl, rfl⟩
  · have h1 : ¬ (c : Int) < (a : Int) := by omega
    have HA := hid (show afterN a b = a + b by unfold afterN; rw [if_neg (by omega)])
    obtain ⟨s, hs⟩ : ∃ s : Nat, a + b = s := ⟨_, rfl⟩
    have hsI : (a : Int) + (b : Int) = (s : Int) := by omega
    have hws : IntKind.u64.wrap (s : Int) = (s : Int) := by rw [IntKind.wrap_u64]; omega
    rw [HA.out, hs]
    clear hc hb h hs HA
    go_enter Try.func15, Try.ntmps15
    go_wp2_with fail
    go_ret
    exact ⟨rfl, rfl⟩

set_option maxRecDepth 100000 in
set_option maxHeartbeats 1000000 in
theorem after_law (a b : Int) (w : World) (a0 : 0 ≤ a) (a1 : a ≤ 18446744073709551615) (b0 : 0 ≤ b) (b1 : b ≤ 18446744073709551615) :
    Calls Try.prog 5 #[.int .u64 a, .int .u64 b] w fun e w' => e = .returned (.bool true) ∧ Kept [] w w' := by
  obtain ⟨a, rfl⟩ : ∃ x : Nat, a = (x : Int) := ⟨a.toNat, by omega⟩
  obtain ⟨b, rfl⟩ : ∃ x : Nat, b = (x : Int) := ⟨b.toNat, by omega⟩
  have HA := hid (after_ok a b (by omega))
  have HR := hid (refAfter_ok a b (by omega))
  have HB := hid (after_ok b a (by omega))
  have e1 : afterN b a = afterN a b := by unfold afterN; rw [Nat.add_comm]
  rw [e1] at HB
  obtain ⟨s, hs⟩ : ∃ s, afterN a b = s := ⟨_, rfl⟩
  have h1 : (a : Int) ≤ (s : Int) := by rw [← hs]; unfold afterN; split <;> omega
  have h2 : (b : Int) ≤ (s : Int) := by rw [← hs]; unfold afterN; split <;> omega
  rw [hs] at HA HR HB
  clear hs e1 a0 a1 b0 b1
  go_enter Try.func5, Try.ntmps5
  go_wp2_with fail
  refine (HA.out _).mono ?_
  rintro e w1 ⟨rfl, rfl⟩
  go_wp2_with fail
  refine (HR.out _).mono ?_
  rintro e w1 ⟨rfl, rfl⟩
  go_wp2_with fail
  refine (HB.out _).mono ?_
  rintro e w1 ⟨rfl, rfl⟩
  go_wp2_with fail
  refine (awake_ok _).mono ?_
  rintro e w1 ⟨rfl, hK⟩
  have HK := hid hK
  clear hK
  go_wp2_with fail
  go_ret
  exact ⟨rfl, HK.out⟩

end Go.Proofs.Ytcaikpfdhdbioaa
