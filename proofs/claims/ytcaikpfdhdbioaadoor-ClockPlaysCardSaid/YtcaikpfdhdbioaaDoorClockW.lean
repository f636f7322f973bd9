/- package clock: the statements' example awake; Arm as laws call it. -/
import Derived.Test.YtcaikpfdhdbioaaDoorClockT
namespace Go.Proofs.YtcaikpfdhdbioaaDoor
open Go Go.RowKit

theorem ins_at {t : Th} : ∀ {A B : List Th}, (∀ a, a ∈ A → ¬ Ah t a) → (∀ b, b ∈ B → Ah t b) → insT t (A ++ B) = A ++ t :: B
  | [], [], _, _ => rfl
  | [], b :: B, _, hB => by
    rw [List.nil_append, insT, if_pos (ahB_true (hB b (List.mem_cons_self ..)))]
    rfl
  | a :: A, B, hA, hB => by
    rw [List.cons_append, insT, if_neg (by rw [ahB_false (hA a (List.mem_cons_self ..))]; simp), ins_at (fun x hx => hA x (List.mem_cons_of_mem _ hx)) hB]
    rfl

theorem arm_ok' {w : World} {cb : Nat} {T : List Nat} {S : List Th} {last now : Nat} (h : ClockIs w cb T S last now) (hS : S.length ≤ 100000) (hla : last ≤ 1000000) (id d : Nat) (h0 : id ≠ 0) (hi : id < 18446744073709551616) (hd : d < 18446744073709551615) (hno : ∀ t, t ∈ S → t.x ≠ id) (iv dv : Int) (e1 : iv = id) (e2 : dv = d) :
    Calls Tryd.prog 6 #[.pointer (some ⟨cb, 0, none⟩), .int .u64 iv, .int .u64 dv] w fun e w' => e = .returned .nilIface ∧ ∃ T', ClockIs w' cb T' (insT ⟨d, id, last + 1⟩ S) (last + 1) now ∧ (∀ x, x ∈ T' → x ∈ T ∨ w.heap.size ≤ x) ∧ Kept T w w' := by
  subst e1; subst e2
  exact arm_ok h hS hla id d h0 hi hd hno

theorem fresh_trans {T T' : List Nat} {a w : World} (h : ∀ x, x ∈ T → a.heap.size ≤ x) (hk : Kept [] a w) (h' : ∀ x, x ∈ T' → x ∈ T ∨ w.heap.size ≤ x) : ∀ x, x ∈ T' → a.heap.size ≤ x := fun x hx => by
  rcases h' x hx with h1 | h1
  · exact h x h1
  · exact Nat.le_trans hk.size h1

set_option maxRecDepth 100000 in
set_option maxHeartbeats 2000000 in
theorem awake_ok (w : World) : Calls Tryd.prog 13 #[] w fun e w' => e = .returned (.bool true) ∧ Kept [] w w' := by
  go_enter Tryd.func13, Tryd.ntmps13
  go_wp2_with fail
  refine (newclock_ok w).mono ?_
  rintro e w1 ⟨cb, T1, rfl, hT1, hC1, hK1⟩
  have HC1 := hid hC1
  have HT1 := hid hT1
  have HK1 := hid hK1
  clear hC1 hK1 hT1
  go_wp2_with fail
  refine (arm_ok HC1.out (by decide) (by decide) 7 0 (by decide) (by decide) (by decide) (fun t ht => by cases ht)).mono ?_
  rintro e w2 ⟨rfl, T2, hC2, hT2, hK2⟩
  have HC2 := hid (show ClockIs w2 cb T2 [⟨0, 7, 1⟩] 1 0 from hC2)
  have HT2 := hid (fresh_trans HT1.out HK1.out hT2)
  have HK2 := hid (HK1.out.trans' hK2 (fun x hx => .inr (HT1.out x hx)))
  clear hC2 hK2 hT2
  go_wp2_with fail
  refine (arm_ok HC2.out (by decide) (by decide) 8 2 (by decide) (by decide) (by decide) (fun t ht => by simp at ht; subst ht; decide)).mono ?_
  rintro e w3 ⟨rfl, T3, hC3, hT3, hK3⟩
  have HC3 := hid (show ClockIs w3 cb T3 ([⟨0, 7, 1⟩] ++ [⟨2, 8, 2⟩]) 2 0 from hC3)
  have HT3 := hid (fresh_trans HT2.out HK2.out hT3)
  have HK3 := hid (HK2.out.trans' hK3 (fun x hx => .inr (HT2.out x hx)))
  clear hC3 hK3 hT3
  go_wp2_with fail
  refine (tick_ok (A := [⟨0, 7, 1⟩]) (B := [⟨2, 8, 2⟩]) HC3.out (by decide) (by decide) (by decide) (fun s hs => by simp at hs; subst hs; decide) (fun s hs => by simp at hs; subst hs; decide)).mono ?_
  rintro e w4 ⟨v4, T4, rfl, hC4, hT4, hR4, hK4⟩
  have HC4 := hid (show ClockIs w4 cb T4 ([⟨2, 8, 2⟩] ++ []) 2 1 from hC4)
  have HT4 := hid (fun x (hx : x ∈ T4) => HT3.out x (hT4 x hx))
  have HK4 := hid (HK3.out.trans' hK4 (fun x hx => .inr (HT3.out x hx)))
  obtain ⟨g4, cap4, rfl, hg4⟩ := own_form (n := 0) hR4
  have a0 := own_cell hR4 (i := 0) rfl
  have hne : ∀ x, x ∈ T4 → x ≠ g4 := fun x hx e => by
    have := HC3.out.lt x (hT4 x hx)
    omega
  have HNE := hid hne
  clear hC4 hK4 hT4 hR4 hne
  go_wp2_with fail
  refine (tick_ok (A := [⟨2, 8, 2⟩]) (B := []) HC4.out (by decide) (by decide) (by decide) (fun s hs => by simp at hs; subst hs; decide) (fun s hs => by cases hs)).mono ?_
  rintro e w5 ⟨v5, T5, rfl, hC5, hT5, hR5, hK5⟩
  obtain ⟨g5, cap5, rfl, hg5⟩ := own_form (n := 0) hR5
  have a0 := hK5.cellSome a0 (fun hm => HNE.out _ hm rfl)
  have b0 := own_cell hR5 (i := 0) rfl
  have HC5 := hid hC5
  have HK5 := hid (HK4.out.trans' hK5 (fun x hx => .inr (HT4.out x hx)))
  clear hC5 hK5 hT5 hR5
  simp only [numV] at a0 b0
  go_wp2_with fail
  refine (now_ok HC5.out).mono ?_
  rintro e w6 ⟨rfl, rfl⟩
  go_wp2_with fail
  go_ret
  exact ⟨rfl, HK5.out⟩

end Go.Proofs.YtcaikpfdhdbioaaDoor
