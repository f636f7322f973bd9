/- package waitq: the document's example; a queue that is filled. -/
import Derived.Test.YtenahekdhepnfaaDoorWaitT
import Derived.Test.YtenahekdhepnfaaDoorOpen
namespace Go.Proofs.YtenahekdhepnfaaDoor
open Go Go.RowKit

set_option maxRecDepth 100000 in
set_option maxHeartbeats 2000000 in
theorem awake_ok (w : World) : Calls Tryd.prog 9 #[] w fun e w' => e = .returned (.bool true) ∧ Kept [] w w' := by
  go_enter Tryd.func9, Tryd.ntmps9
  go_wp2_with fail
  refine (new_ok 8 (by decide) (by decide) w).mono ?_
  rintro e w1 ⟨qb, lb, mb, rfl, hqb, hown, hW1, hK1⟩
  have HW1 := hid hW1
  have HK1 := hid hK1
  have HOWN := hid hown
  clear hW1 hK1 hown
  go_wp2_with fail
  refine (put_ok HW1.out 1 5 3 (by decide) (by decide) (by decide) (fun t ht => by simp at ht)).mono ?_
  rintro e w2 ⟨b1, rfl, hb1, hW2, hK2⟩
  have HW2 := hid hW2
  have HK2 := hid (HK1.out.trans' hK2 (fun x hx => .inr (HOWN.out x hx)))
  clear hW2 hK2
  go_wp2_with fail
  refine (put_ok HW2.out 2 5 1 (by decide) (by decide) (by decide) (fun t ht => by simp at ht; rw [ht]; simp)).mono ?_
  rintro e w3 ⟨b2, rfl, hb2, hW3, hK3⟩
  have hsz1 := HK1.out.size
  have hsz2 := HK2.out.size
  have hown : ∀ x, x ∈ owned lb mb ([⟨1, 5, 3, b1⟩, ⟨2, 5, 1, b2⟩] : List Slp) → w.heap.size ≤ x := by
    intro x hx
    have h1 := HOWN.out
    simp [owned] at hx h1
    rcases hx with rfl | rfl | rfl | rfl
    · exact h1.1
    · exact h1.2
    · omega
    · omega
  have hown1 : ∀ x, x ∈ owned lb mb ([⟨1, 5, 3, b1⟩] : List Slp) → w.heap.size ≤ x := fun x hx => hown x (by simp [owned] at hx ⊢; rcases hx with h | h | h <;> simp [h])
  have HW3 := hid (show WaitsAt w3 qb lb mb 8 [⟨1, 5, 3, b1⟩, ⟨2, 5, 1, b2⟩] from hW3)
  have HK3 := hid (HK2.out.trans' hK3 (fun x hx => .inr (hown1 x hx)))
  have HOWN := hid hown
  clear hW3 hK3 hown hown1
  go_wp2_with fail
  refine (take_some (s := ⟨1, 5, 3, b1⟩) HW3.out 5 2 (by decide) (by simp [fits])).mono ?_
  rintro e w4 ⟨rfl, hW4, hK4⟩
  have HW4 := hid (show WaitsAt w4 qb lb mb 8 [⟨2, 5, 1, b2⟩] from hW4)
  have HK4 := hid (HK3.out.trans' hK4 (fun x hx => .inr (HOWN.out x hx)))
  clear hW4 hK4
  go_wp2_with fail
  refine (move_some (s := ⟨2, 5, 1, b2⟩) HW4.out 5 9 (by simp [fits])).mono ?_
  rintro e w5 ⟨rfl, hW5, hK5⟩
  have HW5 := hid (show WaitsAt w5 qb lb mb 8 [⟨2, 9, 1, b2⟩] from hW5)
  have hown2 : ∀ x, x ∈ owned lb mb ([⟨2, 5, 1, b2⟩] : List Slp) → w.heap.size ≤ x := fun x hx => HOWN.out x (by simp [owned] at hx ⊢; rcases hx with h | h | h <;> simp [h])
  have HK5 := hid (HK4.out.trans' hK5 (fun x hx => .inr (hown2 x hx)))
  have HOWN2 := hid hown2
  clear hW5 hK5 hown2
  go_wp2_with fail
  refine (take_none HW5.out 9 4 (by decide) (by simp [fits])).mono ?_
  rintro e w6 ⟨rfl, hK6⟩
  have HW6 := hid (HW5.out.keptN hK6)
  have HK6 := hid (HK5.out.trans hK6)
  clear hK6
  go_wp2_with fail
  refine (take_some (s := ⟨2, 9, 1, b2⟩) HW6.out 9 1 (by decide) (by simp [fits])).mono ?_
  rintro e w7 ⟨rfl, hW7, hK7⟩
  have HW7 := hid (show WaitsAt w7 qb lb mb 8 [] from hW7)
  have HK7 := hid (HK6.out.trans' hK7 (fun x hx => .inr (HOWN2.out x (by simpa [owned] using hx))))
  clear hW7 hK7
  go_wp2_with fail
  refine (len_ok HW7.out).mono ?_
  rintro e w8 ⟨rfl, rfl⟩
  go_wp2_with fail
  go_ret
  exact ⟨rfl, HK7.out⟩

/-- The first k were put in: ids from 1 on. -/
structure Filled (Q : List Slp) (k : Nat) (A M : Nat → Nat) : Prop where
  len : Q.length = k
  at' : ∀ (i : Nat) (s : Slp), Q[i]? = some s → s.id = i + 1 ∧ s.addr = A i ∧ s.mask = M i

theorem put_ok' {w : World} {qb lb mb n : Nat} {Q : List Slp} (h : WaitsAt w qb lb mb n Q) (id addr mask : Nat) (h0 : id ≠ 0) (hi : id < 18446744073709551616) (hm : mask < 18446744073709551616) (hno : ∀ t, t ∈ Q → t.id ≠ id) (iv av mv : Int) (e1 : iv = id) (e2 : av = addr) (e3 : mv = mask) :
    Calls Tryd.prog 15 #[.pointer (some ⟨qb, 0, none⟩), .int .u64 iv, .int .u64 av, .int .u64 mv] w fun e w' => ∃ sb, e = .returned .nilIface ∧ w.heap.size ≤ sb ∧ WaitsAt w' qb lb mb n (Q ++ [⟨id, addr, mask, sb⟩]) ∧ Kept (owned lb mb Q) w w' := by
  subst e1; subst e2; subst e3
  exact put_ok h id addr mask h0 hi hm hno

set_option maxRecDepth 100000 in
set_option maxHeartbeats 2000000 in
theorem filled_ok (aA aM : Option Addr) (len cA lM cM : Nat) (gA gM : Nat → Nat → Int) (w : World) (hA : IntRows w aA len [.u64] gA) (hM : IntRows w aM lM [.u64] gM) (hl : len ≤ 60) :
    Calls Tryd.prog 12 #[.slice aA len cA, .slice aM lM cM] w fun e w' => ∃ qb lb mb Q, e = .returned (.pointer (some ⟨qb, 0, none⟩)) ∧ WaitsAt w' qb lb mb 4 Q ∧ Filled Q len (fun i => (gA i 0).toNat % 5) (fun i => if i < lM then (gM i 0).toNat else 1) ∧ w.heap.size ≤ qb ∧ (∀ x, x ∈ owned lb mb Q → w.heap.size ≤ x) ∧ Kept [] w w' := by
  have HA := hid hA
  have HM := hid hM
  have hlm : lM ≤ 9223372036854775807 := by have := hM.small; unfold maxLen at this; omega
  clear hA hM
  go_enter Tryd.func12, Tryd.ntmps12
  go_wp2_with fail
  refine (new_ok 4 (by decide) (by decide) w).mono ?_
  rintro e w1 ⟨qb, lb, mb, rfl, hqb, hown, hW1, hK1⟩
  have HW1 := hid hW1
  have HK1 := hid hK1
  have HOWN := hid hown
  clear hW1 hK1 hown
  go_wp2_with fail
  go_loopw [7] (fun s7 wr => ∃ (k : Nat) (Q : List Slp), k ≤ len ∧ s7 = .int .i64 k ∧ WaitsAt wr qb lb mb 4 Q ∧ Filled Q k (fun i => (gA i 0).toNat % 5) (fun i => if i < lM then (gM i 0).toNat else 1) ∧ (∀ x, x ∈ owned lb mb Q → w.heap.size ≤ x) ∧ Kept [] w wr) (fun s7 _ => len - (intOf s7).toNat)
  case atStart => exact ⟨0, [], Nat.zero_le _, rfl, HW1.out, ⟨rfl, fun i s h => by simp at h⟩, HOWN.out, HK1.out⟩
  case round =>
    obtain ⟨k, Q, hk, rfl, hW, hF, hO, hK⟩ := hrel
    have HW := hid hW
    have HF := hid hF
    have HO := hid hO
    have HK := hid hK
    clear hW hF hO hK
    by_cases hlt : k < len
    · obtain ⟨ba, oa, rfl, hba, hca⟩ := HA.out.cell k hlt
      have hc0 := HK.out.cellSome (hca 0 .u64 rfl) (by simp)
      simp only [List.length_cons, List.length_nil, Nat.zero_add, Nat.add_zero, Nat.mul_one] at hc0
      obtain ⟨b00, b01⟩ := bounds_u64 (HA.out.wf k 0 .u64 hlt rfl)
      obtain ⟨x, hx⟩ : ∃ x : Nat, gA k 0 = (x : Int) := ⟨(gA k 0).toNat, by omega⟩
      rw [hx] at hc0
      have HX := hid (show (gA k 0).toNat % 5 = x % 5 by rw [hx]; rfl)
      have hno : ∀ t, t ∈ Q → t.id ≠ k + 1 := by
        intro t ht
        obtain ⟨i, hi⟩ := List.getElem?_of_mem ht
        have h1 := (HF.out.at' i t hi).1
        have h2 := (List.getElem?_eq_some_iff.1 hi).1
        have h3 := HF.out.len
        omega
      have HNO := hid hno
      have hfin := hid (fun (m sb : Nat) (hm : (if k < lM then (gM k 0).toNat else 1) = m) => (show Filled (Q ++ [⟨k + 1, x % 5, m, sb⟩]) (k + 1) (fun i => (gA i 0).toNat % 5) (fun i => if i < lM then (gM i 0).toNat else 1) from by
        refine ⟨by rw [List.length_append, HF.out.len]; rfl, fun i s hi => ?_⟩
        rw [List.getElem?_append] at hi
        split at hi
        · exact HF.out.at' i s hi
        · have h2 := (List.getElem?_eq_some_iff.1 hi).1
          have h3 := HF.out.len
          simp at h2
          have h4 : i = k := by omega
          subst h4
          rw [h3, Nat.sub_self] at hi
          simp at hi
          subst hi
          exact ⟨rfl, HX.out.symm, hm.symm⟩))
      have hown2 := hid (fun (m sb : Nat) (hsb : wr.heap.size ≤ sb) => (show ∀ y, y ∈ owned lb mb (Q ++ [⟨k + 1, x % 5, m, sb⟩]) → w.heap.size ≤ y from by
        intro y hy
        unfold owned at hy
        rcases List.mem_cons.1 hy with rfl | hy
        · exact HO.out _ (by simp [owned])
        rcases List.mem_cons.1 hy with rfl | hy
        · exact HO.out _ (by simp [owned])
        rw [List.map_append] at hy
        rcases List.mem_append.1 hy with hy | hy
        · exact HO.out y (by unfold owned; exact List.mem_cons_of_mem _ (List.mem_cons_of_mem _ hy))
        · simp at hy
          have := HK.out.size
          omega))
      clear hno hca hx
      by_cases hmlt : k < lM
      · obtain ⟨bm, om, rfl, hbm, hcm⟩ := HM.out.cell k hmlt
        have hm0 := HK.out.cellSome (hcm 0 .u64 rfl) (by simp)
        simp only [List.length_cons, List.length_nil, Nat.zero_add, Nat.add_zero, Nat.mul_one] at hm0
        obtain ⟨b10, b11⟩ := bounds_u64 (HM.out.wf k 0 .u64 hmlt rfl)
        obtain ⟨y, hy⟩ : ∃ y : Nat, gM k 0 = (y : Int) := ⟨(gM k 0).toNat, by omega⟩
        rw [hy] at hm0
        have hf := hid (fun sb => hfin.out y sb (by rw [if_pos hmlt, hy]; rfl))
        clear hcm hfin
        go_wp2_with fail
        refine (put_ok' HW.out (k + 1) (x % 5) y (by omega) (by omega) (by omega) HNO.out _ _ _ (by first | rfl | omega) (by omega) rfl).mono ?_
        rintro e w3 ⟨sb, rfl, hsb, hW3, hK3⟩
        have HW3 := hid hW3
        have HK3 := hid hK3
        clear hW3 hK3
        go_wp2_with fail
        go_roundw
        case rel => exact ⟨k + 1, _, by omega, by go_num, HW3.out, hf.out sb, hown2.out y sb hsb, HK.out.trans' HK3.out (fun z hz => .inr (HO.out z hz))⟩
        case measure => simp [intOf]; omega
      · have hf := hid (fun sb => hfin.out 1 sb (by rw [if_neg hmlt]))
        clear hfin
        go_wp2_with fail
        refine (put_ok' HW.out (k + 1) (x % 5) 1 (by omega) (by omega) (by omega) HNO.out _ _ _ (by first | rfl | omega) (by omega) rfl).mono ?_
        rintro e w3 ⟨sb, rfl, hsb, hW3, hK3⟩
        have HW3 := hid hW3
        have HK3 := hid hK3
        clear hW3 hK3
        go_wp2_with fail
        go_roundw
        case rel => exact ⟨k + 1, _, by omega, by go_num, HW3.out, hf.out sb, hown2.out 1 sb hsb, HK.out.trans' HK3.out (fun z hz => .inr (HO.out z hz))⟩
        case measure => simp [intOf]; omega
    · obtain rfl : k = len := by omega
      go_wp2_with fail
      go_ret
      exact ⟨qb, lb, mb, Q, rfl, HW.out, HF.out, hqb, HO.out, HK.out⟩

end Go.Proofs.YtenahekdhepnfaaDoor
