/- package waitq: the laws WaitqOrder and WaitqMasks. -/
import Derived.Test.YtenahekdhepnfaaWaitW
namespace Go.Proofs.Ytenahekdhepnfaa
open Go Go.RowKit

/-- Those that are left when whoever P means has been taken up to the i-th. -/
def left (Q : List Slp) (P : Slp → Bool) (i : Nat) : List Slp := Q.filter fun s => !(P s && decide (s.id ≤ i))
def Ids (Q : List Slp) : Prop := ∀ (i : Nat) (s : Slp), Q[i]? = some s → s.id = i + 1
theorem Ids.is {Q : List Slp} (h : Ids Q) {i : Nat} {s t : Slp} (hs : Q[i]? = some s) (ht : t ∈ Q) (e : t.id = i + 1) : t = s := by
  obtain ⟨j, hj⟩ := List.getElem?_of_mem ht
  have := h j t hj
  obtain rfl : j = i := by omega
  rw [hs] at hj
  exact (Option.some.inj hj).symm
theorem left_find {Q : List Slp} (h : Ids Q) {P : Slp → Bool} {i : Nat} {s : Slp} (hs : Q[i]? = some s) (hP : P s = true) : (left Q P i).find? P = some s := by
  unfold left
  rw [List.find?_filter]
  refine find_at hs ?_ ?_
  · have := h i s hs
    simp [hP]
    omega
  · intro j u hj hu
    have := h j u hu
    simp
    intro h1
    rcases h1 with h1 | h1
    · exact h1
    · omega
theorem left_yes {Q : List Slp} (h : Ids Q) {P : Slp → Bool} {i : Nat} {s : Slp} (hs : Q[i]? = some s) (hP : P s = true) : rem (left Q P i) s.id = left Q P (i + 1) := by
  unfold rem left
  rw [List.filter_filter]
  apply List.filter_congr
  intro t ht
  have hsid := h i s hs
  by_cases e : t.id = i + 1
  · obtain rfl := h.is hs ht e
    simp [hP, e]
  · have e1 : (t.id != s.id) = true := by simp; omega
    rw [e1, Bool.true_and]
    congr 2
    apply decide_eq_decide.2
    omega
theorem left_no {Q : List Slp} (h : Ids Q) {P : Slp → Bool} {i : Nat} {s : Slp} (hs : Q[i]? = some s) (hP : P s = false) : left Q P (i + 1) = left Q P i := by
  unfold left
  apply List.filter_congr
  intro t ht
  by_cases e : t.id = i + 1
  · obtain rfl := h.is hs ht e
    simp [hP]
  · congr 2
    apply decide_eq_decide.2
    omega
theorem left_zero {Q : List Slp} (h : Ids Q) (P : Slp → Bool) : left Q P 0 = Q := by
  unfold left
  apply List.filter_eq_self.2
  intro t ht
  obtain ⟨j, hj⟩ := List.getElem?_of_mem ht
  have := h j t hj
  simp
  exact .inr (by omega)
theorem left_end {Q : List Slp} (h : Ids Q) (P : Slp → Bool) : left Q P Q.length = Q.filter fun s => !P s := by
  unfold left
  apply List.filter_congr
  intro t ht
  obtain ⟨j, hj⟩ := List.getElem?_of_mem ht
  have h1 := h j t hj
  have h2 := (List.getElem?_eq_some_iff.1 hj).1
  have h3 : decide (t.id ≤ Q.length) = true := by simp; omega
  rw [h3, Bool.and_true]
theorem left_owned {lb mb : Nat} {Q : List Slp} {P : Slp → Bool} {i x : Nat} (h : x ∈ owned lb mb (left Q P i)) : x ∈ owned lb mb Q := by
  unfold owned at h ⊢
  rcases List.mem_cons.1 h with rfl | h
  · simp
  rcases List.mem_cons.1 h with rfl | h
  · simp
  · obtain ⟨t, ht, rfl⟩ := List.mem_map.1 h
    exact List.mem_cons_of_mem _ (List.mem_cons_of_mem _ (List.mem_map.2 ⟨t, (List.mem_filter.1 ht).1, rfl⟩))
theorem Filled.ids {Q : List Slp} {k : Nat} {A M : Nat → Nat} (h : Filled Q k A M) : Ids Q := fun i s hs => (h.at' i s hs).1

theorem rows_nil (w : World) : IntRows w none 0 [.u64] (fun _ _ => 0) := ⟨fun i hi => by omega, fun i j k hi => by omega, by unfold maxLen; omega⟩

theorem take_none' {w : World} {qb lb mb n : Nat} {Q : List Slp} (h : WaitsAt w qb lb mb n Q) (addr mask : Nat) (hm : mask < 18446744073709551616) (hq : Q.find? (fits addr mask false) = none) (av mv : Int) (e1 : av = addr) (e2 : mv = mask) :
    Calls Try.prog 8 #[.pointer (some ⟨qb, 0, none⟩), .int .u64 av, .int .u64 mv] w fun e w' => e = .returned (.tuple #[.int .u64 0, .bool false]) ∧ Kept [] w w' := by
  subst e1; subst e2
  exact take_none h addr mask hm hq
theorem take_some' {w : World} {qb lb mb n : Nat} {Q : List Slp} (h : WaitsAt w qb lb mb n Q) (addr mask : Nat) (hm : mask < 18446744073709551616) {s : Slp} (hq : Q.find? (fits addr mask false) = some s) (av mv : Int) (e1 : av = addr) (e2 : mv = mask) :
    Calls Try.prog 8 #[.pointer (some ⟨qb, 0, none⟩), .int .u64 av, .int .u64 mv] w fun e w' => e = .returned (.tuple #[.int .u64 s.id, .bool true]) ∧ WaitsAt w' qb lb mb n (rem Q s.id) ∧ Kept (owned lb mb Q) w w' := by
  subst e1; subst e2
  exact take_some h addr mask hm hq
theorem has_none' {w : World} {qb lb mb n : Nat} {Q : List Slp} (h : WaitsAt w qb lb mb n Q) (addr mask : Nat) (hm : mask < 18446744073709551616) (hq : Q.find? (fits addr mask false) = none) (av mv : Int) (e1 : av = addr) (e2 : mv = mask) :
    Calls Try.prog 10 #[.pointer (some ⟨qb, 0, none⟩), .int .u64 av, .int .u64 mv] w fun e w' => e = .returned (.bool false) ∧ Kept [] w w' := by
  subst e1; subst e2
  have := has_ok h addr mask hm
  rw [hq] at this
  exact this

set_option maxRecDepth 100000 in
set_option maxHeartbeats 2000000 in
theorem order_law (aA : Option Addr) (len cA : Nat) (gA : Nat → Nat → Int) (ad : Int) (w : World) (h0 : 0 ≤ ad) (h1 : ad ≤ 18446744073709551615) (hA : IntRows w aA len [.u64] gA) :
    Calls Try.prog 4 #[.slice aA len cA, .int .u64 ad] w fun e w' => e = .returned (.bool true) ∧ Kept [] w w' := by
  obtain ⟨ad, rfl⟩ : ∃ x : Nat, ad = (x : Int) := ⟨ad.toNat, by omega⟩
  have hlen : len ≤ 9223372036854775807 := by have := hA.small; unfold maxLen at this; omega
  by_cases hl : 60 < len
  · clear hA
    go_enter Try.func4, Try.ntmps4
    go_wp2_with fail
    refine (awake_ok _).mono ?_
    rintro e w1 ⟨rfl, hK⟩
    have HK := hid hK
    clear hK
    go_wp2_with fail
    go_ret
    exact ⟨rfl, HK.out⟩
  · have hl60 : len ≤ 60 := by omega
    have HFL := hid (filled_ok aA none len cA 0 0 gA (fun _ _ => 0) w hA (rows_nil w) hl60)
    have HA := hid hA
    obtain ⟨a, ha⟩ : ∃ a, ad % 5 = a := ⟨_, rfl⟩
    have haI : (ad : Int) % 5 = (a : Int) := by omega
    have ha5 : a < 5 := by omega
    clear hA hl ha h0 h1
    go_enter Try.func4, Try.ntmps4
    go_wp2_with fail
    refine HFL.out.mono ?_
    rintro e w1 ⟨qb, lb, mb, Q, rfl, hW, hF, hqb, hO, hK⟩
    have HW := hid hW
    have HF := hid hF
    have HO := hid hO
    have HK1 := hid hK
    have hQl := hF.len
    have HID := hid hF.ids
    clear hW hF hO hK
    go_wp2_with fail
    go_loopw [6] (fun s6 wr => ∃ i : Nat, i ≤ len ∧ s6 = .int .i64 i ∧ WaitsAt wr qb lb mb 4 (left Q (fits a 1 false) i) ∧ Kept [] w wr) (fun s6 _ => len - (intOf s6).toNat)
    case atStart => exact ⟨0, Nat.zero_le _, rfl, by rw [left_zero HID.out]; exact HW.out, HK1.out⟩
    case round =>
      obtain ⟨i, hi, rfl, hW, hK⟩ := hrel
      have HWi := hid hW
      have HK := hid hK
      clear hW hK
      by_cases hlt : i < len
      · obtain ⟨ba, oa, rfl, hba, hca⟩ := HA.out.cell i hlt
        have hc0 := HK.out.cellSome (hca 0 .u64 rfl) (by simp)
        simp only [List.length_cons, List.length_nil, Nat.zero_add, Nat.add_zero, Nat.mul_one] at hc0
        obtain ⟨b00, b01⟩ := bounds_u64 (HA.out.wf i 0 .u64 hlt rfl)
        obtain ⟨x, hx⟩ : ∃ x : Nat, gA i 0 = (x : Int) := ⟨(gA i 0).toNat, by omega⟩
        obtain ⟨s, hs⟩ : ∃ s, Q[i]? = some s := ⟨_, List.getElem?_eq_getElem (by omega)⟩
        obtain ⟨f1, f2, f3⟩ := HF.out.at' i s hs
        simp only [hx, Int.toNat_natCast, Nat.not_lt_zero, if_false] at f2 f3
        rw [hx] at hc0
        have HS := hid hs
        have HSID := hid f1
        by_cases e : x % 5 = a
        · have hP := hid (show fits a 1 false s = true by simp [fits, f2, f3, e])
          have hne : (((x % 5 : Nat) : Int) != (a : Int)) = false := by simp; omega
          have hne' : ((x : Int) % 5 != (a : Int)) = false := by simp; omega
          have hT := hid (take_some' HWi.out a 1 (by decide) (left_find HID.out HS.out hP.out) (a : Int) 1 rfl rfl)
          have hidn : ((s.id : Int) != (i : Int) + 1) = false := by simp; omega
          clear hca hx hs f1 f2 f3 e
          go_wp2_with fail
          refine hT.out.mono ?_
          rintro e w3 ⟨rfl, hW3, hK3⟩
          rw [left_yes HID.out HS.out hP.out] at hW3
          have HW3 := hid hW3
          have HK3 := hid hK3
          clear hW3 hK3
          go_wp2_with fail
          go_roundw
          case rel => exact ⟨i + 1, by omega, by go_num, HW3.out, HK.out.trans' HK3.out (fun z hz => .inr (HO.out z (left_owned hz)))⟩
          case measure => simp [intOf]; omega
        · have hP := hid (show fits a 1 false s = false by simp [fits, f2, e])
          have hne : (((x % 5 : Nat) : Int) != (a : Int)) = true := by simp; omega
          have hne' : ((x : Int) % 5 != (a : Int)) = true := by simp; omega
          clear hca hx hs f1 f2 f3 e
          go_wp2_with fail
          go_roundw
          case rel => exact ⟨i + 1, by omega, by go_num, by rw [left_no HID.out HS.out hP.out]; exact HWi.out, HK.out⟩
          case measure => simp [intOf]; omega
      · obtain rfl : i = len := by omega
        have hnone := hid (show (left Q (fits a 1 false) i).find? (fits a 18446744073709551615 false) = none by
          rw [← hQl, left_end HID.out, List.find?_eq_none]
          intro t ht
          obtain ⟨h1, h2⟩ := List.mem_filter.1 ht
          obtain ⟨j, hj⟩ := List.getElem?_of_mem h1
          have h3 := (HF.out.at' j t hj).2.2
          simp only [Nat.not_lt_zero, if_false] at h3
          simp [fits, h3] at h2 ⊢
          intro h4
          exact absurd h4 h2)
        have hT := hid (take_none' HWi.out a 18446744073709551615 (by decide) hnone.out (a : Int) 18446744073709551615 rfl rfl)
        go_wp2_with fail
        refine hT.out.mono ?_
        rintro e w3 ⟨rfl, hK3⟩
        have HK3 := hid hK3
        have hH := hid (has_none' (HWi.out.keptN hK3) a 18446744073709551615 (by decide) hnone.out (a : Int) 18446744073709551615 rfl rfl)
        clear hK3
        go_wp2_with fail
        refine hH.out.mono ?_
        rintro e w4 ⟨rfl, hK4⟩
        have HK4 := hid hK4
        clear hK4
        go_wp2_with fail
        refine (awake_ok _).mono ?_
        rintro e w5 ⟨rfl, hK5⟩
        have HK5 := hid hK5
        clear hK5
        go_wp2_with fail
        go_ret
        exact ⟨rfl, ((HK.out.trans HK3.out).trans HK4.out).trans HK5.out⟩

end Go.Proofs.Ytenahekdhepnfaa
