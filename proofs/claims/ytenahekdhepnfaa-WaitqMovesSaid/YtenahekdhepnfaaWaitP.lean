/- package waitq: the law WaitqMasks. -/
import Derived.Test.YtenahekdhepnfaaWaitO
import Derived.Laws.BitsAllLaws
namespace Go.Proofs.Ytenahekdhepnfaa
open Go Go.RowKit

theorem info_u64 : (Try.prog.info? 23).map (fun i => (i.zero, i.size, i.bytes)) = some (some (.int .u64 0), 1, 8) := by kernel_rfl
/-- How many of the first i P does not mean. -/
def misses (Q : List Slp) (P : Slp → Bool) (i : Nat) : Nat := ((Q.take i).filter fun s => !P s).length
theorem misses_yes {Q : List Slp} {P : Slp → Bool} {i : Nat} {s : Slp} (hs : Q[i]? = some s) (hP : P s = true) : misses Q P (i + 1) = misses Q P i := by
  obtain ⟨h1, h2⟩ := List.getElem?_eq_some_iff.1 hs
  unfold misses
  rw [List.take_succ_eq_append_getElem h1, List.filter_append, h2]
  simp [hP]
theorem misses_no {Q : List Slp} {P : Slp → Bool} {i : Nat} {s : Slp} (hs : Q[i]? = some s) (hP : P s = false) : misses Q P (i + 1) = misses Q P i + 1 := by
  obtain ⟨h1, h2⟩ := List.getElem?_eq_some_iff.1 hs
  unfold misses
  rw [List.take_succ_eq_append_getElem h1, List.filter_append, h2]
  simp [hP]
theorem misses_le (Q : List Slp) (P : Slp → Bool) (i : Nat) : misses Q P i ≤ i := by
  unfold misses
  exact Nat.le_trans (List.length_filter_le _ _) (by rw [List.length_take]; omega)

theorem rows_zero (w : World) (len : Nat) (hl : len ≤ 60) : IntRows (w.alloc (.cells (rowsOf 1 (fun _ _ => .int .u64 0) len).toArray 23)) (some ⟨w.heap.size, 0, none⟩) len [.u64] (fun _ _ => 0) := by
  refine ⟨fun i hi => ⟨w.heap.size, 0, rfl, by simp, fun j k hk => ?_⟩, fun i j k hi hk => ?_, by unfold maxLen; omega⟩
  · have hj : j = 0 := by
      have := (List.getElem?_eq_some_iff.1 hk).1
      simp at this
      exact this
    subst hj
    simp at hk
    subst hk
    have := (Blk.new w (rowsOf 1 (fun _ _ => Value.int .u64 0) len) 23).cell (rowsOf_get (fun _ _ => Value.int .u64 0) hi (show 0 < 1 by omega))
    simpa using this
  · have hj : j = 0 := by
      have := (List.getElem?_eq_some_iff.1 hk).1
      simp at this
      exact this
    subst hj
    simp at hk
    subst hk
    exact wf_id (i := 0) (by omega)

set_option maxRecDepth 100000 in
set_option maxHeartbeats 2000000 in
theorem masks_law (aA : Option Addr) (len cA : Nat) (gA : Nat → Nat → Int) (ad : Int) (w : World) (h0 : 0 ≤ ad) (h1 : ad ≤ 18446744073709551615) (hA : IntRows w aA len [.u64] gA) :
    Calls Try.prog 3 #[.slice aA len cA, .int .u64 ad] w fun e w' => e = .returned (.bool true) ∧ Kept [] w w' := by
  obtain ⟨m, rfl⟩ : ∃ x : Nat, ad = (x : Int) := ⟨ad.toNat, by omega⟩
  have hm : m < 18446744073709551616 := by omega
  have hlen : len ≤ 9223372036854775807 := by have := hA.small; unfold maxLen at this; omega
  by_cases hl : 60 < len
  · clear hA
    go_enter Try.func3, Try.ntmps3
    go_wp2_with fail
    refine (awake_ok _).mono ?_
    rintro e w1 ⟨rfl, hK⟩
    have HK := hid hK
    clear hK
    go_wp2_with fail
    go_ret
    exact ⟨rfl, HK.out⟩
  · have hl60 : len ≤ 60 := by omega
    have hmk := mk_rows Try.underlying22 info_u64 (fun _ => .int .u64 0) rfl len (by omega) (by omega)
    have hK0 : Kept [] w (w.alloc (.cells (rowsOf 1 (fun _ _ => .int .u64 0) len).toArray 23)) := (Kept.refl [] w).alloc _
    have HFL := hid (filled_ok (some ⟨w.heap.size, 0, none⟩) aA len len len cA (fun _ _ => 0) gA _ (rows_zero w len hl60) (hA.kept hK0) hl60)
    have HA := hid hA
    have HK0 := hid hK0
    clear hA hl h0 h1 hK0
    go_enter Try.func3, Try.ntmps3
    go_wp2_with fail
    refine HFL.out.mono ?_
    rintro e w1 ⟨qb, lb, mb, Q, rfl, hW, hF, hqb, hO, hK⟩
    have HW := hid hW
    have HF := hid hF
    have HO := hid (fun x (hx : x ∈ owned lb mb Q) => (show w.heap.size ≤ x from Nat.le_trans HK0.out.size (hO x hx)))
    have HK1 := hid (HK0.out.trans hK)
    have hQl := hF.len
    have HID := hid hF.ids
    clear hW hF hO hK hmk
    obtain ⟨P, hPd⟩ : ∃ P, fits 0 m false = P := ⟨_, rfl⟩
    have HPD := hid hPd
    clear hPd
    go_wp2_with fail
    go_loopw [6, 7] (fun s6 s7 wr => ∃ i : Nat, i ≤ len ∧ s6 = .int .i64 (misses Q P i) ∧ s7 = .int .i64 i ∧ WaitsAt wr qb lb mb 4 (left Q P i) ∧ Kept [] w wr) (fun _ s7 _ => len - (intOf s7).toNat)
    case atStart => exact ⟨0, Nat.zero_le _, by simp [misses], rfl, by rw [left_zero HID.out]; exact HW.out, HK1.out⟩
    case round =>
      obtain ⟨i, hi, rfl, rfl, hW, hK⟩ := hrel
      have HWi := hid hW
      have HK := hid hK
      clear hW hK
      by_cases hlt : i < len
      · obtain ⟨ba, oa, rfl, hba, hca⟩ := HA.out.cell i hlt
        have hc0 := HK.out.cellSome (hca 0 .u64 rfl) (by simp)
        simp only [List.length_cons, List.length_nil, Nat.zero_add, Nat.add_zero, Nat.mul_one] at hc0
        obtain ⟨b00, b01⟩ := bounds_u64 (HA.out.wf i 0 .u64 hlt rfl)
        obtain ⟨x, hx⟩ : ∃ x : Nat, gA i 0 = (x : Int) := ⟨(gA i 0).toNat, by omega⟩
        obtain ⟨s, hs⟩ : ∃ s, Q[i]? = some s := ⟨_, List.getElem?_eq_getElem (by omega)⟩
        obtain ⟨f1, f2, f3⟩ := HF.out.at' i s hs
        simp only [hx, Int.toNat_natCast, hlt, if_true] at f2 f3
        rw [hx] at hc0
        have f2' : s.addr = 0 := by rw [f2]; rfl
        have hand := u64_and_nat x m (by omega) hm
        have hmle := misses_le Q P i
        obtain ⟨ms, hms⟩ : ∃ ms, misses Q P i = ms := ⟨_, rfl⟩
        rw [hms] at hmle ⊢
        have HMS := hid hms
        have HS := hid hs
        have hzz := hid (show (x &&& m = 0 → P s = false) ∧ (x &&& m ≠ 0 → P s = true) by
          rw [← HPD.out]
          constructor
          · intro h; simp [fits, f3, h]
          · intro h; simp [fits, f2', f3, h])
        have hidn : ((s.id : Int) != (i : Int) + 1) = false := by simp; omega
        obtain ⟨z, hz⟩ : ∃ z, x &&& m = z := ⟨_, rfl⟩
        rw [hz] at hand hzz
        clear hca hx hs f1 f2 f3 f2' hz hms
        by_cases e : z = 0
        · have hP := hid (hzz.out.1 e)
          subst e
          clear hidn
          go_wp2_with fail
          go_roundw
          case rel => exact ⟨i + 1, by omega, by rw [misses_no HS.out hP.out, HMS.out]; go_num, by go_num, by rw [left_no HID.out HS.out hP.out]; exact HWi.out, HK.out⟩
          case measure => simp [intOf]; omega
        · have hP := hid (hzz.out.2 e)
          have hne : ((z : Int) == 0) = false := by simp; omega
          have hT := hid (take_some' HWi.out 0 m hm (by rw [HPD.out]; exact left_find HID.out HS.out hP.out) 0 (m : Int) rfl rfl)
          clear e
          go_wp2_with fail
          refine hT.out.mono ?_
          rintro e w3 ⟨rfl, hW3, hK3⟩
          rw [left_yes HID.out HS.out hP.out] at hW3
          have HW3 := hid hW3
          have HK3 := hid hK3
          clear hW3 hK3
          go_wp2_with fail
          go_roundw
          case rel => exact ⟨i + 1, by omega, by rw [misses_yes HS.out hP.out, HMS.out], by go_num, HW3.out, HK.out.trans' HK3.out (fun z hz => .inr (HO.out z (left_owned hz)))⟩
          case measure => simp [intOf]; omega
      · obtain rfl : i = len := by omega
        have hleft := hid (show left Q P i = Q.filter (fun s => !P s) by rw [← hQl]; exact left_end HID.out P)
        have hnone := hid (show (left Q P i).find? (fits 0 m false) = none by
          rw [hleft.out, HPD.out, List.find?_eq_none]
          intro t ht
          obtain ⟨h1, h2⟩ := List.mem_filter.1 ht
          simpa using h2)
        have hln := hid (show (left Q P i).length = misses Q P i by
          rw [hleft.out]
          unfold misses
          rw [List.take_of_length_le (Nat.le_of_eq hQl)])
        have hT := hid (take_none' HWi.out 0 m hm hnone.out 0 (m : Int) rfl rfl)
        go_wp2_with fail
        refine hT.out.mono ?_
        rintro e w3 ⟨rfl, hK3⟩
        have HK3 := hid hK3
        have hL := hid (len_ok (HWi.out.keptN hK3))
        clear hK3
        go_wp2_with fail
        refine hL.out.mono ?_
        rintro e w4 ⟨rfl, rfl⟩
        rw [hln.out]
        go_wp2_with fail
        refine (awake_ok _).mono ?_
        rintro e w5 ⟨rfl, hK5⟩
        have HK5 := hid hK5
        clear hK5
        go_wp2_with fail
        go_ret
        exact ⟨rfl, (HK.out.trans HK3.out).trans HK5.out⟩

end Go.Proofs.Ytenahekdhepnfaa
