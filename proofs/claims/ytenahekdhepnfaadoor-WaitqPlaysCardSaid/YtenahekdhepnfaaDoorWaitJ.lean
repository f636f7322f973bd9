/- package waitq: the law WaitqPlays. -/
import Derived.Test.YtenahekdhepnfaaDoorWaitZ
namespace Go.Proofs.YtenahekdhepnfaaDoor
open Go Go.RowKit

theorem rput_some_x {w : World} {rb : Nat} {U : List Nat} {Q : List Slp} {n : Nat} (h : RQIs w rb U Q n) (hQ : Q.length ≤ 100000) (id addr mask blk : Nat) (h0 : id ≠ 0) (hx : ∀ s, s ∈ Q → s.id ≠ id) :
    Calls Tryd.prog 35 #[.pointer (some ⟨rb, 0, none⟩), .int .u64 id, .int .u64 addr, .int .u64 mask] w fun e w' => e = .returned (.pointer none) ∧ ∃ U', RQIs w' rb U' (Q ++ [⟨id, addr, mask, blk⟩]) n ∧ (∀ y, y ∈ U' → y ∈ U ∨ w.heap.size ≤ y) ∧ Kept U w w' := rput_ok h hQ id addr mask blk h0 hx
theorem put_twice_n {w : World} {qb lb mb n : Nat} {Q : List Slp} (h : WaitsAt w qb lb mb n Q) {s : Slp} (hs : s ∈ Q) (h0 : s.id ≠ 0) (addr mask : Nat) :
    Calls Tryd.prog 15 #[.pointer (some ⟨qb, 0, none⟩), .int .u64 s.id, .int .u64 addr, .int .u64 mask] w fun e w' => ∃ v, e = .returned v ∧ ErrOut sWaitq 0 8 w v w' := put_twice h hs h0 s.id rfl addr mask
theorem put_zero_n {w : World} {qb lb mb n : Nat} {Q : List Slp} (h : WaitsAt w qb lb mb n Q) (id : Nat) (hi : id = 0) (addr mask : Nat) :
    Calls Tryd.prog 15 #[.pointer (some ⟨qb, 0, none⟩), .int .u64 id, .int .u64 addr, .int .u64 mask] w fun e w' => ∃ v, e = .returned v ∧ ErrOut sWaitq 0 1 w v w' := put_zero h id hi addr mask
theorem owned_put {lb mb : Nat} {Q : List Slp} {s : Slp} {x k : Nat} (hs : k ≤ s.blk) (h : x ∈ owned lb mb (Q ++ [s])) : x ∈ owned lb mb Q ∨ k ≤ x := by
  unfold owned at h ⊢
  simp only [List.map_append, List.mem_cons, List.mem_append, List.map_cons, List.map_nil, List.not_mem_nil, or_false] at h ⊢
  rcases h with h | h | h | h
  · exact .inl (.inl h)
  · exact .inl (.inr (.inl h))
  · exact .inl (.inr (.inr h))
  · exact .inr (by omega)
theorem owned_move {lb mb : Nat} {Q : List Slp} {s : Slp} {x : Nat} (to : Nat) (hs : s ∈ Q) (h : x ∈ owned lb mb (rem Q s.id ++ [{ s with addr := to }])) : x ∈ owned lb mb Q := by
  have h' : x ∈ owned lb mb (rem Q s.id) ∨ x = s.blk := by
    unfold owned at h ⊢
    simp only [List.map_append, List.mem_cons, List.mem_append, List.map_cons, List.map_nil, List.not_mem_nil, or_false] at h ⊢
    rcases h with h | h | h | h
    · exact .inl (.inl h)
    · exact .inl (.inr (.inl h))
    · exact .inl (.inr (.inr h))
    · exact .inr h
  rcases h' with h | rfl
  · exact rem_owned h
  · unfold owned
    exact List.mem_cons_of_mem _ (List.mem_cons_of_mem _ (List.mem_map.2 ⟨s, hs, rfl⟩))

set_option maxRecDepth 100000 in
set_option maxHeartbeats 8000000 in
theorem qdo_ok {w0 w : World} {qb lb mb rb n k : Nat} {Q : List Slp} (hB : BothQ w0 qb lb mb rb n Q w) (hg : Laid w) (hn1 : 1 ≤ n) (hn2 : n ≤ 64) (hQ : Q.length ≤ k) (hk : k ≤ 1000) (x0 : Int) (b0 : -9223372036854775808 ≤ x0) (b1 : x0 ≤ 9223372036854775807) (id addr to mask : Nat) (hi : id < 18446744073709551616) (hm : mask < 18446744073709551616) :
    Calls Tryd.prog 19 #[.pointer (some ⟨qb, 0, none⟩), .pointer (some ⟨rb, 0, none⟩), .agg #[.int .i64 x0, .int .u64 id, .int .u64 addr, .int .u64 to, .int .u64 mask]] w fun e w' => e = .returned (.bool true) ∧ ∃ Q', Q'.length ≤ k + 1 ∧ BothQ w0 qb lb mb rb n Q' w' := by
  obtain ⟨w3, hw3⟩ : ∃ w3, w.alloc (.cells #[.int .i64 x0, .int .u64 id, .int .u64 addr, .int .u64 to, .int .u64 mask] 52) = w3 := ⟨_, rfl⟩
  have hX : Blk w3 w.heap.size [.int .i64 x0, .int .u64 id, .int .u64 addr, .int .u64 to, .int .u64 mask] := by rw [← hw3]; exact Blk.newA #[.int .i64 x0, .int .u64 id, .int .u64 addr, .int .u64 to, .int .u64 mask] _ rfl
  have hK3 : Kept [] w w3 := by rw [← hw3]; exact (Kept.refl [] w).alloc _
  have d0 := hX.cell (o := 0) rfl
  have d1 := hX.cell (o := 1) rfl
  have d2 := hX.cell (o := 2) rfl
  have d3 := hX.cell (o := 3) rfl
  have d4 := hX.cell (o := 4) rfl
  have HB3 := hid (hB.keptN hK3)
  have HG3 := hid (hg.keptN hK3)
  obtain ⟨⟨U, hW, hR, hTU, hT0, hU0⟩, hK0⟩ := hB
  have hnT : w.heap.size ∉ owned lb mb Q := fun hm => by have := hW.owned_lt _ hm; omega
  have hnU : w.heap.size ∉ U := fun hm => by have := hR.lt _ hm; omega
  have HF := hid hW.ids
  have HMK := hid (fun s hs => (hW.lt s hs).2)
  have HW := hid (hW.keptN hK3)
  have HR := hid (hR.keptN hK3)
  have HTU := hid hTU
  have HTO := hid (fun x (hx : x ∈ U) (hx2 : x ∈ owned lb mb Q) => hTU x (List.mem_cons_of_mem _ hx2) hx)
  have HT0 := hid hT0
  have HU0 := hid hU0
  have HUL := hid (fun x (hx : x ∈ U) => Nat.lt_of_lt_of_le (hR.lt x hx) hK3.size)
  have HK0 := hid (hK0.trans hK3)
  have HI := hid hi
  have HM := hid hm
  have HWI := hid (fun W => within_ok x0 9 (by decide) b0 b1 (by decide) W)
  obtain ⟨dd, hdd⟩ : ∃ dd, x0 % 9 = dd := ⟨_, rfl⟩
  rw [hdd] at HWI
  clear hX hK3 hg hW hR hTU hT0 hU0 hK0 hi hm b0 b1 hdd
  go_enter Tryd.func19, Tryd.ntmps19
  go_wp2_with fail
  refine (HWI.out _).mono ?_
  rintro e w3' ⟨rfl, rfl⟩
  by_cases e34 : dd = 3 ∨ dd = 4
  · cases hq : Q.find? (fits addr mask false) with
    | none =>
      have HTM := hid (take_none HW.out addr mask HM.out hq)
      have HTR := hid (fun (W : World) (hK : Kept [] w3 W) => rtake_none (HR.out.keptN hK) (by omega) HMK.out addr mask HM.out hq)
      clear hq
      rcases e34 with rfl | rfl
      all_goals
        go_wp2_with fail
        refine (HTM.out).mono ?_
        rintro e w4 ⟨rfl, hK4⟩
        have d1' := hK4.cellSome d1 (by simp)
        have d2' := hK4.cellSome d2 (by simp)
        have d3' := hK4.cellSome d3 (by simp)
        have d4' := hK4.cellSome d4 (by simp)
        have HK4 := hid hK4
        clear hK4
        go_wp2_with fail
        refine (HTR.out _ HK4.out).mono ?_
        rintro e w5 ⟨rfl, rfl⟩
        go_wp2_with fail
        go_ret
        exact ⟨rfl, Q, by omega, HB3.out.keptN HK4.out⟩
    | some s =>
      have HTM := hid (take_some HW.out addr mask HM.out hq)
      have HTR := hid (fun (W : World) (hK : Kept (owned lb mb Q) w3 W) => rtake_some (HR.out.kept hK HTO.out) (by omega) HF.out HMK.out addr mask HM.out hq)
      have hrl : (rem Q s.id).length ≤ Q.length := List.length_filter_le _ _
      clear hq
      rcases e34 with rfl | rfl
      all_goals
        go_wp2_with fail
        refine (HTM.out).mono ?_
        rintro e w4 ⟨rfl, hW4, hK4⟩
        have d1' := hK4.cellSome d1 hnT
        have d2' := hK4.cellSome d2 hnT
        have d3' := hK4.cellSome d3 hnT
        have d4' := hK4.cellSome d4 hnT
        have HW4 := hid hW4
        have HK4 := hid hK4
        clear hW4 hK4
        go_wp2_with fail
        refine (HTR.out _ HK4.out).mono ?_
        rintro e w5 ⟨rfl, U5, hR5, hU5, hK5⟩
        have HST := hid (BothQ.step HK0.out HUL.out HTU.out HT0.out HU0.out HW4.out (fun y hy => .inl (rem_owned hy)) HK4.out hR5 hU5 hK5)
        clear hR5 hU5 hK5
        go_wp2_with fail
        go_ret
        exact ⟨rfl, _, by omega, HST.out⟩
  have h3 : (dd == 3) = false := by simpa using (fun h => e34 (.inl h))
  have h4 : (dd == 4) = false := by simpa using (fun h => e34 (.inr h))
  clear e34
  by_cases e5 : dd = 5
  · subst e5
    cases hq : Q.find? (fits addr 0 true) with
    | none =>
      have HTM := hid (move_none HW.out addr to hq)
      have HTR := hid (fun (W : World) (hK : Kept [] w3 W) => rmove_none (HR.out.keptN hK) (by omega) HMK.out addr to hq)
      clear hq
      go_wp2_with fail
      refine (HTM.out).mono ?_
      rintro e w4 ⟨rfl, hK4⟩
      have d1' := hK4.cellSome d1 (by simp)
      have d2' := hK4.cellSome d2 (by simp)
      have d3' := hK4.cellSome d3 (by simp)
      have d4' := hK4.cellSome d4 (by simp)
      have HK4 := hid hK4
      clear hK4
      go_wp2_with fail
      refine (HTR.out _ HK4.out).mono ?_
      rintro e w5 ⟨rfl, rfl⟩
      go_wp2_with fail
      go_ret
      exact ⟨rfl, Q, by omega, HB3.out.keptN HK4.out⟩
    | some s =>
      have HTM := hid (move_some HW.out addr to hq)
      have HTR := hid (fun (W : World) (hK : Kept (owned lb mb Q) w3 W) => rmove_some (HR.out.kept hK HTO.out) (by omega) HF.out HMK.out addr to hq)
      have HSQ := hid (List.mem_of_find?_eq_some hq)
      have hrl : (rem Q s.id).length ≤ Q.length := List.length_filter_le _ _
      clear hq
      go_wp2_with fail
      refine (HTM.out).mono ?_
      rintro e w4 ⟨rfl, hW4, hK4⟩
      have d1' := hK4.cellSome d1 hnT
      have d2' := hK4.cellSome d2 hnT
      have d3' := hK4.cellSome d3 hnT
      have d4' := hK4.cellSome d4 hnT
      have HW4 := hid hW4
      have HK4 := hid hK4
      clear hW4 hK4
      go_wp2_with fail
      refine (HTR.out _ HK4.out).mono ?_
      rintro e w5 ⟨rfl, U5, hR5, hU5, hK5⟩
      have HST := hid (BothQ.step HK0.out HUL.out HTU.out HT0.out HU0.out HW4.out (fun y hy => .inl (owned_move to HSQ.out hy)) HK4.out hR5 hU5 hK5)
      clear hR5 hU5 hK5
      go_wp2_with fail
      go_ret
      exact ⟨rfl, _, by rw [List.length_append]; simp; omega, HST.out⟩
  have h5 : (dd == 5) = false := by simpa using e5
  clear e5
  by_cases e6 : dd = 6
  · subst e6
    by_cases hx : ∃ s, s ∈ Q ∧ s.id = id
    · obtain ⟨s, hs, rfl⟩ := hx
      have HS := hid hs
      have hrl : (rem Q s.id).length ≤ Q.length := List.length_filter_le _ _
      clear hs
      go_wp2_with fail
      go_region_held3 (fun w' => w'.cell? ⟨w.heap.size, 1, none⟩ = Option.some (.int .u64 s.id)) (first | exact d1 | exact (hK4.cellSome d1 hnT) | exact (hK5.cellSome (hK4.cellSome d1 hnT) hnU)) (first
        | (go_at_call 17; refine (drop_some (HW.out.keptN ((Kept.refl [] _).drew)) HS.out).mono ?_; rintro e w4 ⟨rfl, hW4, -, hK4⟩)
        | (go_at_call 31; refine (rdrop_some ((HR.out.keptN ((Kept.refl [] _).drew)).kept hK4 HTO.out) (by omega) HF.out HS.out).mono ?_; rintro e w5 ⟨rfl, U5, hR5, hU5, hK5⟩))
      have HST := hid (BothQ.step (HK0.out.trans (Kept.refl [] w3).drew) HUL.out HTU.out HT0.out HU0.out hW4 (fun y hy => .inl (rem_owned hy)) hK4 hR5 hU5 hK5)
      clear hW4 hK4 hR5 hU5 hK5
      go_wp2_with fail
      go_ret
      exact ⟨rfl, _, by omega, HST.out⟩
    · have HNO := hid (fun (t : Slp) (ht : t ∈ Q) (e : t.id = id) => hx ⟨t, ht, e⟩)
      clear hx
      go_wp2_with fail
      go_region_held3 (fun w' => w'.cell? ⟨w.heap.size, 1, none⟩ = Option.some (.int .u64 id)) (first | exact d1) (first
        | (go_at_call 17; refine (drop_none (HW.out.keptN ((Kept.refl [] _).drew)) HI.out HNO.out).mono ?_; rintro e w4 ⟨rfl, rfl⟩)
        | (go_at_call 31; refine (rdrop_none (HR.out.keptN ((Kept.refl [] _).drew)) (by omega) id HNO.out).mono ?_; rintro e w5 ⟨rfl, rfl⟩))
      go_wp2_with fail
      go_ret
      exact ⟨rfl, Q, by omega, HB3.out.keptN ((Kept.refl [] w3).drew)⟩
  have h6 : (dd == 6) = false := by simpa using e6
  clear e6
  by_cases e7 : dd = 7
  · subst e7
    go_wp2_with fail
    go_region_held3 (fun w' => w'.cell? ⟨w.heap.size, 2, none⟩ = Option.some (.int .u64 addr) ∧ w'.cell? ⟨w.heap.size, 4, none⟩ = Option.some (.int .u64 mask)) (first | exact ⟨d2, d4⟩ | exact ⟨(hK4.cellSome d2 (by simp)), (hK4.cellSome d4 (by simp))⟩) (first
      | (go_at_call 32; refine (has_ok (HW.out.keptN ((Kept.refl [] _).drew)) addr mask HM.out).mono ?_; rintro e w4 ⟨rfl, hK4⟩)
      | (go_at_call 33; refine (rhas_ok ((HR.out.keptN ((Kept.refl [] _).drew)).keptN hK4) (by omega) HMK.out addr mask HM.out).mono ?_; rintro e w5 ⟨rfl, rfl⟩))
    have HKK := hid ((Kept.refl [] w3).drew.trans hK4)
    clear hK4
    go_wp2_with fail
    go_ret
    exact ⟨by simp, Q, by omega, HB3.out.keptN HKK.out⟩
  have h7 : (dd == 7) = false := by simpa using e7
  clear e7
  by_cases e8 : dd = 8
  · subst e8
    by_cases hx : ∃ s, s ∈ Q ∧ s.id = id
    · obtain ⟨s, hs, rfl⟩ := hx
      have HTM := hid (where_some HW.out hs)
      have HTR := hid (fun (W : World) (hK : Kept [] w3 W) => rwhere_some (HR.out.keptN hK) hn1 hn2 (by omega) HF.out hs)
      clear hs
      go_wp2_with fail
      refine (HTM.out).mono ?_
      rintro e w4 ⟨rfl, hK4⟩
      have d1' := hK4.cellSome d1 (by simp)
      have HK4 := hid hK4
      clear hK4
      go_wp2_with fail
      refine (HTR.out _ HK4.out).mono ?_
      rintro e w5 ⟨rfl, hK5⟩
      have HK5 := hid (HK4.out.trans hK5)
      clear hK5
      go_wp2_with fail
      go_ret
      exact ⟨rfl, Q, by omega, HB3.out.keptN HK5.out⟩
    · have HNO := hid (fun (t : Slp) (ht : t ∈ Q) (e : t.id = id) => hx ⟨t, ht, e⟩)
      have HTM := hid (where_none HW.out HI.out HNO.out)
      have HTR := hid (rwhere_none HR.out (by omega) id HNO.out)
      clear hx
      go_wp2_with fail
      refine HTM.out.mono ?_
      rintro e w4 ⟨rfl, rfl⟩
      go_wp2_with fail
      refine HTR.out.mono ?_
      rintro e w5 ⟨rfl, rfl⟩
      go_wp2_with fail
      go_ret
      exact ⟨rfl, Q, by omega, HB3.out⟩
  have h8 : (dd == 8) = false := by simpa using e8
  clear e8
  by_cases hx0 : id = 0
  · have HX0 := hid hx0
    clear hx0
    go_wp2_with fail
    go_region_held3 (fun w' => w'.cell? ⟨w.heap.size, 1, none⟩ = Option.some (.int .u64 id) ∧ w'.cell? ⟨w.heap.size, 2, none⟩ = Option.some (.int .u64 addr) ∧ w'.cell? ⟨w.heap.size, 4, none⟩ = Option.some (.int .u64 mask)) (first | exact ⟨d1, d2, d4⟩ | exact ⟨(hK4.cellSome d1 (by simp)), (hK4.cellSome d2 (by simp)), (hK4.cellSome d4 (by simp))⟩ | exact ⟨(hK5.cellSome (hK4.cellSome d1 (by simp)) (by simp)), (hK5.cellSome (hK4.cellSome d2 (by simp)) (by simp)), (hK5.cellSome (hK4.cellSome d4 (by simp)) (by simp))⟩ | exact ⟨(hK6.cellSome (hK5.cellSome (hK4.cellSome d1 (by simp)) (by simp)) (by simp)), (hK6.cellSome (hK5.cellSome (hK4.cellSome d2 (by simp)) (by simp)) (by simp)), (hK6.cellSome (hK5.cellSome (hK4.cellSome d4 (by simp)) (by simp)) (by simp))⟩) (first
      | (go_at_call 15; refine (put_zero_n (HW.out.keptN ((Kept.refl [] _).drew)) id HX0.out addr mask).mono ?_; rintro e w4 ⟨v4, rfl, be, rfl, hbe, hB4, hK4⟩)
      | (go_at_call 35; refine (rput_zero ((HR.out.keptN ((Kept.refl [] _).drew)).keptN hK4) id addr mask HX0.out).mono ?_; rintro e w5 ⟨fb, rfl, hF5, hK5⟩)
      | (go_at_call 7; refine (same_hit be fb sWaitq 0 1 (by decide) (by decide) _ ((HG3.out.keptN ((Kept.refl [] _).drew)).keptN (hK4.trans hK5)) (hB4.keptN hK5) hF5).mono ?_; rintro e w6 ⟨rfl, hK6⟩))
    have HKK := hid (((Kept.refl [] w3).drew.trans (hK4.trans hK5)).trans hK6)
    clear hB4 hK4 hF5 hK5 hK6
    go_wp2_with fail
    go_ret
    exact ⟨rfl, Q, by omega, HB3.out.keptN HKK.out⟩
  · by_cases hx : ∃ s, s ∈ Q ∧ s.id = id
    · obtain ⟨s, hs, rfl⟩ := hx
      have HS := hid hs
      have HX0 := hid hx0
      clear hs hx0
      go_wp2_with fail
      go_region_held3 (fun w' => w'.cell? ⟨w.heap.size, 1, none⟩ = Option.some (.int .u64 s.id) ∧ w'.cell? ⟨w.heap.size, 2, none⟩ = Option.some (.int .u64 addr) ∧ w'.cell? ⟨w.heap.size, 4, none⟩ = Option.some (.int .u64 mask)) (first | exact ⟨d1, d2, d4⟩ | exact ⟨(hK4.cellSome d1 (by simp)), (hK4.cellSome d2 (by simp)), (hK4.cellSome d4 (by simp))⟩ | exact ⟨(hK5.cellSome (hK4.cellSome d1 (by simp)) (by simp)), (hK5.cellSome (hK4.cellSome d2 (by simp)) (by simp)), (hK5.cellSome (hK4.cellSome d4 (by simp)) (by simp))⟩ | exact ⟨(hK6.cellSome (hK5.cellSome (hK4.cellSome d1 (by simp)) (by simp)) (by simp)), (hK6.cellSome (hK5.cellSome (hK4.cellSome d2 (by simp)) (by simp)) (by simp)), (hK6.cellSome (hK5.cellSome (hK4.cellSome d4 (by simp)) (by simp)) (by simp))⟩) (first
        | (go_at_call 15; refine (put_twice_n (HW.out.keptN ((Kept.refl [] _).drew)) HS.out HX0.out addr mask).mono ?_; rintro e w4 ⟨v4, rfl, be, rfl, hbe, hB4, hK4⟩)
        | (go_at_call 35; refine (rput_twice ((HR.out.keptN ((Kept.refl [] _).drew)).keptN hK4) (by omega) HF.out HS.out HX0.out addr mask).mono ?_; rintro e w5 ⟨fb, rfl, hF5, hK5⟩)
        | (go_at_call 7; refine (same_hit be fb sWaitq 0 8 (by decide) (by decide) _ ((HG3.out.keptN ((Kept.refl [] _).drew)).keptN (hK4.trans hK5)) (hB4.keptN hK5) hF5).mono ?_; rintro e w6 ⟨rfl, hK6⟩))
      have HKK := hid (((Kept.refl [] w3).drew.trans (hK4.trans hK5)).trans hK6)
      clear hB4 hK4 hF5 hK5 hK6
      go_wp2_with fail
      go_ret
      exact ⟨rfl, Q, by omega, HB3.out.keptN HKK.out⟩
    · have HNO := hid (fun (t : Slp) (ht : t ∈ Q) (e : t.id = id) => hx ⟨t, ht, e⟩)
      have HX0 := hid hx0
      clear hx hx0
      go_wp2_with fail
      go_region_held3 (fun w' => w'.cell? ⟨w.heap.size, 1, none⟩ = Option.some (.int .u64 id) ∧ w'.cell? ⟨w.heap.size, 2, none⟩ = Option.some (.int .u64 addr) ∧ w'.cell? ⟨w.heap.size, 4, none⟩ = Option.some (.int .u64 mask)) (first | exact ⟨d1, d2, d4⟩ | exact ⟨(hK4.cellSome d1 hnT), (hK4.cellSome d2 hnT), (hK4.cellSome d4 hnT)⟩ | exact ⟨(hK5.cellSome (hK4.cellSome d1 hnT) hnU), (hK5.cellSome (hK4.cellSome d2 hnT) hnU), (hK5.cellSome (hK4.cellSome d4 hnT) hnU)⟩) (first
        | (go_at_call 15; refine (put_ok (HW.out.keptN ((Kept.refl [] _).drew)) id addr mask HX0.out HI.out HM.out HNO.out).mono ?_; rintro e w4 ⟨sb, rfl, hsb, hW4, hK4⟩)
        | (go_at_call 35; refine (rput_ok ((HR.out.keptN ((Kept.refl [] _).drew)).kept hK4 HTO.out) (by omega) id addr mask sb HX0.out HNO.out).mono ?_; rintro e w5 ⟨rfl, U5, hR5, hU5, hK5⟩)
        | (go_at_call 7; refine (same_nil_nil _).mono ?_; rintro e w6 ⟨rfl, rfl⟩))
      have HST := hid (BothQ.step (HK0.out.trans (Kept.refl [] w3).drew) HUL.out HTU.out HT0.out HU0.out hW4 (fun y hy => owned_put hsb hy) hK4 hR5 hU5 hK5)
      clear hW4 hK4 hR5 hU5 hK5
      go_wp2_with fail
      go_ret
      exact ⟨rfl, _, by rw [List.length_append]; simp; omega, HST.out⟩

end Go.Proofs.YtenahekdhepnfaaDoor
