/- The document's queues (distaffref09): first, Put, Take, Has, Drop, Where: contracts. -/
import Derived.Test.YtenahekdhepnfaaDoorWaitR
namespace Go.Proofs.YtenahekdhepnfaaDoor
open Go Go.RowKit

theorem rbucket_ok (a n : Nat) (hn : 1 ≤ n) (hn2 : n ≤ 9223372036854775807) (w : World) :
    Calls Tryd.prog 48 #[.int .u64 a, .int .i64 n] w fun e w' => e = .returned (.int .i64 (bktN a n)) ∧ w = w' := by
  have HE := hid (bkt_eq a n hn hn2)
  go_enter Tryd.func48, Tryd.ntmps48
  go_wp2_with fail
  go_ret
  exact ⟨ret_int HE.out, rfl⟩

/-- The place of the first one that P means. -/
theorem find_place {Q : List Slp} {P : Slp → Bool} {s : Slp} (h : Q.find? P = some s) : ∃ p, p < Q.length ∧ Q[p]? = some s ∧ P s = true ∧ ∀ (j : Nat) (t : Slp), j < p → Q[j]? = some t → P t = false := by
  rw [List.find?_eq_some_iff_getElem] at h
  obtain ⟨h1, i, hi, e, h2⟩ := h
  refine ⟨i, hi, by rw [List.getElem?_eq_getElem hi, e], h1, fun j t hj ht => ?_⟩
  have := h2 j hj
  obtain ⟨hjl, e2⟩ := List.getElem?_eq_some_iff.1 ht
  rw [e2] at this
  simpa using this

set_option maxRecDepth 100000 in
set_option maxHeartbeats 2000000 in
theorem rfirst_ok {w : World} {rb : Nat} {U : List Nat} {Q : List Slp} {n : Nat} (h : RQIs w rb U Q n) (hQ : Q.length ≤ 100000) (hlt : ∀ s, s ∈ Q → s.mask < 18446744073709551616) (addr mask : Nat) (hm : mask < 18446744073709551616) (each : Bool) {p : Nat}
    (hp1 : ∀ (j : Nat) (s : Slp), j < p → Q[j]? = some s → fits addr mask each s = false) (hp2 : ∀ s, Q[p]? = some s → fits addr mask each s = true) :
    Calls Tryd.prog 45 #[.pointer (some ⟨rb, 0, none⟩), .int .u64 addr, .int .u64 mask, .bool each] w fun e w' => e = .returned (.int .i64 (placeI p Q.length)) ∧ w = w' := by
  obtain ⟨v, rfl, h⟩ := h
  obtain ⟨m, hm'⟩ : ∃ m, Q.length = m := ⟨_, rfl⟩
  have hrow := h.row
  rw [hm'] at hQ hrow ⊢
  obtain ⟨av, cv, rfl⟩ := own_form' hrow
  have c0 := h.head.cell (o := 0) rfl
  have H := hid h
  have HM := hid hm'
  have HP1 := hid hp1
  have HP2 := hid hp2
  have HLT := hid hlt
  have HMK := hid hm
  clear h hm' hrow hp1 hp2 hlt hm
  go_enter Tryd.func45, Tryd.ntmps45
  go_wp2_with fail
  go_loop [9] (fun s9 => ∃ k : Nat, k ≤ p ∧ s9 = .int .i64 k) (fun s9 => m - (intOf s9).toNat)
  case atStart => exact ⟨0, Nat.zero_le _, rfl⟩
  case round =>
    obtain ⟨k, hk, rfl⟩ := hrel
    by_cases hkm : k < m
    · obtain ⟨s, hs⟩ : ∃ s, Q[k]? = some s := ⟨_, List.getElem?_eq_getElem (by rw [HM.out]; exact hkm)⟩
      obtain ⟨g, rfl, -, d1, d2⟩ := H.out.cells HM.out hs
      have hand := u64_and_nat s.mask mask (HLT.out s (List.mem_of_getElem? hs)) HMK.out
      obtain ⟨x, hx⟩ : ∃ x, s.mask &&& mask = x := ⟨_, rfl⟩
      rw [hx] at hand
      by_cases hkp : k = p
      · have hf := HP2.out s (by rw [← hkp]; exact hs)
        have HE := hid hkp
        unfold fits at hf
        simp only [Bool.and_eq_true, Bool.or_eq_true, beq_iff_eq, decide_eq_true_eq] at hf
        obtain ⟨hf1, hf2⟩ := hf
        rw [hx] at hf2
        have hb : ((s.addr : Int) == (addr : Int)) = true := by simp [hf1]
        have hx0 : each = false → ((x : Int) != 0) = true := fun e => by
          rcases hf2 with h | h
          · rw [e] at h; cases h
          · simpa using h
        clear hs hx hkp hf1 hf2
        cases each
        · have hx1 := hx0 rfl
          clear hx0
          go_wp2_with fail
          go_ret
          exact ⟨ret_int (by rw [placeI_lt (by rw [← HE.out]; exact hkm), HE.out]), rfl⟩
        · clear hx0
          go_wp2_with fail
          go_ret
          exact ⟨ret_int (by rw [placeI_lt (by rw [← HE.out]; exact hkm), HE.out]), rfl⟩
      · have hf := HP1.out k s (by omega) hs
        unfold fits at hf
        by_cases ha : s.addr = addr
        · have hb : ((s.addr : Int) == (addr : Int)) = true := by simp [ha]
          rw [ha, hx] at hf
          simp only [beq_self_eq_true, Bool.true_and, Bool.or_eq_false_iff, decide_eq_false_iff_not, Decidable.not_not] at hf
          obtain ⟨rfl, hx0⟩ := hf
          have hx1 : ((x : Int) != 0) = false := by simp [hx0]
          clear hs hx ha hx0
          go_wp2_with fail
          go_round
          case rel => exact ⟨k + 1, by omega, by go_num⟩
          case measure => simp [intOf]; omega
        · have hb : ((s.addr : Int) == (addr : Int)) = false := by simp; omega
          clear hs hx ha hf
          go_wp2_with fail
          go_round
          case rel => exact ⟨k + 1, by omega, by go_num⟩
          case measure => simp [intOf]; omega
    · go_wp2_with fail
      go_ret
      exact ⟨ret_int (by rw [placeI_ge (by omega)]), rfl⟩

set_option maxRecDepth 100000 in
set_option maxHeartbeats 1000000 in
theorem rhas_ok {w : World} {rb : Nat} {U : List Nat} {Q : List Slp} {n : Nat} (h : RQIs w rb U Q n) (hQ : Q.length ≤ 100000) (hlt : ∀ s, s ∈ Q → s.mask < 18446744073709551616) (addr mask : Nat) (hm : mask < 18446744073709551616) :
    Calls Tryd.prog 33 #[.pointer (some ⟨rb, 0, none⟩), .int .u64 addr, .int .u64 mask] w fun e w' => e = .returned (.bool (Q.find? (fits addr mask false)).isSome) ∧ w = w' := by
  cases hq : Q.find? (fits addr mask false) with
  | none =>
    have HF := hid (rfirst_ok h hQ hlt addr mask hm false (p := Q.length) (fun j s _ hs => by simpa using List.find?_eq_none.1 hq s (List.mem_of_getElem? hs)) (fun s hs => by rw [List.getElem?_eq_none (Nat.le_refl _)] at hs; cases hs))
    rw [placeI_ge (Nat.le_refl _)] at HF
    clear h hq hlt hm
    go_enter Tryd.func33, Tryd.ntmps33
    go_wp2_with fail
    refine HF.out.mono ?_
    rintro e w1 ⟨rfl, rfl⟩
    go_wp2_with fail
    go_ret
    exact ⟨rfl, rfl⟩
  | some s =>
    obtain ⟨p, hp, hs, hP, hbf⟩ := find_place hq
    have HF := hid (rfirst_ok h hQ hlt addr mask hm false (p := p) hbf (fun t ht => by rw [hs] at ht; cases ht; exact hP))
    rw [placeI_lt hp] at HF
    have hge : (0 : Int) ≤ (p : Int) := by omega
    clear h hq hs hP hbf hlt hm
    go_enter Tryd.func33, Tryd.ntmps33
    go_wp2_with fail
    refine HF.out.mono ?_
    rintro e w1 ⟨rfl, rfl⟩
    go_wp2_with fail
    go_ret
    exact ⟨rfl, rfl⟩

set_option maxRecDepth 100000 in
set_option maxHeartbeats 1000000 in
theorem rtake_none {w : World} {rb : Nat} {U : List Nat} {Q : List Slp} {n : Nat} (h : RQIs w rb U Q n) (hQ : Q.length ≤ 100000) (hlt : ∀ s, s ∈ Q → s.mask < 18446744073709551616) (addr mask : Nat) (hm : mask < 18446744073709551616) (hq : Q.find? (fits addr mask false) = none) :
    Calls Tryd.prog 29 #[.pointer (some ⟨rb, 0, none⟩), .int .u64 addr, .int .u64 mask] w fun e w' => e = .returned (.tuple #[.int .u64 0, .bool false]) ∧ w = w' := by
  have HF := hid (rfirst_ok h hQ hlt addr mask hm false (p := Q.length) (fun j s _ hs => by simpa using List.find?_eq_none.1 hq s (List.mem_of_getElem? hs)) (fun s hs => by rw [List.getElem?_eq_none (Nat.le_refl _)] at hs; cases hs))
  rw [placeI_ge (Nat.le_refl _)] at HF
  clear h hq hlt hm
  go_enter Tryd.func29, Tryd.ntmps29
  go_wp2_with fail
  refine HF.out.mono ?_
  rintro e w1 ⟨rfl, rfl⟩
  go_wp2_with fail
  go_ret2
  exact ⟨rfl, rfl⟩
set_option maxRecDepth 100000 in
set_option maxHeartbeats 1000000 in
theorem rtake_some {w : World} {rb : Nat} {U : List Nat} {Q : List Slp} {n : Nat} (h : RQIs w rb U Q n) (hQ : Q.length ≤ 100000) (hnd : (Q.map (·.id)).Nodup) (hlt : ∀ s, s ∈ Q → s.mask < 18446744073709551616) (addr mask : Nat) (hm : mask < 18446744073709551616) {s : Slp} (hq : Q.find? (fits addr mask false) = some s) :
    Calls Tryd.prog 29 #[.pointer (some ⟨rb, 0, none⟩), .int .u64 addr, .int .u64 mask] w fun e w' => e = .returned (.tuple #[.int .u64 s.id, .bool true]) ∧ ∃ U', RQIs w' rb U' (rem Q s.id) n ∧ (∀ y, y ∈ U' → y ∈ U ∨ w.heap.size ≤ y) ∧ Kept U w w' := by
  obtain ⟨p, hp, hs, hP, hbf⟩ := find_place hq
  have HF := hid (rfirst_ok h hQ hlt addr mask hm false (p := p) hbf (fun t ht => by rw [hs] at ht; cases ht; exact hP))
  rw [placeI_lt hp] at HF
  have HO := hid (rout_ok h hQ hnd hs)
  have hge : ¬ (p : Int) < 0 := by omega
  have hf : ∀ (W : World) (a b c : Value), (Instr.field 102 (.agg #[a, b, c]) 0).run Tryd.prog W = .ok a W := fun _ _ _ _ => by kernel_rfl
  clear h hq hs hP hbf hlt hm hnd
  go_enter Tryd.func29, Tryd.ntmps29
  go_wp2_with fail
  refine HF.out.mono ?_
  rintro e w1 ⟨rfl, rfl⟩
  go_wp2_with fail
  refine HO.out.mono ?_
  rintro e w1 ⟨rfl, r⟩
  have R := hid r
  clear r
  go_wp2_with fail
  go_ret2
  exact ⟨rfl, R.out⟩

/-- The place of an id. -/
theorem id_place {Q : List Slp} (hnd : (Q.map (·.id)).Nodup) {s : Slp} (hs : s ∈ Q) : ∃ p, p < Q.length ∧ Q[p]? = some s ∧ ∀ (j : Nat) (t : Slp), j < p → Q[j]? = some t → t.id ≠ s.id := by
  obtain ⟨p, hp⟩ := List.getElem?_of_mem hs
  have hpl := (List.getElem?_eq_some_iff.1 hp).1
  refine ⟨p, hpl, hp, fun j t hj ht e => ?_⟩
  have hjl := (List.getElem?_eq_some_iff.1 ht).1
  have h1 := List.pairwise_iff_getElem.1 hnd j p (by simpa using hjl) (by simpa using hpl) hj
  simp only [List.getElem_map] at h1
  rw [List.getElem?_eq_getElem hjl] at ht
  rw [List.getElem?_eq_getElem hpl] at hp
  rw [Option.some.inj ht, Option.some.inj hp] at h1
  exact h1 e
theorem rfind_some {w : World} {rb : Nat} {U : List Nat} {Q : List Slp} {n : Nat} (h : RQIs w rb U Q n) (hQ : Q.length ≤ 100000) {p : Nat} {s : Slp} (hpl : p < Q.length) (hs : Q[p]? = some s) (hbf : ∀ (j : Nat) (t : Slp), j < p → Q[j]? = some t → t.id ≠ s.id) :
    Calls Tryd.prog 47 #[.pointer (some ⟨rb, 0, none⟩), .int .u64 s.id] w fun e w' => e = .returned (.int .i64 p) ∧ w = w' := by
  have h1 := rfind_ok h hQ s.id (p := p) hbf (fun t ht => by rw [hs] at ht; cases ht; rfl)
  rw [placeI_lt hpl] at h1
  exact h1
theorem rfind_none {w : World} {rb : Nat} {U : List Nat} {Q : List Slp} {n : Nat} (h : RQIs w rb U Q n) (hQ : Q.length ≤ 100000) (x : Nat) (hx : ∀ s, s ∈ Q → s.id ≠ x) :
    Calls Tryd.prog 47 #[.pointer (some ⟨rb, 0, none⟩), .int .u64 x] w fun e w' => e = .returned (.int .i64 (-1)) ∧ w = w' := by
  have h1 := rfind_ok h hQ x (p := Q.length) (fun j s _ hs => hx s (List.mem_of_getElem? hs)) (fun s hs => by rw [List.getElem?_eq_none (Nat.le_refl _)] at hs; cases hs)
  rw [placeI_ge (Nat.le_refl _)] at h1
  exact h1

set_option maxRecDepth 100000 in
set_option maxHeartbeats 1000000 in
theorem rdrop_none {w : World} {rb : Nat} {U : List Nat} {Q : List Slp} {n : Nat} (h : RQIs w rb U Q n) (hQ : Q.length ≤ 100000) (x : Nat) (hx : ∀ s, s ∈ Q → s.id ≠ x) :
    Calls Tryd.prog 31 #[.pointer (some ⟨rb, 0, none⟩), .int .u64 x] w fun e w' => e = .returned (.bool false) ∧ w = w' := by
  have HF := hid (rfind_none h hQ x hx)
  clear h hx
  go_enter Tryd.func31, Tryd.ntmps31
  go_wp2_with fail
  refine HF.out.mono ?_
  rintro e w1 ⟨rfl, rfl⟩
  go_wp2_with fail
  go_ret
  exact ⟨rfl, rfl⟩
set_option maxRecDepth 100000 in
set_option maxHeartbeats 1000000 in
theorem rdrop_some {w : World} {rb : Nat} {U : List Nat} {Q : List Slp} {n : Nat} (h : RQIs w rb U Q n) (hQ : Q.length ≤ 100000) (hnd : (Q.map (·.id)).Nodup) {s : Slp} (hs : s ∈ Q) :
    Calls Tryd.prog 31 #[.pointer (some ⟨rb, 0, none⟩), .int .u64 s.id] w fun e w' => e = .returned (.bool true) ∧ ∃ U', RQIs w' rb U' (rem Q s.id) n ∧ (∀ y, y ∈ U' → y ∈ U ∨ w.heap.size ≤ y) ∧ Kept U w w' := by
  obtain ⟨p, hpl, hp, hbf⟩ := id_place hnd hs
  have HF := hid (rfind_some h hQ hpl hp hbf)
  have HO := hid (rout_ok h hQ hnd hp)
  have hge : (0 : Int) ≤ (p : Int) := by omega
  clear h hs hp hbf hnd
  go_enter Tryd.func31, Tryd.ntmps31
  go_wp2_with fail
  refine HF.out.mono ?_
  rintro e w1 ⟨rfl, rfl⟩
  go_wp2_with fail
  refine HO.out.mono ?_
  rintro e w1 ⟨rfl, r⟩
  have R := hid r
  clear r
  go_wp2_with fail
  go_ret
  exact ⟨rfl, R.out⟩

set_option maxRecDepth 100000 in
set_option maxHeartbeats 1000000 in
theorem rwhere_none {w : World} {rb : Nat} {U : List Nat} {Q : List Slp} {n : Nat} (h : RQIs w rb U Q n) (hQ : Q.length ≤ 100000) (x : Nat) (hx : ∀ s, s ∈ Q → s.id ≠ x) :
    Calls Tryd.prog 34 #[.pointer (some ⟨rb, 0, none⟩), .int .u64 x] w fun e w' => e = .returned (.tuple #[.int .u64 0, .int .u64 0, .int .i64 0, .bool false]) ∧ w = w' := by
  have HF := hid (rfind_none h hQ x hx)
  clear h hx
  go_enter Tryd.func34, Tryd.ntmps34
  go_wp2_with fail
  refine HF.out.mono ?_
  rintro e w1 ⟨rfl, rfl⟩
  go_wp2_with fail
  refine bodyPost_ret (results_four rfl _ _) rfl ?_
  exact ⟨rfl, rfl⟩
set_option maxRecDepth 100000 in
set_option maxHeartbeats 2000000 in
theorem rwhere_some {w : World} {rb : Nat} {U : List Nat} {Q : List Slp} {n : Nat} (h : RQIs w rb U Q n) (hn1 : 1 ≤ n) (hn2 : n ≤ 64) (hQ : Q.length ≤ 100000) (hnd : (Q.map (·.id)).Nodup) {s : Slp} (hs : s ∈ Q) :
    Calls Tryd.prog 34 #[.pointer (some ⟨rb, 0, none⟩), .int .u64 s.id] w fun e w' => e = .returned (.tuple #[.int .u64 s.addr, .int .u64 s.mask, .int .i64 (bktN s.addr n), .bool true]) ∧ Kept [] w w' := by
  obtain ⟨p, hpl, hp, hbf⟩ := id_place hnd hs
  have HF := hid (rfind_some h hQ hpl hp hbf)
  obtain ⟨v, rfl, h⟩ := h
  obtain ⟨m, hm⟩ : ∃ m, Q.length = m := ⟨_, rfl⟩
  have hrow := h.row
  rw [hm] at hQ hrow hpl
  obtain ⟨av, cv, rfl⟩ := own_form' hrow
  have c0 := h.head.cell (o := 0) rfl
  have c1 := h.head.cell (o := 1) rfl
  obtain ⟨g, rfl, -, d1, d2⟩ := h.cells hm hp
  have HB := hid (fun W => rbucket_ok s.addr n hn1 (by omega) W)
  have hge : ¬ (p : Int) < 0 := by omega
  have hp0 : (0 : Int) ≤ (p : Int) := by omega
  have hpm : (p : Int) < (m : Int) := by omega
  clear h hs hp hbf hnd hm hrow
  go_enter Tryd.func34, Tryd.ntmps34
  go_wp2_with fail
  refine HF.out.mono ?_
  rintro e w1 ⟨rfl, rfl⟩
  go_wp2_with fail
  go_quiet ((go_at_call 48; exact Calls.quiet_of_same ((HB.out _).mono fun _ _ h => ⟨h.1, h.2.symm⟩)))
  rename_i nq
  go_wp2_with fail
  refine bodyPost_ret (results_four rfl _ _) rfl ?_
  exact ⟨rfl, (Kept.refl _ _).drewN nq⟩

end Go.Proofs.YtenahekdhepnfaaDoor
