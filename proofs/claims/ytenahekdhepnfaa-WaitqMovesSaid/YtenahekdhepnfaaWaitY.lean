/- package waitq: the law WaitqMoves. -/
import Derived.Test.YtenahekdhepnfaaWaitX
namespace Go.Proofs.Ytenahekdhepnfaa
open Go Go.RowKit

def wOut (Q : List Slp) (a b k : Nat) : List Int := if k = 0 then [] else if k = 1 then idsW Q b else idsW Q b ++ idsW Q a
def wAt (Q : List Slp) (a b k i : Nat) : List Int := wOut Q a b k ++ idsW (Q.take i) (if k = 0 then b else a)
theorem wOut_length (Q : List Slp) (a b k : Nat) : (wOut Q a b k).length ≤ 2 * Q.length := by
  have h1 := idsW_length Q a
  have h2 := idsW_length Q b
  unfold wOut
  split
  · simp
  · split
    · omega
    · rw [List.length_append]; omega
theorem wAt_length (Q : List Slp) (a b k i : Nat) : (wAt Q a b k i).length ≤ 3 * Q.length := by
  have h1 := wOut_length Q a b k
  have h2 := idsW_length (Q.take i) (if k = 0 then b else a)
  have h3 : (Q.take i).length ≤ Q.length := by rw [List.length_take]; omega
  unfold wAt
  rw [List.length_append]
  omega
theorem wAt_step {Q : List Slp} {i : Nat} {s : Slp} (hs : Q[i]? = some s) (a b k : Nat) : wAt Q a b k (i + 1) = if s.addr = (if k = 0 then b else a) then wAt Q a b k i ++ [(s.id : Int)] else wAt Q a b k i := by
  unfold wAt
  generalize (if k = 0 then b else a) = tgt
  rw [idsW_take hs]
  by_cases e : s.addr = tgt
  · rw [if_pos e, if_pos e, List.append_assoc]
  · rw [if_neg e, if_neg e]
theorem wAt_end {Q : List Slp} {len : Nat} (h : Q.length = len) (a b k : Nat) (hk : k < 2) : wAt Q a b k len = wOut Q a b (k + 1) := by
  unfold wAt wOut
  rw [List.take_of_length_le (Nat.le_of_eq h)]
  rcases (show k = 0 ∨ k = 1 by omega) with rfl | rfl
  · simp
  · simp

/-- While the moves go on. -/
structure Moving (w0 w1 : World) (qb lb mb a b base : Nat) (blks : List Nat) (Q0 : List Slp) (W : List Int) (v : Value) (w : World) (Q : List Slp) : Prop where
  waits : WaitsAt w qb lb mb 4 Q
  ids : idsW Q b ++ idsW Q a = W
  masks : ∀ s, s ∈ Q → s.mask = 1
  fro : ∀ x, x ∈ blks → ∃ t, t ∈ Q ∧ t.blk = x
  own : ∀ x, x ∈ owned lb mb Q → x ∈ owned lb mb Q0
  row : w.ownsRow base 23 1 v W.length (GVx W)
  kept : Kept [] w0 w

theorem Moving.step {w0 w1 w w' : World} {qb lb mb a b base : Nat} {blks : List Nat} {Q0 : List Slp} {W : List Int} {v : Value} {Q : List Slp} (h : Moving w0 w1 qb lb mb a b base blks Q0 W v w Q) {s : Slp} (hf : Q.find? (fun t => t.addr == a) = some s) (hab : a ≠ b)
    (hO : ∀ x, x ∈ owned lb mb Q0 → w0.heap.size ≤ x ∧ x < base) (hW : WaitsAt w' qb lb mb 4 (rem Q s.id ++ [{ s with addr := b }])) (hK : Kept (owned lb mb Q) w w') : Moving w0 w1 qb lb mb a b base blks Q0 W v w' (rem Q s.id ++ [{ s with addr := b }]) := by
  have hs := List.mem_of_find?_eq_some hf
  have ha : s.addr = a := by have := List.find?_some hf; simpa using this
  refine ⟨hW, ?_, ?_, ?_, ?_, ?_, ?_⟩
  · rw [idsW_append, idsW_append, idsW_other h.waits.ids hs (by omega)]
    have h1 : idsW [{ s with addr := b }] b = [(s.id : Int)] := by simp [idsW]
    have h2 : idsW [{ s with addr := b }] a = [] := by simp [idsW]; omega
    rw [h1, h2, List.append_nil, ← h.ids, idsW_first h.waits.ids hf]
    simp
  · intro t ht
    rcases List.mem_append.1 ht with h1 | h1
    · exact h.masks t (List.mem_filter.1 h1).1
    · rw [List.mem_singleton.1 h1]; exact h.masks s hs
  · intro x hx
    obtain ⟨t, ht, rfl⟩ := h.fro x hx
    by_cases e : t.id = s.id
    · obtain rfl := uniq h.waits.ids ht hs e
      exact ⟨{ t with addr := b }, by simp, rfl⟩
    · exact ⟨t, List.mem_append.2 (.inl (List.mem_filter.2 ⟨ht, by simpa using e⟩)), rfl⟩
  · intro x hx
    refine h.own x ?_
    unfold owned at hx ⊢
    rcases List.mem_cons.1 hx with rfl | hx
    · simp
    rcases List.mem_cons.1 hx with rfl | hx
    · simp
    · obtain ⟨t, ht, rfl⟩ := List.mem_map.1 hx
      refine List.mem_cons_of_mem _ (List.mem_cons_of_mem _ ?_)
      rcases List.mem_append.1 ht with h1 | h1
      · exact List.mem_map.2 ⟨t, (List.mem_filter.1 h1).1, rfl⟩
      · rw [List.mem_singleton.1 h1]; exact List.mem_map.2 ⟨s, hs, rfl⟩
  · exact own_kept h.row hK (fun x hx hm => by have := own_ge h.row x hx; have := (hO x (h.own x hm)).2; omega)
  · exact h.kept.trans' hK (fun x hx => .inr (hO x (h.own x hx)).1)

theorem Moving.keptN {w0 w1 w w' : World} {qb lb mb a b base : Nat} {blks : List Nat} {Q0 : List Slp} {W : List Int} {v : Value} {Q : List Slp} (h : Moving w0 w1 qb lb mb a b base blks Q0 W v w Q) (k : Kept [] w w') : Moving w0 w1 qb lb mb a b base blks Q0 W v w' Q :=
  ⟨h.waits.keptN k, h.ids, h.masks, h.fro, h.own, own_keptN h.row k, h.kept.trans k⟩

/-- While they are taken. -/
structure Taking (w0 : World) (qb lb mb a b base : Nat) (Q0 : List Slp) (W : List Int) (v : Value) (i : Nat) (w : World) (Q : List Slp) : Prop where
  waits : WaitsAt w qb lb mb 4 Q
  ids : idsW Q b = W.drop i
  masks : ∀ s, s ∈ Q → s.mask = 1
  none' : ∀ s, s ∈ Q → s.addr ≠ a
  own : ∀ x, x ∈ owned lb mb Q → x ∈ owned lb mb Q0
  row : w.ownsRow base 23 1 v W.length (GVx W)
  kept : Kept [] w0 w
theorem Taking.keptN {w0 w w' : World} {qb lb mb a b base : Nat} {Q0 : List Slp} {W : List Int} {v : Value} {i : Nat} {Q : List Slp} (h : Taking w0 qb lb mb a b base Q0 W v i w Q) (k : Kept [] w w') : Taking w0 qb lb mb a b base Q0 W v i w' Q :=
  ⟨h.waits.keptN k, h.ids, h.masks, h.none', h.own, own_keptN h.row k, h.kept.trans k⟩
theorem Taking.head {w0 w : World} {qb lb mb a b base : Nat} {Q0 : List Slp} {W : List Int} {v : Value} {i : Nat} {Q : List Slp} (h : Taking w0 qb lb mb a b base Q0 W v i w Q) {x : Int} (hx : W[i]? = some x) : ∃ t, Q.find? (fun t => t.addr == b) = some t ∧ (t.id : Int) = x ∧ idsW (rem Q t.id) b = W.drop (i + 1) := by
  obtain ⟨h1, h2⟩ := List.getElem?_eq_some_iff.1 hx
  have h3 : idsW Q b = x :: W.drop (i + 1) := by rw [h.ids, List.drop_eq_getElem_cons h1, h2]
  cases hf : Q.find? (fun t => t.addr == b) with
  | none =>
    exfalso
    have : idsW Q b = [] := by
      unfold idsW
      rw [List.map_eq_nil_iff, List.filter_eq_nil_iff]
      exact List.find?_eq_none.1 hf
    rw [this] at h3
    cases h3
  | some t =>
    have h4 := idsW_first h.waits.ids hf
    rw [h3] at h4
    injection h4 with h5 h6
    exact ⟨t, rfl, h5.symm, h6.symm⟩
theorem Taking.step {w0 w w' : World} {qb lb mb a b base : Nat} {Q0 : List Slp} {W : List Int} {v : Value} {i : Nat} {Q : List Slp} (h : Taking w0 qb lb mb a b base Q0 W v i w Q) {t : Slp} (hids : idsW (rem Q t.id) b = W.drop (i + 1))
    (hO : ∀ x, x ∈ owned lb mb Q0 → w0.heap.size ≤ x ∧ x < base) (hW : WaitsAt w' qb lb mb 4 (rem Q t.id)) (hK : Kept (owned lb mb Q) w w') : Taking w0 qb lb mb a b base Q0 W v (i + 1) w' (rem Q t.id) :=
  ⟨hW, hids, fun s hs => h.masks s (List.mem_filter.1 hs).1, fun s hs => h.none' s (List.mem_filter.1 hs).1, fun x hx => h.own x (rem_owned hx),
    own_kept h.row hK (fun x hx hm => by have := own_ge h.row x hx; have := (hO x (h.own x hm)).2; omega), h.kept.trans' hK (fun x hx => .inr (hO x (h.own x hx)).1)⟩

set_option maxRecDepth 100000 in
set_option maxHeartbeats 4000000 in
theorem moves_law (aA : Option Addr) (len cA : Nat) (gA : Nat → Nat → Int) (fr to : Int) (w : World) (h0 : 0 ≤ fr) (h1 : fr ≤ 18446744073709551615) (h2 : 0 ≤ to) (h3 : to ≤ 18446744073709551615) (hA : IntRows w aA len [.u64] gA) :
    Calls Try.prog 5 #[.slice aA len cA, .int .u64 fr, .int .u64 to] w fun e w' => e = .returned (.bool true) ∧ Kept [] w w' := by
  obtain ⟨fr, rfl⟩ : ∃ x : Nat, fr = (x : Int) := ⟨fr.toNat, by omega⟩
  obtain ⟨to, rfl⟩ : ∃ x : Nat, to = (x : Int) := ⟨to.toNat, by omega⟩
  have hlen : len ≤ 9223372036854775807 := by have := hA.small; unfold maxLen at this; omega
  by_cases hl : 40 < len
  · clear hA
    go_enter Try.func5, Try.ntmps5
    go_wp2_with fail
    refine (awake_ok _).mono ?_
    rintro e w1 ⟨rfl, hK⟩
    have HK := hid hK
    clear hK
    go_wp2_with fail
    go_ret
    exact ⟨rfl, HK.out⟩
  · have hl40 : len ≤ 40 := by omega
    have HFL := hid (filled_ok aA none len cA 0 0 gA (fun _ _ => 0) w hA (rows_nil w) (by omega))
    have HA := hid hA
    obtain ⟨a, ha⟩ : ∃ a, fr % 5 = a := ⟨_, rfl⟩
    obtain ⟨b, hb⟩ : ∃ b, to % 5 = b := ⟨_, rfl⟩
    have haI : (fr : Int) % 5 = (a : Int) := by omega
    have hbI : (to : Int) % 5 = (b : Int) := by omega
    have hlN : ¬ 40 < len := hl
    have hlI : (len : Int) ≤ 40 := by omega
    clear hA hl ha hb h0 h1 h2 h3
    by_cases hab : a = b
    · subst hab
      go_enter Try.func5, Try.ntmps5
      go_wp2_with fail
      refine HFL.out.mono ?_
      rintro e w1 ⟨qb, lb, mb, Q, rfl, -, -, -, -, hK⟩
      have HK1 := hid hK
      clear hK
      go_wp2_with fail
      refine (awake_ok _).mono ?_
      rintro e w2 ⟨rfl, hK⟩
      have HK2 := hid hK
      clear hK
      go_wp2_with fail
      go_ret
      exact ⟨rfl, HK1.out.trans HK2.out⟩
    · have hab' : ((a : Int) == (b : Int)) = false := by simp; omega
      have HAB := hid hab
      clear hab
      go_enter Try.func5, Try.ntmps5
      go_wp2_with fail
      refine HFL.out.mono ?_
      rintro e w1 ⟨qb, lb, mb, Q, rfl, hW, hF, hqb, hO, hK⟩
      have HW := hid hW
      have HF := hid hF
      have HO := hid (fun x (hx : x ∈ owned lb mb Q) => (show w.heap.size ≤ x ∧ x < w1.heap.size from ⟨hO x hx, hW.owned_lt x hx⟩))
      have HK1 := hid hK
      have hQl := hF.len
      clear hW hF hO hK
      go_wp2_with fail
      go_loopw [8, 9] (fun v s9 wr => ∃ k : Nat, k ≤ 2 ∧ s9 = .int .i64 k ∧ wr.ownsRow w1.heap.size 23 1 v (wOut Q a b k).length (GVx (wOut Q a b k)) ∧ Kept [] w1 wr) (fun _ s9 _ => 2 - (intOf s9).toNat)
      case atStart => exact ⟨0, by omega, rfl, ⟨rfl, .inl ⟨rfl, rfl⟩⟩, Kept.refl _ _⟩
      case round =>
        obtain ⟨k, hk, rfl, hv, hKr⟩ := hrel
        have HV := hid hv
        have HKr := hid hKr
        clear hv hKr
        by_cases hk2 : k < 2
        · obtain ⟨w4, hw4⟩ : ∃ w4, w4 = wr := ⟨_, rfl⟩
          subst hw4
          have hkI : (k : Int) < 2 := by omega
          go_wp2_with fail
          go_loopw [8, 10] (fun v s10 wr => ∃ i : Nat, i ≤ len ∧ s10 = .int .i64 i ∧ wr.ownsRow w1.heap.size 23 1 v (wAt Q a b k i).length (GVx (wAt Q a b k i)) ∧ Kept [] w1 wr) (fun _ s10 _ => len - (intOf s10).toNat)
          case atStart => exact ⟨0, Nat.zero_le _, rfl, by rw [show wAt Q a b k 0 = wOut Q a b k by simp [wAt, idsW]]; exact HV.out, HKr.out⟩
          case round =>
            obtain ⟨i, hi, rfl, hv5, hK5⟩ := hrel
            have HV5 := hid hv5
            have HK5 := hid hK5
            clear hv5 hK5
            by_cases hlt : i < len
            · obtain ⟨ba, oa, rfl, hba, hca⟩ := HA.out.cell i hlt
              have hc0 := (HK1.out.trans HK5.out).cellSome (hca 0 .u64 rfl) (by simp)
              simp only [List.length_cons, List.length_nil, Nat.zero_add, Nat.add_zero, Nat.mul_one] at hc0
              obtain ⟨b00, b01⟩ := bounds_u64 (HA.out.wf i 0 .u64 hlt rfl)
              obtain ⟨x, hx⟩ : ∃ x : Nat, gA i 0 = (x : Int) := ⟨(gA i 0).toNat, by omega⟩
              obtain ⟨s, hs⟩ : ∃ s, Q[i]? = some s := ⟨_, List.getElem?_eq_getElem (by omega)⟩
              obtain ⟨f1, f2, f3⟩ := HF.out.at' i s hs
              simp only [hx, Int.toNat_natCast] at f2
              rw [hx] at hc0
              have HS := hid hs
              have HSA := hid f2
              have HSI := hid (show (s.id : Int) = (i : Int) + 1 by omega)
              clear hca hx hs f1 f2 f3
              by_cases hk0 : k = 0
              · have qk0 : ((k : Int) == 0) = true := by simp; omega
                have htg := hid (show (if k = 0 then b else a) = b from if_pos hk0)
                clear hk0
                by_cases e : x % 5 = b
                · have q1 : ((x : Int) % 5 == (b : Int)) = true := by simp; omega
                  have hst := hid (show wAt Q a b k (i + 1) = wAt Q a b k i ++ [(i : Int) + 1] by
                    rw [wAt_step HS.out, if_pos (show s.addr = (if k = 0 then b else a) by rw [HSA.out, htg.out]; exact e), HSI.out])
                  clear e
                  go_wp2_with (at_builtin; go_must (refine wp_app1 rfl _ _ 22 23 rfl Try.underlying22 info_u64 rfl (Nat.lt_succ_self 0) w1.heap.size u8 (wAt Q a b k i).length (GVx (wAt Q a b k i)) rfl ?cA0 wr.heap.size 1 [.int .u64 ((i : Int) + 1)] rfl rfl (Blk.newA _ _ rfl) ?cB0 ?cC0 (Nat.le_of_ble_eq_true rfl) ?cD0 ?_))
                  case cA0 => exact own_keptN HV5.out ((Kept.refl _ _).alloc _)
                  case cB0 => simp [Value.oneCell']
                  case cC0 => have := wAt_length Q a b k i; omega
                  case cD0 => have := HK5.out.size; simp; omega
                  intro gg cap' w6 hW hgg hK
                  have HW6 := hid hW
                  have HK6 := hid (HK5.out.trans' (((Kept.refl _ wr).alloc (.cells #[.int .u64 ((i : Int) + 1)] 23)).trans hK) (fun y hy => .inr (own_ge HV5.out y hy)))
                  clear hW hK
                  go_wp2_with fail
                  go_roundw
                  case rel => exact ⟨i + 1, by omega, by go_num, by rw [hst.out, List.length_append, GVx_snoc]; exact HW6.out, HK6.out⟩
                  case measure => simp [intOf]; omega
                · have q1 : ((x : Int) % 5 == (b : Int)) = false := by simp; omega
                  have hst := hid (show wAt Q a b k (i + 1) = wAt Q a b k i by
                    rw [wAt_step HS.out, if_neg (show ¬ s.addr = (if k = 0 then b else a) by rw [HSA.out, htg.out]; exact e)])
                  clear e
                  go_wp2_with fail
                  go_roundw
                  case rel => exact ⟨i + 1, by omega, by go_num, by rw [hst.out]; exact HV5.out, HK5.out⟩
                  case measure => simp [intOf]; omega
              · have qk0 : ((k : Int) == 0) = false := by simp; omega
                have qk1 : ((k : Int) == 1) = true := by simp; omega
                have htg := hid (show (if k = 0 then b else a) = a from if_neg hk0)
                clear hk0
                by_cases e : x % 5 = a
                · have q1 : ((x : Int) % 5 == (a : Int)) = true := by simp; omega
                  have hst := hid (show wAt Q a b k (i + 1) = wAt Q a b k i ++ [(i : Int) + 1] by
                    rw [wAt_step HS.out, if_pos (show s.addr = (if k = 0 then b else a) by rw [HSA.out, htg.out]; exact e), HSI.out])
                  clear e
                  go_wp2_with (at_builtin; go_must (refine wp_app1 rfl _ _ 22 23 rfl Try.underlying22 info_u64 rfl (Nat.lt_succ_self 0) w1.heap.size u8 (wAt Q a b k i).length (GVx (wAt Q a b k i)) rfl ?cA1 wr.heap.size 1 [.int .u64 ((i : Int) + 1)] rfl rfl (Blk.newA _ _ rfl) ?cB1 ?cC1 (Nat.le_of_ble_eq_true rfl) ?cD1 ?_))
                  case cA1 => exact own_keptN HV5.out ((Kept.refl _ _).alloc _)
                  case cB1 => simp [Value.oneCell']
                  case cC1 => have := wAt_length Q a b k i; omega
                  case cD1 => have := HK5.out.size; simp; omega
                  intro gg cap' w6 hW hgg hK
                  have HW6 := hid hW
                  have HK6 := hid (HK5.out.trans' (((Kept.refl _ wr).alloc (.cells #[.int .u64 ((i : Int) + 1)] 23)).trans hK) (fun y hy => .inr (own_ge HV5.out y hy)))
                  clear hW hK
                  go_wp2_with fail
                  go_roundw
                  case rel => exact ⟨i + 1, by omega, by go_num, by rw [hst.out, List.length_append, GVx_snoc]; exact HW6.out, HK6.out⟩
                  case measure => simp [intOf]; omega
                · have q1 : ((x : Int) % 5 == (a : Int)) = false := by simp; omega
                  have hst := hid (show wAt Q a b k (i + 1) = wAt Q a b k i by
                    rw [wAt_step HS.out, if_neg (show ¬ s.addr = (if k = 0 then b else a) by rw [HSA.out, htg.out]; exact e)])
                  clear e
                  go_wp2_with fail
                  go_roundw
                  case rel => exact ⟨i + 1, by omega, by go_num, by rw [hst.out]; exact HV5.out, HK5.out⟩
                  case measure => simp [intOf]; omega
            · obtain rfl : i = len := by omega
              have hen := hid (wAt_end hQl a b k hk2)
              go_wp2_with fail
              go_roundw
              case rel => exact ⟨k + 1, by omega, by go_num, by rw [← hen.out]; exact HV5.out, HK5.out⟩
              case measure => simp [intOf]; omega
        · have hWO : wOut Q a b k = idsW Q b ++ idsW Q a := by
            obtain rfl : k = 2 := by omega
            rfl
          have hkI : ¬ (k : Int) < 2 := by omega
          have hW2 := HV.out
          rw [hWO] at hW2
          obtain ⟨W, hWd⟩ : ∃ W, idsW Q b ++ idsW Q a = W := ⟨_, rfl⟩
          rw [hWd] at hW2
          obtain ⟨m, hm⟩ : ∃ m, W.length = m := ⟨_, rfl⟩
          rw [hm] at hW2
          obtain ⟨av, cv, rfl⟩ := own_form' hW2
          have hblks := hid (fun x (hx : x ∈ Q.map (·.blk)) => (show ∃ t, t ∈ Q ∧ t.blk = x from by
            obtain ⟨t, ht, e⟩ := List.mem_map.1 hx
            exact ⟨t, ht, e⟩))
          have HMV := hid (show Moving w w1 qb lb mb a b w1.heap.size (Q.map (·.blk)) Q W (.slice av m cv) wr Q from
            ⟨HW.out.keptN HKr.out, hWd, fun s hs => by
              obtain ⟨j, hj⟩ := List.getElem?_of_mem hs
              have := (HF.out.at' j s hj).2.2
              simpa using this, hblks.out, fun x hx => hx, by rw [hm]; exact hW2, HK1.out.trans HKr.out⟩)
          have HM := hid hm
          have hm80 : m ≤ 80 := by
            have h1 : (idsW Q b).length ≤ Q.length := by unfold idsW; rw [List.length_map]; exact List.length_filter_le _ _
            have h2 : (idsW Q a).length ≤ Q.length := by unfold idsW; rw [List.length_map]; exact List.length_filter_le _ _
            rw [← hm, ← hWd, List.length_append]
            omega
          have hsub := hid (fun x (hx : x ∈ owned lb mb Q) => HO.out x hx)
          clear hWO hW2 hWd hm hk2
          go_wp2_with fail
          go_loopw [12] (fun _ wr => ∃ Qm, Moving w w1 qb lb mb a b w1.heap.size (Q.map (·.blk)) Q W (.slice av m cv) wr Qm) (fun _ wr => cntOn (Q.map (·.blk)) a wr)
          case atStart => exact ⟨Q, HMV.out⟩
          case round =>
            obtain ⟨Qm, hMV⟩ := hrel
            have HMm := hid hMV
            clear hMV
            cases hf : Qm.find? (fun t => t.addr == a) with
            | some s =>
              have HFd := hid hf
              clear hf
              go_wp2_with fail
              refine (move_some' HMm.out.waits a b HFd.out).mono ?_
              rintro e w6 ⟨rfl, hW6, hK6⟩
              have HS6 := hid (HMm.out.step HFd.out HAB.out HO.out hW6 hK6)
              have hsm := List.mem_of_find?_eq_some HFd.out
              have hcnt := hid (cnt_move (blks := Q.map (·.blk)) (a := a) HMm.out.waits hW6 hsm (by have := List.find?_some HFd.out; simpa using this) HAB.out HMm.out.fro (by
                have h1 := HMm.out.own s.blk (by unfold owned; exact List.mem_cons_of_mem _ (List.mem_cons_of_mem _ (List.mem_map.2 ⟨s, hsm, rfl⟩)))
                unfold owned at h1
                rcases List.mem_cons.1 h1 with h1 | h1
                · obtain ⟨j, hj⟩ := bks_of (n := 4) hsm
                  exact absurd h1 (HMm.out.waits.lists.far _ _ _ hj).2
                rcases List.mem_cons.1 h1 with h1 | h1
                · exact absurd h1 (HMm.out.waits.mfar s hsm)
                · exact h1))
              clear hW6 hK6
              go_wp2_with fail
              go_roundw
              case rel => exact ⟨_, HS6.out⟩
              case measure => exact hcnt.out
            | none =>
              have HFd := hid hf
              clear hf
              go_wp2_with fail
              refine (move_none' HMm.out.waits a b HFd.out).mono ?_
              rintro e w6 ⟨rfl, hK6⟩
              have hno : ∀ s, s ∈ Qm → s.addr ≠ a := fun s hs e => by
                have := List.find?_eq_none.1 HFd.out s hs
                simp at this
                exact this e
              have hids : idsW Qm b = W := by
                have h1 := HMm.out.ids
                have h2 : idsW Qm a = [] := by
                  unfold idsW
                  rw [List.map_eq_nil_iff, List.filter_eq_nil_iff]
                  intro s hs
                  simpa using hno s hs
                rw [h2, List.append_nil] at h1
                exact h1
              have HM6 := HMm.out.keptN hK6
              have HTK := hid (show Taking w qb lb mb a b w1.heap.size Q W (.slice av m cv) 0 w6 Qm from ⟨HM6.waits, by rw [List.drop_zero]; exact hids, HM6.masks, hno, HM6.own, HM6.row, HM6.kept⟩)
              have hwh := hid (fun (i : Nat) (x : Int) (hx : W[i]? = some x) => (show ∃ t, t ∈ Qm ∧ (t.id : Int) = x ∧ t.addr = b ∧ t.mask = 1 from by
                rw [← hids] at hx
                have h1 := List.mem_of_getElem? hx
                unfold idsW at h1
                obtain ⟨t, ht, e⟩ := List.mem_map.1 h1
                obtain ⟨h3, h4⟩ := List.mem_filter.1 ht
                exact ⟨t, h3, e, by simpa using h4, HM6.masks t h3⟩))
              clear HM6 hK6 hno hids
              go_wp2_with fail
              go_loopw [13] (fun s13 wr => ∃ i : Nat, i ≤ m ∧ s13 = .int .i64 i ∧ Taking w qb lb mb a b w1.heap.size Q W (.slice av m cv) 0 wr Qm) (fun s13 _ => m - (intOf s13).toNat)
              case atStart => exact ⟨0, Nat.zero_le _, rfl, HTK.out⟩
              case round =>
                obtain ⟨i, hi, rfl, hT⟩ := hrel
                have HT := hid hT
                clear hT
                by_cases hlt : i < m
                · obtain ⟨x, hx⟩ : ∃ x, W[i]? = some x := ⟨_, List.getElem?_eq_getElem (by rw [HM.out]; exact hlt)⟩
                  obtain ⟨t, ht, rfl, hta, htm⟩ := hwh.out i x hx
                  obtain ⟨gV, eV, d0⟩ : ∃ gV, av = some ⟨gV, 0, none⟩ ∧ wr.cell? ⟨gV, i, none⟩ = some (.int .u64 (t.id : Int)) := by
                    have hr := HT.out.row
                    rw [HM.out] at hr
                    obtain ⟨m', rfl⟩ : ∃ m', m = m' + 1 := ⟨m - 1, by omega⟩
                    obtain ⟨gV, c, e1, -⟩ := own_form hr
                    cases e1
                    exact ⟨gV, rfl, own_cell hr (GVx_get hx)⟩
                  subst eV
                  have hwt := hid (where_some HT.out.waits ht)
                  rw [hta, htm] at hwt
                  have qb1 : ((b : Int) != (b : Int)) = false := by simp
                  clear hx ht hta htm
                  go_wp2_with fail
                  refine hwt.out.mono ?_
                  rintro e w8 ⟨rfl, hK8⟩
                  have HT8 := hid (HT.out.keptN hK8)
                  clear hK8 d0
                  go_wp2_with fail
                  go_roundw
                  case rel => exact ⟨i + 1, by omega, by go_num, HT8.out⟩
                  case measure => simp [intOf]; omega
                · obtain rfl : i = m := by omega
                  go_wp2_with fail
                  go_loopw [18] (fun s18 wr => ∃ (j : Nat) (Qt : List Slp), j ≤ i ∧ s18 = .int .i64 j ∧ Taking w qb lb mb a b w1.heap.size Q W (.slice av i cv) j wr Qt) (fun s18 _ => i - (intOf s18).toNat)
                  case atStart => exact ⟨0, Qm, Nat.zero_le _, rfl, HT.out⟩
                  case round =>
                    obtain ⟨j, Qt, hj, rfl, hT⟩ := hrel
                    have HTt := hid hT
                    clear hT
                    by_cases hlt2 : j < i
                    · obtain ⟨x, hx⟩ : ∃ x, W[j]? = some x := ⟨_, List.getElem?_eq_getElem (by rw [HM.out]; exact hlt2)⟩
                      obtain ⟨t, hft, rfl, hrest⟩ := HTt.out.head hx
                      have htk := hid (take_some' HTt.out.waits b 1 (by decide) (by rw [fits_one HTt.out.masks]; exact hft) (b : Int) 1 rfl rfl)
                      have HREST := hid hrest
                      have HX := hid hx
                      clear hft hrest hx
                      go_wp2_with fail
                      refine htk.out.mono ?_
                      rintro e w8 ⟨rfl, hW8, hK8⟩
                      have hT8 := HTt.out.step HREST.out HO.out hW8 hK8
                      obtain ⟨gV, eV, d0⟩ : ∃ gV, av = some ⟨gV, 0, none⟩ ∧ w8.cell? ⟨gV, j, none⟩ = some (.int .u64 (t.id : Int)) := by
                        have hr := hT8.row
                        rw [HM.out] at hr
                        obtain ⟨m', rfl⟩ : ∃ m', i = m' + 1 := ⟨i - 1, by omega⟩
                        obtain ⟨gV, c, e1, -⟩ := own_form hr
                        cases e1
                        exact ⟨gV, rfl, own_cell hr (GVx_get HX.out)⟩
                      subst eV
                      have HT8 := hid hT8
                      have qi : ((t.id : Int) != (t.id : Int)) = false := by simp
                      clear hW8 hK8 hT8
                      go_wp2_with fail
                      go_roundw
                      case rel => exact ⟨j + 1, _, by omega, by go_num, HT8.out⟩
                      case measure => simp [intOf]; omega
                    · obtain rfl : j = i := by omega
                      have hn1 := hid (show Qt.find? (fits a 1 false) = none by
                        rw [List.find?_eq_none]
                        intro s hs
                        have := HTt.out.none' s hs
                        simp [fits, this])
                      have hn2 := hid (show Qt.find? (fits b 1 false) = none by
                        rw [fits_one HTt.out.masks, List.find?_eq_none]
                        intro s hs hsb
                        have h1 := HTt.out.ids
                        rw [List.drop_of_length_le (Nat.le_of_eq HM.out)] at h1
                        unfold idsW at h1
                        rw [List.map_eq_nil_iff, List.filter_eq_nil_iff] at h1
                        exact h1 s hs hsb)
                      have hh1 := hid (has_none' HTt.out.waits a 1 (by decide) hn1.out (a : Int) 1 rfl rfl)
                      go_wp2_with fail
                      refine hh1.out.mono ?_
                      rintro e w8 ⟨rfl, hK8⟩
                      have HT8 := hid (HTt.out.keptN hK8)
                      have hh2 := hid (has_none' HT8.out.waits b 1 (by decide) hn2.out (b : Int) 1 rfl rfl)
                      clear hK8
                      go_wp2_with fail
                      refine hh2.out.mono ?_
                      rintro e w9 ⟨rfl, hK9⟩
                      have HT9 := hid (HT8.out.keptN hK9)
                      clear hK9
                      go_wp2_with fail
                      refine (awake_ok _).mono ?_
                      rintro e w10 ⟨rfl, hK10⟩
                      have HK10 := hid hK10
                      clear hK10
                      go_wp2_with fail
                      go_ret
                      exact ⟨rfl, HT9.out.kept.trans HK10.out⟩

end Go.Proofs.Ytenahekdhepnfaa
