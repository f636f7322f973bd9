/- The document's clock (distaffref07): Drop, Pop, find. -/
import Derived.Test.YtcaikpfdhdbioaaDoorClockR
namespace Go.Proofs.YtcaikpfdhdbioaaDoor
open Go Go.RowKit

theorem own_emptyT (w : World) (e size : Nat) : (w.alloc (.cells #[] e)).ownsRow w.heap.size e size (.slice (some ⟨w.heap.size, 0, none⟩) 0 0) 0 [] :=
  ⟨by simp, .inr ⟨w.heap.size, 0, #[], rfl, Nat.le_refl _, by show (w.heap.push _)[w.heap.size]? = _; simp, Nat.le_refl _, by unfold maxLen; omega, by simp, by simp⟩⟩
theorem outT_at {S : List Th} (hn : (S.map (·.h)).Nodup) {k : Nat} (hk : k < S.length) : outT (tat S k).h S = S.take k ++ S.drop (k + 1) := by
  have hI := inj_of hn
  unfold outT
  have e : S = S.take k ++ tat S k :: S.drop (k + 1) := by
    have h1 : S.drop k = tat S k :: S.drop (k + 1) := drop_cons hk
    rw [← h1, List.take_append_drop]
  have h1 : (S.take k).filter (fun t => t.h != (tat S k).h) = S.take k := by
    rw [List.filter_eq_self]
    intro t ht
    obtain ⟨j, hj, hjt⟩ := tat_of ht
    rw [List.length_take] at hj
    rw [tat_take (by omega)] at hjt
    have : t.h ≠ (tat S k).h := fun h => by have := hI j k (by omega) hk (by rw [hjt, h]); omega
    simpa using this
  have h2 : (S.drop (k + 1)).filter (fun t => t.h != (tat S k).h) = S.drop (k + 1) := by
    rw [List.filter_eq_self]
    intro t ht
    obtain ⟨j, hj⟩ := List.getElem?_of_mem ht
    rw [List.getElem?_drop] at hj
    have hjl := (List.getElem?_eq_some_iff.1 hj).1
    have : t.h ≠ (tat S k).h := fun h => by have := hI (k + 1 + j) k hjl hk (by rw [tat_eq hj, h]); omega
    simpa using this
  obtain ⟨u, hu⟩ : ∃ u, tat S k = u := ⟨_, rfl⟩
  rw [hu] at e h1 h2 ⊢
  conv => lhs; rw [e]
  rw [List.filter_append, h1, List.filter_cons_of_neg (by simp), h2]

theorem RefAt.cells {w : World} {rb : Nat} {a : Option Addr} {n c : Nat} {S : List Th} {last now : Nat} (h : RefAt w rb (.slice a n c) S last now) (hn : S.length = n) {k : Nat} (hk : k < n) :
    ∃ g, a = some ⟨g, 0, none⟩ ∧ w.cell? ⟨g, k * 3, none⟩ = some (.int .u64 (tat S k).d) ∧ w.cell? ⟨g, k * 3 + 1, none⟩ = some (.int .u64 (tat S k).x) ∧ w.cell? ⟨g, k * 3 + 2, none⟩ = some (.int .i64 (tat S k).h) := by
  have hr := h.row
  rw [hn] at hr
  obtain ⟨m, rfl⟩ : ∃ m, n = m + 1 := ⟨n - 1, by omega⟩
  obtain ⟨g, c, e1, -⟩ := own_form hr
  cases e1
  obtain ⟨q0, q1, q2⟩ := TV_get0 (tat_get (V := S) (i := k) (by omega))
  exact ⟨g, rfl, own_cell hr q0, own_cell hr q1, own_cell hr q2⟩

set_option maxRecDepth 100000 in
set_option maxHeartbeats 4000000 in
theorem rdrop_ok {w : World} {rb : Nat} {U : List Nat} {S : List Th} {last now : Nat} (h : RefIs w rb U S last now) (hS : S.length ≤ 100000) (hnd : (S.map (·.h)).Nodup) {t : Th} (ht : t ∈ S) :
    Calls Tryd.prog 28 #[.pointer (some ⟨rb, 1, none⟩), .int .i64 t.h] w fun e w' => e = .returned (.tuple #[.int .u64 t.x, .bool true]) ∧ ∃ U', RefIs w' rb U' (outT t.h S) last now ∧ (∀ y, y ∈ U' → y ∈ U ∨ w.heap.size ≤ y) ∧ Kept U w w' := by
  obtain ⟨v, rfl, h⟩ := h
  obtain ⟨n, hn⟩ : ∃ n, S.length = n := ⟨_, rfl⟩
  obtain ⟨p, hp, hpt⟩ := tat_of ht
  have hrow := h.row
  rw [hn] at hS hrow hp
  obtain ⟨av, cv, rfl⟩ := own_form' hrow
  have c1 := h.head.cell (o := 1) rfl
  have hlt := h.head.lt
  have H := hid h
  have HN := hid hn
  have HROW := hid hrow
  have HND := hid hnd
  have HPT := hid hpt
  have HI := hid (inj_of hnd)
  clear h hn hrow hnd ht hpt
  go_enter Tryd.func28, Tryd.ntmps28
  go_wp2_with fail
  go_loop [6] (fun s6 => ∃ k : Nat, k ≤ p ∧ s6 = .int .i64 k) (fun s6 => p - (intOf s6).toNat)
  case atStart => exact ⟨0, Nat.zero_le _, rfl⟩
  case round =>
    obtain ⟨k, hk, rfl⟩ := hrel
    obtain ⟨g, rfl, d0, d1, d2⟩ := H.out.cells HN.out (k := k) (by omega)
    have hkn : (k : Int) < (n : Int) := by omega
    have hkn' : k < n := by omega
    by_cases hkp : k = p
    · subst hkp
      rw [HPT.out] at d0 d1 d2
      have hx : k + 1 ≤ n := by omega
      have HOUT := hid (outT_at HND.out (k := k) (by rw [HN.out]; exact hp))
      rw [HPT.out] at HOUT
      have heq : ((t.h : Int) == (t.h : Int)) = true := by simp
      go_wp2_with (first
        | (with_reducible refine wp_sliceHead rfl (.tmp 40) (.tmp 41) 42 76 rfl Tryd.underlying42 size_rthing 0 (.slice (some ⟨g, 0, none⟩) n cv) n k (TV S) (k : Int) rfl rfl rfl HROW.out (Nat.le_of_lt hp) ?_; intro x1 hx1; rw [← TV_take] at hx1)
        | (at_builtin; refine wp_appN rfl (.tmp 36) (.tmp 42) 42 76 rfl Tryd.underlying42 info_rthing rfl (by decide) w.heap.size (.slice none 0 0) 0 [] rfl (World.ownsRow_nil _ _ _ _) x1 k (TV (S.take k)) rfl hx1 (TV_one _) (by omega) (by decide) (Nat.le_refl _) ?_; intro v2 w2 hW2 hK2 _; have HK2 := hid (show Kept [] w w2 from hK2.mono (by simp [Value.ownBlock])); have c1' := HK2.out.cellSome c1 (by simp); have HW2 := hid (show w2.ownsRow w.heap.size 76 3 v2 k (TV (S.take k)) by simpa using hW2); have hsz2 := HK2.out.size; clear hW2 hK2 hx1)
        | (with_reducible refine wp_sliceTail rfl (.tmp 49) (.tmp 51) 42 76 rfl Tryd.underlying42 size_rthing 0 (.slice (some ⟨g, 0, none⟩) n cv) n (k + 1) (TV S) ((k : Int) + 1) rfl rfl (by simp) (own_keptN HROW.out HK2.out) hx ?_; intro x2 hx2; rw [← TV_drop] at hx2)
        | (at_builtin; refine wp_appN rfl (.tmp 45) (.tmp 52) 42 76 rfl Tryd.underlying42 info_rthing rfl (by decide) w.heap.size v2 k (TV (S.take k)) rfl HW2.out x2 (n - (k + 1)) (TV (S.drop (k + 1))) rfl hx2 (TV_one _) (by omega) (by decide) hsz2 ?_; intro v4 w4 hW4 hK4 _; obtain ⟨a4, q4, rfl⟩ := own_form' hW4; have HK4 := hid (show Kept [] w w4 from HK2.out.trans' hK4 (fun y hy => .inr (own_ge HW2.out y hy))); have HW4 := hid hW4; have z1 := (H.out.head.keptN HK4.out).frozen 1; have c1''' := (H.out.head.keptN HK4.out).cell (o := 1) rfl; clear c1' hx2 hW4 hK4))
      go_ret2
      have e : (outT t.h S).length = k + (n - (k + 1)) := by rw [HOUT.out, List.length_append, List.length_take, List.length_drop, HN.out]; omega
      have hrow : w4.ownsRow w.heap.size 76 3 (.slice a4 (k + (n - (k + 1))) q4) (outT t.h S).length (TV (outT t.h S)) := by
        have := HW4.out
        rw [← TV_append, ← HOUT.out] at this
        rw [e]
        exact this
      have hlay := H.out.lay (H.out.head.keptN HK4.out) HK4.out.nil hrow
      exact ⟨rfl, _, hlay.1, fun y hy => by simpa using hlay.2.1 y hy, hlay.2.2⟩
    · have hne : ¬ (tat S k).h = t.h := fun e => hkp (HI.out k p (by rw [HN.out]; omega) (by rw [HN.out]; exact hp) (by rw [HPT.out]; exact e))
      obtain ⟨y, hy⟩ : ∃ y, (tat S k).h = y := ⟨_, rfl⟩
      rw [hy] at d2 hne
      have hb : ((y : Int) == (t.h : Int)) = false := by simp; omega
      clear hy hne
      go_wp2_with fail
      go_round
      case rel => exact ⟨k + 1, by omega, by go_num⟩
      case measure => simp [intOf]; omega

set_option maxRecDepth 100000 in
set_option maxHeartbeats 1000000 in
theorem rpop_none {w : World} {rb : Nat} {U : List Nat} {S : List Th} {last now : Nat} (h : RefIs w rb U S last now) (hS : S.length ≤ 100000) (t : Nat) (ht : ∀ s, s ∈ S → t < s.d) :
    Calls Tryd.prog 29 #[.pointer (some ⟨rb, 1, none⟩), .int .u64 t] w fun e w' => e = .returned (.tuple #[.int .u64 0, .bool false]) ∧ w = w' := by
  obtain ⟨v, rfl, h⟩ := h
  have hrow := h.row
  obtain ⟨av, cv, rfl⟩ := own_form' hrow
  have c1 := h.head.cell (o := 1) rfl
  cases S with
  | nil =>
    clear h hrow
    simp only [List.length_nil] at c1
    go_enter Tryd.func29, Tryd.ntmps29
    go_wp2_with fail
    go_ret2
    exact ⟨rfl, rfl⟩
  | cons s S =>
    obtain ⟨n, hn⟩ : ∃ n, S.length = n := ⟨_, rfl⟩
    obtain ⟨g, rfl, d0, -⟩ := h.cells rfl (k := 0) (by simp)
    have h1 := ht s (List.mem_cons_self ..)
    have d0' : w.cell? ⟨g, 0, none⟩ = some (.int .u64 s.d) := by simpa [tat] using d0
    rw [List.length_cons, hn] at c1 hS
    have hgt : (t : Int) < (s.d : Int) := by omega
    have hne : ((n : Int) + 1 == 0) = false := by simp; omega
    clear h hn ht h1 hrow d0
    go_enter Tryd.func29, Tryd.ntmps29
    go_wp2_with fail
    go_ret2
    exact ⟨rfl, rfl⟩

set_option maxRecDepth 100000 in
set_option maxHeartbeats 2000000 in
theorem rpop_some {w : World} {rb : Nat} {U : List Nat} {s : Th} {S : List Th} {last now : Nat} (h : RefIs w rb U (s :: S) last now) (hS : S.length ≤ 100000) (t : Nat) (ht : s.d ≤ t) :
    Calls Tryd.prog 29 #[.pointer (some ⟨rb, 1, none⟩), .int .u64 t] w fun e w' => e = .returned (.tuple #[.int .u64 s.x, .bool true]) ∧ ∃ U', RefIs w' rb U' S last now ∧ (∀ y, y ∈ U' → y ∈ U ∨ w.heap.size ≤ y) ∧ Kept U w w' := by
  obtain ⟨v, rfl, h⟩ := h
  have hrow := h.row
  obtain ⟨av, cv, rfl⟩ := own_form' hrow
  have c1 := h.head.cell (o := 1) rfl
  obtain ⟨n, hn⟩ : ∃ n, S.length = n := ⟨_, rfl⟩
  obtain ⟨g, rfl, d0, d1, -⟩ := h.cells rfl (k := 0) (by simp)
  have d0' : w.cell? ⟨g, 0, none⟩ = some (.int .u64 s.d) := by simpa [tat] using d0
  have d1' : w.cell? ⟨g, 1, none⟩ = some (.int .u64 s.x) := by simpa [tat] using d1
  have H := hid h
  rw [List.length_cons, hn] at c1 hrow H
  have hlt := h.head.lt
  have hgt : ¬ (t : Int) < (s.d : Int) := by omega
  have hne : ((n : Int) + 1 == 0) = false := by simp; omega
  have HN := hid hn
  have HROW := hid hrow
  have hn' : n ≤ 100000 := by omega
  clear h hn hrow d0 d1
  go_enter Tryd.func29, Tryd.ntmps29
  go_wp2_with (first
    | (with_reducible refine wp_sliceTail rfl (.tmp 36) (.const (.int .i64 1)) 42 76 rfl Tryd.underlying42 size_rthing 0 (.slice (some ⟨g, 0, none⟩) (n + 1) cv) (n + 1) 1 (TV (s :: S)) 1 rfl rfl rfl (HROW.out.alloc _) (by omega) ?_; intro x2 hx2; rw [← TV_drop] at hx2)
    | (at_builtin; refine wp_appN rfl (.tmp 32) (.tmp 37) 42 76 rfl Tryd.underlying42 info_rthing rfl (by decide) w.heap.size (.slice (some ⟨w.heap.size, 0, none⟩) 0 0) 0 [] rfl (own_emptyT w _ _) x2 (n + 1 - 1) (TV ((s :: S).drop 1)) rfl hx2 (TV_one _) (by omega) (by decide) (by simp) ?_; intro v4 w4 hW4 hK4 _; obtain ⟨a4, q4, rfl⟩ := own_form' hW4; have HK4 := hid (((Kept.refl [] w).alloc (.cells #[] 76)).trans' hK4 (fun y hy => .inr (by simp [Value.ownBlock] at hy; omega))); have HW4 := hid hW4; have z1 := (H.out.head.keptN HK4.out).frozen 1; have c1''' := (H.out.head.keptN HK4.out).cell (o := 1) rfl; clear c1 hx2 hW4 hK4))
  go_ret2
  have hrow : w4.ownsRow w.heap.size 76 3 (.slice a4 (0 + (n + 1 - 1)) q4) S.length (TV S) := by
    have := HW4.out
    simpa [HN.out] using this
  have hlay := H.out.lay (H.out.head.keptN HK4.out) HK4.out.nil hrow
  simp only [Nat.zero_add, Nat.add_sub_cancel] at hlay
  obtain rfl := HN.out
  exact ⟨rfl, _, hlay.1, fun y hy => by simpa using hlay.2.1 y hy, hlay.2.2⟩

end Go.Proofs.YtcaikpfdhdbioaaDoor
