/- The document's clock (distaffref07): find. -/
import Derived.Test.YtcaikpfdhdbioaaDoorClockS
namespace Go.Proofs.YtcaikpfdhdbioaaDoor
open Go Go.RowKit

set_option maxRecDepth 100000 in
set_option maxHeartbeats 2000000 in
theorem rfind_some {w : World} {rb : Nat} {U : List Nat} {S : List Th} {last now : Nat} (h : RefIs w rb U S last now) (hS : S.length ≤ 100000) (hnd : (S.map (·.x)).Nodup) {t : Th} (ht : t ∈ S) :
    Calls Tryd.prog 27 #[.pointer (some ⟨rb, 0, none⟩), .int .u64 t.x] w fun e w' => e = .returned (.tuple #[.agg #[.int .u64 t.d, .int .u64 t.x, .int .i64 t.h], .bool true]) ∧ Kept [] w w' := by
  obtain ⟨v, rfl, h⟩ := h
  obtain ⟨n, hn⟩ : ∃ n, S.length = n := ⟨_, rfl⟩
  obtain ⟨p, hp, hpt⟩ := tat_of ht
  have hrow := h.row
  rw [hn] at hS hrow hp
  obtain ⟨av, cv, rfl⟩ := own_form' hrow
  have c1 := h.head.cell (o := 1) rfl
  have hlt := h.head.lt
  have H := hid h
  have HN := hid hn
  have HPT := hid hpt
  have HU := hid (fun (s : Th) (hs : s ∈ S) (e : s.x = t.x) => uniqX hnd hs ht e)
  have HNP := hid (fun (k : Nat) (hk : k < p) (e : (tat S k).x = t.x) => (show False by
    have e1 := uniqX hnd (tat_mem (V := S) (i := k) (by omega)) ht e
    have h1 := List.pairwise_iff_getElem.1 hnd k p (by simpa using (by omega : k < S.length)) (by simpa using (by omega : p < S.length)) hk
    simp only [List.getElem_map] at h1
    have a1 := tat_get (V := S) (i := k) (by omega)
    have a2 := tat_get (V := S) (i := p) (by omega)
    rw [List.getElem?_eq_getElem (by omega)] at a1 a2
    rw [Option.some.inj a1, Option.some.inj a2, e1, hpt] at h1
    exact h1 rfl))
  clear h hn hrow hnd ht hpt
  go_enter Tryd.func27, Tryd.ntmps27
  go_wp2_with fail
  go_loop [6] (fun s6 => ∃ k : Nat, k ≤ p ∧ s6 = .int .i64 k) (fun s6 => p - (intOf s6).toNat)
  case atStart => exact ⟨0, Nat.zero_le _, rfl⟩
  case round =>
    obtain ⟨k, hk, rfl⟩ := hrel
    obtain ⟨g, rfl, d0, d1, d2⟩ := H.out.cells HN.out (k := k) (by omega)
    have hg : g < w.heap.size := World.block_lt_of_cell? _ _ d0
    have hkn : (k : Int) < (n : Int) := by omega
    by_cases hkp : k = p
    · subst hkp
      rw [HPT.out] at d0 d1 d2
      have heq : ((t.x : Int) == (t.x : Int)) = true := by simp
      go_wp2_with fail
      exact bodyPost_ret (v := .tuple #[.agg #[.int .u64 t.d, .int .u64 t.x, .int .i64 t.h], .bool true]) (by simp [results, Tryd.results27, go_sem]) rfl ⟨rfl, (Kept.refl _ _).alloc _⟩
    · have hne : ¬ (tat S k).x = t.x := fun e => HNP.out k (by omega) e
      obtain ⟨y, hy⟩ : ∃ y, (tat S k).x = y := ⟨_, rfl⟩
      rw [hy] at d1 hne
      have hb : ((y : Int) == (t.x : Int)) = false := by simp; omega
      clear hy hne
      go_wp2_with fail
      go_round
      case rel => exact ⟨k + 1, by omega, by go_num⟩
      case measure => simp [intOf]; omega

set_option maxRecDepth 100000 in
set_option maxHeartbeats 2000000 in
theorem rfind_none {w : World} {rb : Nat} {U : List Nat} {S : List Th} {last now : Nat} (h : RefIs w rb U S last now) (hS : S.length ≤ 100000) (x : Nat) (hx : ∀ t, t ∈ S → t.x ≠ x) :
    Calls Tryd.prog 27 #[.pointer (some ⟨rb, 0, none⟩), .int .u64 x] w fun e w' => e = .returned (.tuple #[.agg #[.int .u64 0, .int .u64 0, .int .i64 0], .bool false]) ∧ Kept [] w w' := by
  obtain ⟨v, rfl, h⟩ := h
  obtain ⟨n, hn⟩ : ∃ n, S.length = n := ⟨_, rfl⟩
  have hrow := h.row
  rw [hn] at hS hrow
  obtain ⟨av, cv, rfl⟩ := own_form' hrow
  have c1 := h.head.cell (o := 1) rfl
  have hlt := h.head.lt
  have H := hid h
  have HN := hid hn
  have HX := hid hx
  clear h hn hrow hx
  go_enter Tryd.func27, Tryd.ntmps27
  go_wp2_with fail
  go_loop [6] (fun s6 => ∃ k : Nat, k ≤ n ∧ s6 = .int .i64 k) (fun s6 => n - (intOf s6).toNat)
  case atStart => exact ⟨0, Nat.zero_le _, rfl⟩
  case round =>
    obtain ⟨k, hk, rfl⟩ := hrel
    by_cases hkn : k < n
    · obtain ⟨g, rfl, d0, d1, d2⟩ := H.out.cells HN.out (k := k) (by omega)
      have hg : g < w.heap.size := World.block_lt_of_cell? _ _ d0
      have hne := HX.out _ (tat_mem (V := S) (i := k) (by rw [HN.out]; exact hkn))
      obtain ⟨y, hy⟩ : ∃ y, (tat S k).x = y := ⟨_, rfl⟩
      rw [hy] at d1 hne
      have hb : ((y : Int) == (x : Int)) = false := by simp; omega
      clear hy hne
      go_wp2_with fail
      go_round
      case rel => exact ⟨k + 1, by omega, by go_num⟩
      case measure => simp [intOf]; omega
    · go_wp2_with fail
      exact bodyPost_ret (v := .tuple #[.agg #[.int .u64 0, .int .u64 0, .int .i64 0], .bool false]) (by simp [results, Tryd.results27, go_sem]) rfl ⟨rfl, (Kept.refl _ _).alloc _⟩

end Go.Proofs.YtcaikpfdhdbioaaDoor
