/- distafflaw12.same; what the document's All tells against what package objects tells. -/
import Derived.Test.YtecagnhffgajhaaDoorObjFreshM
import Derived.Deep.QuietTactic
import Derived.BigQuiet
namespace Go.Proofs.YtecagnhffgajhaaDoor
open Go Go.RowKit

theorem pairsV_get (l : List (Int × Int)) : ∀ (k : Nat) (x : Int × Int), l[k]? = some x → (pairsV l)[k * 2]? = some (.int .u64 x.1) ∧ (pairsV l)[k * 2 + 1]? = some (.int .u64 x.2) := by
  induction l with
  | nil => intro k x h; simp at h
  | cons y l ih =>
    intro k x h
    cases k with
    | zero =>
      simp at h
      subst h
      exact ⟨rfl, rfl⟩
    | succ k =>
      have h' : l[k]? = some x := by simpa using h
      obtain ⟨h1, h2⟩ := ih k x h'
      have e : pairsV (y :: l) = .int .u64 y.1 :: .int .u64 y.2 :: pairsV l := rfl
      rw [e]
      constructor
      · rw [show (k + 1) * 2 = k * 2 + 1 + 1 by omega, List.getElem?_cons_succ, List.getElem?_cons_succ]; exact h1
      · rw [show (k + 1) * 2 + 1 = k * 2 + 1 + 1 + 1 by omega, List.getElem?_cons_succ, List.getElem?_cons_succ]; exact h2

theorem objsV_get (l : List Row) : ∀ (k : Nat) (x : Row), l[k]? = some x → (objsV l)[k * 3]? = some (.int .u64 x.handle) ∧ (objsV l)[k * 3 + 1]? = some (.int .u64 x.addr) := by
  induction l with
  | nil => intro k x h; simp at h
  | cons y l ih =>
    intro k x h
    have e : objsV (y :: l) = .int .u64 y.handle :: .int .u64 y.addr :: .int .i64 y.kind :: objsV l := by simp [objsV, objV]
    rw [e]
    cases k with
    | zero =>
      simp at h
      subst h
      exact ⟨rfl, rfl⟩
    | succ k =>
      have := ih k x (by simpa using h)
      rw [show (k + 1) * 3 = k * 3 + 3 by omega, show k * 3 + 3 + 1 = k * 3 + 1 + 3 by omega]
      exact this

set_option maxRecDepth 100000 in
set_option maxHeartbeats 2000000 in
theorem lsame_ok {w : World} {b1 b2 : Nat} {v1 v2 : Value} (L : List Row) (n : Nat) (hn : L.length = n) (hn5 : n ≤ 5000) (h1 : w.ownsRow b1 87 2 v1 n (pairsV (L.map fun r => (r.handle, r.addr)))) (h2 : w.ownsRow b2 47 3 v2 n (objsV L)) :
    Calls Tryd.prog 23 #[v1, v2] w fun e w' => e = .returned (.bool true) ∧ Kept [] w w' := by
  have H1 := hid h1
  have H2 := hid h2
  have HN := hid hn
  obtain ⟨a1, c1, rfl⟩ := own_form' h1
  obtain ⟨a2, c2, rfl⟩ := own_form' h2
  clear h1 h2 hn
  have hcells : ∀ j, j < n → ∃ g1 g2 x y, a1 = some ⟨g1, 0, none⟩ ∧ a2 = some ⟨g2, 0, none⟩ ∧ w.cell? ⟨g1, j * 2, none⟩ = some (.int .u64 x) ∧ w.cell? ⟨g1, j * 2 + 1, none⟩ = some (.int .u64 y) ∧ w.cell? ⟨g2, j * 3, none⟩ = some (.int .u64 x) ∧ w.cell? ⟨g2, j * 3 + 1, none⟩ = some (.int .u64 y) := by
    intro j hj
    have hL := HN.out
    obtain ⟨n', rfl⟩ : ∃ n', n = n' + 1 := ⟨n - 1, by omega⟩
    obtain ⟨g1, d1, e1, -⟩ := own_form H1.out
    obtain ⟨g2, d2, e2, -⟩ := own_form H2.out
    cases e1
    cases e2
    obtain ⟨r, hr⟩ : ∃ r, L[j]? = some r := ⟨_, List.getElem?_eq_getElem (by omega)⟩
    obtain ⟨p1, p2⟩ := pairsV_get (L.map fun r => (r.handle, r.addr)) j (r.handle, r.addr) (by rw [List.getElem?_map, hr]; rfl)
    obtain ⟨p3, p4⟩ := objsV_get L j r hr
    exact ⟨g1, g2, r.handle, r.addr, rfl, rfl, own_cell H1.out p1, own_cell H1.out p2, own_cell H2.out p3, own_cell H2.out p4⟩
  have HC := hid hcells
  clear hcells
  go_enter Tryd.func23, Tryd.ntmps23
  go_wp2_with fail
  go_loopw [5] (fun i wr => ∃ j : Nat, j ≤ n ∧ i = .int .i64 j ∧ ∃ m, wr = w.drewN m) (fun i _ => n - (intOf i).toNat)
  case atStart => exact ⟨0, Nat.zero_le _, rfl, 0, rfl⟩
  case round =>
    obtain ⟨j, hj, rfl, m, rfl⟩ := hrel
    by_cases hjl : j < n
    · obtain ⟨g1, g2, x, y, rfl, rfl, d0, d1, d2, d3⟩ := HC.out j hjl
      go_wp2_with fail
      go_quiet (fail)
      go_wp2_with fail
      go_roundw
      case rel => exact ⟨j + 1, by omega, by go_num, _, rfl⟩
      case measure => simp [intOf]; omega
    · go_wp2_with fail
      go_ret
      exact ⟨rfl, (Kept.refl _ _).drewN m⟩

end Go.Proofs.YtecagnhffgajhaaDoor
