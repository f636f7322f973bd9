/- distaffkeep: SpoilWords. -/
import Derived.Test.YtenahekdhepnfaaDoorProg
import Derived.Test.YtenahekdhepnfaaDoorLib
import Derived.RegionTactic
import Derived.IntWalk
namespace Go.Proofs.YtenahekdhepnfaaDoor
open Go Go.RowKit

theorem own_blk {w : World} {base : Nat} {e : TypeId} {g n n' cap : Nat} {xs : List Value} (h : w.ownsRow base e 1 (.slice (some ⟨g, 0, none⟩) n' cap) n xs) : ∃ c, Blk w g c ∧ c.length = cap ∧ cap ≤ 9223372036854775807 := by
  rcases h.2 with ⟨h0, _⟩ | ⟨g', cap', cur, hv, hg, hh, hn, hc, hs, ht⟩
  · cases h0
  · cases hv
    unfold maxLen at hc
    exact ⟨cur.toList, ⟨e, by simpa using hh⟩, by simpa using hs, by omega⟩

set_option maxRecDepth 100000 in
set_option maxHeartbeats 1000000 in
theorem spoil_ok {w : World} {base : Nat} {e : TypeId} {v : Value} {n : Nat} {xs : List Value} (h : w.ownsRow base e 1 v n xs) :
    Calls Tryd.prog 14 #[v] w fun e w' => e = .returned (.tuple #[]) ∧ Kept v.ownBlock.toList w w' := by
  obtain ⟨a, cap, rfl⟩ := own_form' h
  cases a with
  | none =>
    obtain ⟨rfl, rfl⟩ : n = 0 ∧ cap = 0 := by
      rcases h.2 with ⟨h0, h1⟩ | ⟨g', cap', cur, hv, _⟩
      · cases h0; exact ⟨rfl, rfl⟩
      · cases hv
    clear h
    go_enter Tryd.func14, Tryd.ntmps14
    go_wp2_with fail
    refine wp_loop_rounds 1 ?_
    rw [rounds_succ]
    go_wp2_with fail
    go_end0
    exact ⟨rfl, Kept.refl _ _⟩
  | some a =>
    obtain ⟨g, rfl⟩ : ∃ g, a = ⟨g, 0, none⟩ := by
      rcases h.2 with ⟨h0, h1⟩ | ⟨g', cap', cur, hv, _⟩
      · cases h0
      · cases hv; exact ⟨g', rfl⟩
    obtain ⟨c, hB, hc, hcap⟩ := own_blk h
    have HB := hid hB
    have HC := hid hc
    have hn : n ≤ cap := by
      rcases h.2 with ⟨h0, _⟩ | ⟨g', cap', cur, hv, hg, hh, hn, _⟩
      · cases h0
      · cases hv; exact hn
    clear h hB hc
    go_enter Tryd.func14, Tryd.ntmps14
    go_wp2_with fail
    go_loopw [2] (fun s2 wr => ∃ (i : Nat) (c : List Value), i ≤ cap ∧ s2 = .int .i64 i ∧ Blk wr g c ∧ c.length = cap ∧ Kept [g] w wr) (fun s2 _ => cap - (intOf s2).toNat)
    case atStart => exact ⟨0, c, Nat.zero_le _, rfl, HB.out, HC.out, Kept.refl _ _⟩
    case round =>
      obtain ⟨i, c, hi, rfl, hB, hc, hK⟩ := hrel
      have HB := hid hB
      have HK := hid hK
      by_cases hlt : i < cap
      · have hcell := hB.cell (o := i) (List.getElem?_eq_getElem (by omega))
        obtain ⟨u, hu⟩ : ∃ u, c[i] = u := ⟨_, rfl⟩
        rw [hu] at hcell
        have hfr := hB.frozen i
        have HC := hid hc
        clear hB hK hc hu
        go_wp2_with fail
        go_roundw
        case rel => exact ⟨i + 1, _, by omega, by go_num, HB.out.set i _, by rw [List.length_set]; exact HC.out, HK.out.setCell (.inl (by simp)) _⟩
        case measure => simp [intOf]; omega
      · clear hB hK hc
        go_wp2_with fail
        go_end0
        exact ⟨rfl, HK.out.mono (by simp [Value.ownBlock])⟩

end Go.Proofs.YtenahekdhepnfaaDoor
