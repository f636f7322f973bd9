/- Rows that are set; rows of two types. No program in sight. -/
import Derived.Test.YtcaikpfdhdbioaaDoorLib
namespace Go.Proofs.YtcaikpfdhdbioaaDoor
open Go Go.RowKit

theorem own_set {w : World} {base : Nat} {e : TypeId} {size : Nat} {g n n' cap : Nat} {xs : List Value} (h : w.ownsRow base e size (.slice (some ⟨g, 0, none⟩) n' cap) n xs) (i : Nat) (v : Value) :
    (w.setCell ⟨g, i, none⟩ v).ownsRow base e size (.slice (some ⟨g, 0, none⟩) n' cap) n (xs.set i v) := by
  obtain ⟨h1, h2⟩ := h
  refine ⟨by rw [List.length_set]; exact h1, ?_⟩
  rcases h2 with ⟨h0, _⟩ | ⟨g', cap', cur, hv, hg, hh, hn, hc, hs, ht⟩
  · cases h0
  · cases hv
    refine .inr ⟨g, cap, cur.setIfInBounds i v, rfl, hg, ?_, hn, hc, by simpa using hs, ?_⟩
    · simp [World.setCell, Array.getElem?_modify, hh]
    · rw [Array.toList_setIfInBounds, List.take_set, ht]
theorem own_set_ne {w : World} {base : Nat} {e : TypeId} {size : Nat} {v : Value} {n : Nat} {xs : List Value} (h : w.ownsRow base e size v n xs) {p : Addr} (u : Value) (hb : p.block ∉ v.ownBlock.toList) : (w.setCell p u).ownsRow base e size v n xs :=
  own_kept (S := [p.block]) h ((Kept.refl _ _).setCell (.inl (by simp)) u) (fun b hb' hm => hb (by rw [List.mem_singleton.1 hm] at hb'; exact hb'))
/-- Rows of two types never share a block. -/
theorem own_ne {w : World} {b1 b2 : Nat} {e1 e2 : TypeId} {s1 s2 : Nat} {v1 v2 : Value} {n1 n2 : Nat} {xs1 xs2 : List Value} (h1 : w.ownsRow b1 e1 s1 v1 n1 xs1) (h2 : w.ownsRow b2 e2 s2 v2 n2 xs2) (he : e1 ≠ e2) : ∀ b, b ∈ v1.ownBlock.toList → b ∉ v2.ownBlock.toList := by
  intro b hb1 hb2
  rcases h1.2 with ⟨rfl, _⟩ | ⟨g, cap, cur, rfl, _, hh, _⟩
  · simp [Value.ownBlock] at hb1
  rcases h2.2 with ⟨rfl, _⟩ | ⟨g', cap', cur', rfl, _, hh', _⟩
  · simp [Value.ownBlock] at hb2
  simp [Value.ownBlock] at hb1 hb2
  subst hb1
  subst hb2
  rw [hh] at hh'
  exact he ((Obj.cells.inj (Option.some.inj hh')).2.1)

end Go.Proofs.YtcaikpfdhdbioaaDoor
