/- Which handles were given: the plain law of ObjectsFresh. No program in sight. Rows that are set. -/
import Derived.Test.YtecagnhffgajhaaDoorObjKinds
namespace Go.Proofs.YtecagnhffgajhaaDoor
open Go Go.RowKit

theorem own_set {w : World} {base : Nat} {e : TypeId} {size : Nat} {g n n' cap : Nat} {xs : List Value} (h : w.ownsRow base e size (.slice (some ⟨g, 0, none⟩) n' cap) n xs) (i : Nat) (v : Value) :
    (w.setCell ⟨g, i, none⟩ v).ownsRow base e size (.slice (some ⟨g, 0, none⟩) n' cap) n (xs.set i v) := by
  obtain ⟨h1, h2⟩ := h
  refine ⟨by rw [List.length_set]; exact h1, ?_⟩
  rcases h2 with ⟨h0, _⟩ | ⟨g', cap', cur, hv, hg, hh, hn, hc, hs, ht⟩
  · cases h0
  · cases hv
    refine .inr ⟨g, cap, cur.setIfInBounds i v, rfl, hg, ?_, hn, hc, by simpa using hs, ?_⟩
    · simp [World.setCell, Array.getElem?_modify, hh]
    · rw [Array.toList_setIfInBounds, List.take_set, ht]
theorem own_set_ne {w : World} {base : Nat} {e : TypeId} {size : Nat} {v : Value} {n : Nat} {xs : List Value} (h : w.ownsRow base e size v n xs) {p : Addr} (u : Value) (hb : p.block ∉ v.ownBlock.toList) : (w.setCell p u).ownsRow base e size v n xs :=
  own_kept (S := [p.block]) h ((Kept.refl _ _).setCell (.inl (by simp)) u) (fun b hb' hm => hb (by rw [List.mem_singleton.1 hm] at hb'; exact hb'))
/-- Rows of two types never share a block. -/
theorem own_ne {w : World} {b1 b2 : Nat} {e1 e2 : TypeId} {s1 s2 : Nat} {v1 v2 : Value} {n1 n2 : Nat} {xs1 xs2 : List Value} (h1 : w.ownsRow b1 e1 s1 v1 n1 xs1) (h2 : w.ownsRow b2 e2 s2 v2 n2 xs2) (he : e1 ≠ e2) : ∀ b, b ∈ v1.ownBlock.toList → b ∉ v2.ownBlock.toList := by
  intro b hb1 hb2
  rcases h1.2 with ⟨rfl, _⟩ | ⟨g, cap, cur, rfl, _, hh, _⟩
  · simp [Value.ownBlock] at hb1
  rcases h2.2 with ⟨rfl, _⟩ | ⟨g', cap', cur', rfl, _, hh', _⟩
  · simp [Value.ownBlock] at hb2
  simp [Value.ownBlock] at hb1 hb2
  subst hb1
  subst hb2
  rw [hh] at hh'
  exact he ((Obj.cells.inj (Option.some.inj hh')).2.1)

theorem freeOf_lt {f : Nat → Row} {n p : Nat} (h : freeOf f n = some p) : p < n ∧ (f p).handle = 0 := by
  unfold freeOf at h
  rw [List.find?_eq_some_iff_getElem] at h
  obtain ⟨h1, i, hi, h2, -⟩ := h
  simp at hi h2
  subst h2
  exact ⟨hi, by simpa using h1⟩

structure Fresh (f : Nat → Row) (n : Nat) (G : List Int) (L : List Bool) (i : Nat) : Prop where
  rows : ∀ p, p < n → 0 ≤ (f p).times ∧ (f p).times ≤ i ∧ ((f p).handle = 0 ∨ (1 ≤ (f p).times ∧ (f p).handle = p + 1 + 64 * ((f p).times - 1)))
  len : L.length = G.length
  each : ∀ (j : Nat) (h : Int) (b : Bool), G[j]? = some h → L[j]? = some b → ∃ (p : Nat) (s : Int), p < n ∧ 0 ≤ s ∧ s < (f p).times ∧ h = p + 1 + 64 * s ∧ (b = true ↔ (f p).handle = h)
  nodup : ∀ (j j' : Nat) (h : Int), G[j]? = some h → G[j']? = some h → j = j'
  start : G = [] → freeOf f n ≠ none
  le : G.length ≤ i

theorem Fresh.zero {n : Nat} (hn : 1 ≤ n) : Fresh (fun _ => row0) n [] [] 0 :=
  ⟨fun p _ => by simp [row0], rfl, fun j h b h1 => by simp at h1, fun j j' h h1 => by simp at h1, fun _ => by rw [freeOf_some (p := 0) (by omega) rfl (fun q hq => by omega)]; simp, Nat.le_refl _⟩

theorem Fresh.mono {f : Nat → Row} {n : Nat} {G : List Int} {L : List Bool} {i i' : Nat} (h : Fresh f n G L i) (hi : i ≤ i') : Fresh f n G L i' :=
  ⟨fun p hp => by obtain ⟨h1, h2, h3⟩ := h.rows p hp; exact ⟨h1, by omega, h3⟩, h.len, h.each, h.nodup, h.start, Nat.le_trans h.le hi⟩

theorem Fresh.other {f : Nat → Row} {n : Nat} {G : List Int} {L : List Bool} {i p : Nat} (h : Fresh f n G L i) (hn : n ≤ 64) (hp : freeOf f n = some p) {j : Nat} {x : Int} (hx : G[j]? = some x) : x ≠ p + 1 + 64 * (f p).times := by
  obtain ⟨b, hb⟩ : ∃ b, L[j]? = some b := ⟨_, List.getElem?_eq_getElem (by rw [h.len]; exact (List.getElem?_eq_some_iff.1 hx).1)⟩
  obtain ⟨q, s, hq, h0, h1, h2, -⟩ := h.each j x b hx hb
  obtain ⟨hlt, -⟩ := freeOf_lt hp
  intro e
  have : q = p := by omega
  subst this
  omega

theorem Fresh.make {f : Nat → Row} {n : Nat} {G : List Int} {L : List Bool} {i p : Nat} (h : Fresh f n G L i) (hn : n ≤ 64) (hp : freeOf f n = some p) (kind addr : Int) {r : Int} (hr : p + 1 + 64 * (f p).times = r) :
    Fresh (fun q => if q = p then givenRow p (f p) kind addr else f q) n (G ++ [r]) (L ++ [true]) (i + 1) := by
  obtain ⟨hlt, hf0⟩ := freeOf_lt hp
  have hoth := fun {j : Nat} {x : Int} (hx : G[j]? = some x) => h.other hn hp hx
  rw [hr] at hoth
  have hlen := h.len
  have hget : ∀ {j : Nat} {x : Int}, (G ++ [r])[j]? = some x → (G[j]? = some x ∧ j < G.length) ∨ (j = G.length ∧ x = r) := by
    intro j x hx
    rw [List.getElem?_append] at hx
    split at hx
    · exact .inl ⟨hx, by assumption⟩
    · have hj : j - G.length < 1 := by
        have := (List.getElem?_eq_some_iff.1 hx).1
        simpa using this
      have e : j = G.length := by omega
      subst e
      simp at hx
      exact .inr ⟨rfl, hx.symm⟩
  refine ⟨?_, by simp [hlen], ?_, ?_, ?_, by simp; exact h.le⟩
  · intro q hq
    obtain ⟨h1, h2, h3⟩ := h.rows q hq
    by_cases e : q = p
    · subst e
      simp only [if_true, givenRow]
      refine ⟨by omega, by omega, .inr ⟨by omega, by omega⟩⟩
    · simp only [e, if_false]
      exact ⟨h1, by omega, h3⟩
  · intro j x b hx hb
    rcases hget hx with ⟨hx, hj⟩ | ⟨rfl, rfl⟩
    · rw [List.getElem?_append_left (by omega)] at hb
      obtain ⟨q, s, hq, h0, h1, h2, h3⟩ := h.each j x b hx hb
      by_cases e : q = p
      · subst e
        refine ⟨q, s, hq, h0, ?_, h2, ?_⟩
        · simp only [if_true, givenRow]; omega
        · simp only [if_true, givenRow]
          rw [h3, hf0]
          constructor
          · intro h4; omega
          · intro h4; omega
      · exact ⟨q, s, hq, h0, by simpa [e] using h1, h2, by simpa [e] using h3⟩
    · rw [← hlen, List.getElem?_concat_length] at hb
      cases hb
      refine ⟨p, (f p).times, hlt, (h.rows p hlt).1, ?_, hr.symm, ?_⟩
      · simp only [if_true, givenRow]; omega
      · simp [givenRow, hr]
  · intro j j' x hx hx'
    rcases hget hx with ⟨hx1, hj⟩ | ⟨e1, e2⟩
    · rcases hget hx' with ⟨hx2, hj'⟩ | ⟨e3, e4⟩
      · exact h.nodup j j' x hx1 hx2
      · exact absurd e4 (hoth hx1)
    · rcases hget hx' with ⟨hx2, hj'⟩ | ⟨e3, e4⟩
      · exact absurd e2 (hoth hx2)
      · rw [e1, e3]
  · intro e; simp at e

theorem placeOf_at {f : Nat → Row} {n p : Nat} {s : Int} (hn : n ≤ 64) (hp : p < n) (hs : 0 ≤ s) : placeOf f n (p + 1 + 64 * s) = if (f p).handle = p + 1 + 64 * s then some p else none := by
  unfold placeOf
  rw [if_neg (by omega), show (((p : Int) + 1 + 64 * s - 1) % 64).toNat = p by omega]
  simp only [hp, true_and]

theorem Fresh.gone {f : Nat → Row} {n : Nat} {G : List Int} {L : List Bool} {i k : Nat} {x : Int} {b : Bool} (h : Fresh f n G L i) (hn : n ≤ 64) (hx : G[k]? = some x) (hb : L[k]? = some b) :
    0 ≤ x ∧ x ≤ 64 + 64 * i ∧ (b = true → ∃ p, placeOf f n x = some p ∧ Fresh (fun q => if q = p then goneRow (f p) else f q) n G (L.set k false) i ∧ placeOf (fun q => if q = p then goneRow (f p) else f q) n x = none) ∧
    (b = false → placeOf f n x = none ∧ L.set k false = L) := by
  obtain ⟨p, s, hp, h0, h1, h2, h3⟩ := h.each k x b hx hb
  obtain ⟨t0, t1, -⟩ := h.rows p hp
  refine ⟨by omega, by omega, ?_⟩
  subst h2
  have hkl : k < L.length := (List.getElem?_eq_some_iff.1 hb).1
  cases b with
  | true =>
    have hh := h3.1 rfl
    refine ⟨fun _ => ⟨p, by rw [placeOf_at hn hp h0, if_pos hh], ⟨?_, by rw [List.length_set]; exact h.len, ?_, h.nodup, fun e => by rw [e] at hx; simp at hx, h.le⟩, ?_⟩, fun h => (by cases h)⟩
    · intro q hq
      obtain ⟨g1, g2, g3⟩ := h.rows q hq
      by_cases e : q = p
      · subst e
        simp only [if_true, goneRow]
        exact ⟨g1, g2, .inl trivial⟩
      · simp only [e, if_false]
        exact ⟨g1, g2, g3⟩
    · intro j y b' hy hb'
      by_cases e : j = k
      · subst e
        rw [hx] at hy
        cases hy
        rw [List.getElem?_set_self hkl] at hb'
        cases hb'
        refine ⟨p, s, hp, h0, by simpa [goneRow] using h1, rfl, ?_⟩
        simp [goneRow]; omega
      · rw [List.getElem?_set_ne (fun e' => e e'.symm)] at hb'
        obtain ⟨q, s', hq, g0, g1, g2, g3⟩ := h.each j y b' hy hb'
        by_cases eq : q = p
        · subst eq
          refine ⟨q, s', hq, g0, by simpa [goneRow] using g1, g2, ?_⟩
          simp only [if_true, goneRow]
          rw [g3, hh]
          constructor
          · intro e2
            exact absurd (h.nodup j k _ (by rw [hy, e2]) hx) e
          · intro e2; omega
        · exact ⟨q, s', hq, g0, by simpa [eq] using g1, g2, by simpa [eq] using g3⟩
    · rw [placeOf_at hn hp h0, if_neg]
      simp [goneRow]; omega
  | false =>
    refine ⟨fun h => (by cases h), fun _ => ⟨by rw [placeOf_at hn hp h0, if_neg]; intro e; exact absurd (h3.2 e) (by decide), ?_⟩⟩
    apply List.ext_getElem?
    intro j
    by_cases e : j = k
    · subst e; rw [List.getElem?_set_self hkl, hb]
    · rw [List.getElem?_set_ne (fun e' => e e'.symm)]

end Go.Proofs.YtecagnhffgajhaaDoor
