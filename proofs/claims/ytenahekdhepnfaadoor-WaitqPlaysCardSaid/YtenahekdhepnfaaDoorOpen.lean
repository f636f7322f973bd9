/- What a slice argument holds: rows of ints, or of structs whose fields are all ints. No program in sight. -/
import Derived.ProofKit
import Derived.OpenShut
import Derived.Below
import Derived.Deep.Grids
import Derived.Test.YtenahekdhepnfaaDoorLib
namespace Go.Proofs.YtenahekdhepnfaaDoor
open Go Go.ChangeShapes Go.WideShapes Go.ChangeAt Go.RowKit Go.Deep

/-- Rows of ints: kinds ks, values g. -/
structure IntRows (w : World) (a : Option Addr) (len : Nat) (ks : List IntKind) (g : Nat → Nat → Int) : Prop where
  cell : ∀ i, i < len → ∃ b off, a = some ⟨b, off, none⟩ ∧ b < w.heap.size ∧ ∀ j k, ks[j]? = some k → w.cell? ⟨b, off + i * ks.length + j, none⟩ = some (.int k (g i j))
  wf : ∀ i j k, i < len → ks[j]? = some k → (Lit.int k (g i j)).wf = true
  small : len ≤ maxLen

theorem IntRows.kept {w w' : World} {a : Option Addr} {len : Nat} {ks : List IntKind} {g : Nat → Nat → Int} (h : IntRows w a len ks g) (k : Kept [] w w') : IntRows w' a len ks g :=
  ⟨fun i hi => by
    obtain ⟨b, off, h1, h3, h2⟩ := h.cell i hi
    exact ⟨b, off, h1, Nat.lt_of_lt_of_le h3 k.size, fun j q hq => k.cellSome (h2 j q hq) (by simp)⟩, h.wf, h.small⟩

def flatFields (P : Program) (e : TypeId) (ks : List IntKind) : Bool :=
  match P.underlying e with
  | some (.struct fs) => fs.size == ks.length && P.cellsOf e == ks.length && (List.range ks.length).all fun j =>
      match fs[j]?, ks[j]? with
      | some f, some k => f.offset == j && P.cellsOf f.type == 1 && (match P.underlying f.type with | some (.int k') => decide (k' = k) | _ => false)
      | _, _ => false
  | _ => false

theorem flatFields_parts {P : Program} {e : TypeId} {ks : List IntKind} (h : flatFields P e ks = true) :
    ∃ fs : Array Field, P.underlying e = some (.struct fs) ∧ P.cellsOf e = ks.length ∧ ∀ j k, ks[j]? = some k → ∃ f : Field, fs[j]? = some f ∧ f.offset = j ∧ P.cellsOf f.type = 1 ∧ P.underlying f.type = some (.int k) := by
  unfold flatFields at h
  split at h
  · rename_i fs hu
    simp only [Bool.and_eq_true, beq_iff_eq, List.all_eq_true, List.mem_range] at h
    obtain ⟨⟨h1, h2⟩, h3⟩ := h
    refine ⟨fs, hu, h2, fun j k hk => ?_⟩
    have hj := h3 j (List.getElem?_eq_some_iff.1 hk).1
    rw [hk] at hj
    split at hj
    · rename_i f k' hf hk'
      cases hk'
      simp only [Bool.and_eq_true, beq_iff_eq] at hj
      obtain ⟨⟨q1, q2⟩, q3⟩ := hj
      refine ⟨f, hf, q1, q2, ?_⟩
      split at q3
      · rename_i k'' hu'
        rw [hu', of_decide_eq_true q3]
      · cases q3
    · cases hj
  · cases h

theorem intRows_of {H : Type} {enc : TypeId × Value → H} {P : Program} {w : World} {base : Nat} {sp : Nat → Bool} {held : Bool} {t e : TypeId} {ks : List IntKind} {a : Option Addr} {len cap : Nat} {d : DataW H} {p : List MemPlace}
    (ht : P.underlying t = some (.slice e)) (hz : P.cellsOf e = ks.length) (hk1 : 0 < ks.length)
    (hel : ∀ (n : Nat) (cs : List Value) x, DataW.trod enc P w base sp held n e cs = some x → ∀ (j : Nat) (k : IntKind), ks[j]? = some k → ∃ z, cs[j]? = some (Value.int k z) ∧ (Lit.int k z).wf = true)
    (h : DataW.Trod enc P w base sp held t (.slice a len cap) d p) : ∃ g, IntRows w a len ks g := by
  obtain ⟨fuel, hf⟩ := h
  rcases open_slice ht hf with ⟨hcs, _⟩ | ⟨x, l, c, m, n, D, Pl, hcs, _, hl, hm, hmm, _, hcell⟩
  · simp [Value.cells] at hcs
    obtain ⟨rfl, rfl, rfl⟩ := hcs
    exact ⟨fun _ _ => 0, fun i hi => by omega, fun i j k hi => by omega, by omega⟩
  · simp [Value.cells] at hcs
    obtain ⟨rfl, rfl, rfl⟩ := hcs
    have hlm : len ≤ m := by rw [hmm]; split <;> omega
    obtain ⟨b, off, spot⟩ := x
    have each : ∀ i, i < len → ∃ cs' : List Value, (∀ j, j < ks.length → w.cell? ((Addr.add ⟨b, off, spot⟩ (i * ks.length)).add j) = cs'[j]?) ∧ ∀ (j : Nat) (k : IntKind), ks[j]? = some k → ∃ z, cs'[j]? = some (Value.int k z) ∧ (Lit.int k z).wf = true := by
      intro i hi
      obtain ⟨cs', h1, h2⟩ := hcell i (by omega)
      rw [hz] at h1
      exact ⟨cs', (World.cells?_some h1).2.2, hel _ _ _ h2⟩
    have hspot : 0 < len → spot = none := by
      intro h0
      obtain ⟨cs', h1, h2⟩ := each 0 h0
      obtain ⟨k0, hk0⟩ : ∃ k, ks[0]? = some k := ⟨_, List.getElem?_eq_getElem hk1⟩
      obtain ⟨z, hz1, -⟩ := h2 0 k0 hk0
      have := h1 0 hk1
      rw [hz1] at this
      simpa [Addr.add] using World.cell?_spot this
    let num : Option Value → Int := fun v => match v with | some (.int _ z) => z | _ => 0
    refine ⟨fun i j => num (w.cell? ((Addr.add ⟨b, off, spot⟩ (i * ks.length)).add j)), fun i hi => ?_, fun i j k hi hk => ?_, by unfold maxLen at hm ⊢; omega⟩
    · have hsp := hspot (by omega)
      subst hsp
      obtain ⟨cs', h1, h2⟩ := each i hi
      have hc : ∀ j k, ks[j]? = some k → w.cell? ⟨b, off + i * ks.length + j, none⟩ = some (.int k (num (w.cell? ((Addr.add ⟨b, off, none⟩ (i * ks.length)).add j)))) := by
        intro j k hk
        obtain ⟨z, hz1, -⟩ := h2 j k hk
        have hj := h1 j (List.getElem?_eq_some_iff.1 hk).1
        rw [hz1] at hj
        rw [hj]
        rw [Addr.add_lit, Addr.add_lit] at hj
        rw [hj]
      refine ⟨b, off, rfl, ?_, hc⟩
      obtain ⟨k0, hk0⟩ : ∃ k, ks[0]? = some k := ⟨_, List.getElem?_eq_getElem hk1⟩
      exact World.block_lt_of_cell? _ _ (hc 0 k0 hk0)
    · obtain ⟨cs', h1, h2⟩ := each i hi
      obtain ⟨z, hz1, hz2⟩ := h2 j k hk
      have hj := h1 j (List.getElem?_eq_some_iff.1 hk).1
      rw [hz1] at hj
      show (Lit.int k (num (w.cell? ((Addr.add ⟨b, off, spot⟩ (i * ks.length)).add j)))).wf = true
      rw [hj]
      exact hz2

theorem intRows_ints {H : Type} {enc : TypeId × Value → H} {P : Program} {w : World} {base : Nat} {sp : Nat → Bool} {held : Bool} {t e : TypeId} {k : IntKind} {a : Option Addr} {len cap : Nat} {d : DataW H} {p : List MemPlace}
    (ht : P.underlying t = some (.slice e)) (he : P.underlying e = some (.int k)) (hz : P.cellsOf e = 1) (h : DataW.Trod enc P w base sp held t (.slice a len cap) d p) : ∃ g, IntRows w a len [k] g := by
  refine intRows_of ht hz (Nat.lt_succ_self 0) ?_ h
  intro n cs x hx j k' hk'
  obtain ⟨z, rfl, _, hw⟩ := DataW.trod_int he hx
  match j, hk' with
  | 0, hk' => cases hk'; exact ⟨z, rfl, hw⟩

theorem intRows_struct {H : Type} {enc : TypeId × Value → H} {P : Program} {w : World} {base : Nat} {sp : Nat → Bool} {held : Bool} {t e : TypeId} {ks : List IntKind} {a : Option Addr} {len cap : Nat} {d : DataW H} {p : List MemPlace}
    (ht : P.underlying t = some (.slice e)) (he : flatFields P e ks = true) (hk1 : 0 < ks.length) (h : DataW.Trod enc P w base sp held t (.slice a len cap) d p) : ∃ g, IntRows w a len ks g := by
  obtain ⟨fs, hu, hz, hfs⟩ := flatFields_parts he
  refine intRows_of ht hz hk1 ?_ h
  intro n cs x hx j k hk
  obtain ⟨xs, n', _, _, hl, hlen, hf⟩ := DataW.trod_struct hu hx
  obtain ⟨f, hf0, h1, h2, h3⟩ := hfs j k hk
  have hg := hf j f hf0
  have hjx : j < xs.length := by rw [hlen]; exact (Array.getElem?_eq_some_iff.1 hf0).1
  rw [List.getElem?_eq_getElem hjx] at hg
  obtain ⟨z, hz1, _, hw⟩ := DataW.trod_int h3 hg
  refine ⟨z, ?_, hw⟩
  rw [h1, h2] at hz1
  have : ((cs.drop j).take 1)[0]? = some (.int k z) := by rw [hz1]; rfl
  simpa using this

/-- A slice of bools. -/
structure BoolsAt (w : World) (a : Option Addr) (len : Nat) (g : Nat → Bool) : Prop where
  cell : ∀ i, i < len → ∃ b off, a = some ⟨b, off, none⟩ ∧ b < w.heap.size ∧ w.cell? ⟨b, off + i, none⟩ = some (.bool (g i))
  small : len ≤ maxLen
theorem BoolsAt.kept {w w' : World} {a : Option Addr} {len : Nat} {g : Nat → Bool} (h : BoolsAt w a len g) (k : Kept [] w w') : BoolsAt w' a len g :=
  ⟨fun i hi => by
    obtain ⟨b, off, h1, h3, h2⟩ := h.cell i hi
    exact ⟨b, off, h1, Nat.lt_of_lt_of_le h3 k.size, k.cellSome h2 (by simp)⟩, h.small⟩
theorem boolsAt_of {H : Type} {enc : TypeId × Value → H} {P : Program} {w : World} {base : Nat} {held : Bool} {t e : TypeId} {a : Option Addr} {len cap : Nat} {d : DataW H} {p : List MemPlace}
    (ht : P.underlying t = some (.slice e)) (he : P.underlying e = some .bool) (hz : P.cellsOf e = 1) (h : DataW.Trod enc P w base (fun _ => true) held t (.slice a len cap) d p) : ∃ g, BoolsAt w a len g := by
  obtain ⟨fuel, hf⟩ := h
  rcases open_bools ht he hz hf with ⟨hcs, _⟩ | ⟨x, l, c, B, hcs, _, hl, hm, _, hcell⟩
  · simp [Value.cells] at hcs
    obtain ⟨rfl, rfl, rfl⟩ := hcs
    exact ⟨fun _ => false, fun i hi => by omega, by omega⟩
  · simp [Value.cells] at hcs
    obtain ⟨rfl, rfl, rfl⟩ := hcs
    refine ⟨B, fun i hi => ?_, by unfold maxLen at hm ⊢; omega⟩
    obtain ⟨b, off, spot⟩ := x
    have hc := hcell i (by omega)
    have hspot : spot = none := by
      have h00 := hcell 0 (by omega)
      simpa [Addr.add] using World.cell?_spot h00
    subst hspot
    rw [Addr.add_lit] at hc
    exact ⟨b, off, rfl, World.block_lt_of_cell? _ _ hc, hc⟩

end Go.Proofs.YtenahekdhepnfaaDoor
