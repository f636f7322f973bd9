/- For a range over a function: what stays as it was. No program in sight. -/
import Derived.RangeFuncBox
import Derived.RangeFuncLeaves
import Derived.Shelf.Abstract
import Derived.OwnWalkIn
import Derived.TacticsInMore
import Derived.LoopNIn
import Derived.LoopIn
import Derived.Test.YtccfkpopjapmnaaDoorLib
namespace Go.Proofs.YtccfkpopjapmnaaDoor
open Go Go.RowKit Go.Shelf

/-- Rows of cells lie as they lay, but for block bx. -/
def KeepsC (bx : Nat) (W W' : World) : Prop := W.heap.size ≤ W'.heap.size ∧ ∀ k c t z, k ≠ bx → W.heap[k]? = some (.cells c t z) → W'.heap[k]? = some (.cells c t z)
theorem keepsC_t {bx : Nat} {A B C : World} (h : KeepsC bx A B) (k : KeepsC bx B C) : KeepsC bx A C := ⟨Nat.le_trans h.1 k.1, fun i c t z hi hc => k.2 i c t z hi (h.2 i c t z hi hc)⟩
theorem keepsC_b {bx : Nat} {w : World} (W : World) (l : Nat) (o o' : Obj) (_ : w.heap.size ≤ l) (h : W.heap[l]? = some o) (ho : o.isCells = false) (_ : o.isWalk = false) : KeepsC bx W (W.putObj l o') := by
  refine ⟨by simp, fun k c t z _ hc => ?_⟩
  have hk : k ≠ l := by
    rintro rfl
    rw [h] at hc
    cases hc
    simp [Obj.isCells] at ho
  rw [World.putObj_heap_other hk]
  exact hc
theorem own_keepsC {bx : Nat} {w w' : World} {base : Nat} {e : TypeId} {size : Nat} {v : Value} {n : Nat} {xs : List Value} (h : w.ownsRow base e size v n xs) (k : KeepsC bx w w') (hS : ∀ b, b ∈ v.ownBlock.toList → b ≠ bx) : w'.ownsRow base e size v n xs := by
  refine ⟨h.1, ?_⟩
  rcases h.2 with h2 | ⟨g, cap, cur, rfl, hg, hh, r⟩
  · exact .inl h2
  · exact .inr ⟨g, cap, cur, rfl, hg, k.2 g _ _ _ (hS g (by simp [Value.ownBlock])) hh, r⟩

theorem grown_trans_none {a b c : World} (h : a.grownBy b none) {row : Option Nat} (k : b.grownBy c row) (hr : ∀ r, row = some r → a.heap.size ≤ r) : a.grownBy c none :=
  ⟨k.os.trans h.os, k.tape.trans h.tape, k.output.trans h.output, Nat.le_trans h.size k.size,
    fun i hi _ => (k.block i (Nat.lt_of_lt_of_le hi h.size) (fun e => by have := hr i e.symm; omega)).trans (h.block i hi (by simp))⟩

theorem keepsC_set {bx : Nat} (W : World) (v : Value) : KeepsC bx W (W.setCell ⟨bx, 0, none⟩ v) :=
  ⟨by simp, fun k c t z hk hc => by rw [Below.heap_setCell _ _ _ _ hk]; exact hc⟩

theorem grown_drewN {w : World} (m : Nat) : w.grownBy (w.drewN m) none := ⟨rfl, rfl, rfl, Nat.le_refl _, fun _ _ _ => rfl⟩

/-- 'append(s, x)', one element more, s a row of the call's own: the fenced walk's law. -/
theorem wp_app1_in {F : Fence} {nf : Nat} {P : Program} {ops : Array Oper} {rest : List Oper} {o : Oper} {a : Act} {Q : Exit → Act → World → Prop} {w : World} (hgd : o.guard = none) (s x : Operand) (T E : Nat)
    (ho : o.op = .call { callee := .builtin .append, args := #[s, x], argTypes := #[T, T] }) (hT : P.underlying T = some (.slice E)) {z : Value} {size bytes : Nat}
    (hi : (P.info? E).map (fun i => (i.zero, i.size, i.bytes)) = some (some z, size, bytes)) (hzs : z.cells.size = size) (hsz : 0 < size) (base : Nat) (v : Value) (n : Nat) (xs : List Value)
    (hs : a.eval s = v) (hown : w.ownsRow base E size v n xs) (b c : Nat) (news : List Value) (hx : a.eval x = .slice (some ⟨b, 0, none⟩) 1 c) (hl : news.length = size) (hb : Blk w b news)
    (h1 : ∀ u, u ∈ news → u.oneCell' = true) (hn : n ≤ 1000000000) (hby : bytes ≤ 10000) (hbase : base ≤ w.heap.size)
    (h : ∀ g cap w', w'.ownsRow base E size (.slice (some ⟨g, 0, none⟩) (n + 1) cap) (n + 1) (xs ++ news) → base ≤ g → w.grownBy w' v.ownBlock → wpListIn F nf P ops Q rest (a.put o.dst (.slice (some ⟨g, 0, none⟩) (n + 1) cap)) w') :
    wpListIn F nf P ops Q (o :: rest) a w := by
  obtain ⟨i, hi0, hz0, hz1, hz2⟩ := info_parts hi
  refine wpListIn_append_own w hgd s x T ho base E i z size bytes hT hi0 hz0 hz1 hz2 hzs hsz v n xs hs hown ⟨b, 0, none⟩ 1 c news hx (by omega) (fun j u hu => by rw [Addr.add_lit, Nat.zero_add]; exact hb.cell hu) h1 (by unfold maxLen; omega)
    (Nat.le_trans (Nat.mul_le_mul (show n + 1 ≤ 1000000001 by omega) hby) (by decide)) hbase ?_
  intro v' w' hown' hgrow _
  obtain ⟨g, cap, rfl, hg⟩ := own_form hown'
  exact h g cap w' hown' hg hgrow
theorem Kept.of_grown {w w' : World} {row : Option Nat} (h : w.grownBy w' row) : Kept row.toList w w' := (Kept.refl _ _).grown h (fun k e => .inl (by rw [e]; simp))

end Go.Proofs.YtccfkpopjapmnaaDoor
