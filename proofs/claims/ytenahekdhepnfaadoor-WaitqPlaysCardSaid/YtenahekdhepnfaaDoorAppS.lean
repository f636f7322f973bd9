/- Appends at a step of a region that draws its order. No program in sight. -/
import Derived.Test.YtenahekdhepnfaaDoorApp
namespace Go.Proofs.YtenahekdhepnfaaDoor
open Go Go.RowKit

theorem step_appN {P : Program} {ops : Array Oper} {o : Oper} {a : Act} {K : Act → World → Prop} {Q : Exit → Act → World → Prop} {E' : Prop} {w : World} (hgd : o.guard = none) (s x : Operand) (T E : Nat)
    (ho : o.op = .call { callee := .builtin .append, args := #[s, x], argTypes := #[T, T] }) (hT : P.underlying T = some (.slice E)) {z : Value} {size bytes : Nat}
    (hi : (P.info? E).map (fun i => (i.zero, i.size, i.bytes)) = some (some z, size, bytes)) (hzs : z.cells.size = size) (hsz : 0 < size) (base : Nat) (v : Value) (n : Nat) (xs : List Value)
    (hs : a.eval s = v) (hown : w.ownsRow base E size v n xs) (xv : Value) (m : Nat) (news : List Value) (hxv : a.eval x = xv) (hx : Src w xv m size news)
    (h1 : ∀ u, u ∈ news → u.oneCell' = true) (hn : n + m ≤ 1000000000) (hby : bytes ≤ 10000) (hbase : base ≤ w.heap.size)
    (h : ∀ v' w', w'.ownsRow base E size v' (n + m) (xs ++ news) → Kept v.ownBlock.toList w w' → K (a.put o.dst v') w') :
    if Region.wanted o (yielded ops a.tmps) = true then Oper.wp P o a w K Q else E' := by
  have hw : Region.wanted o (yielded ops a.tmps) = true := by simp [Region.wanted, hgd]
  rw [if_pos hw]
  obtain ⟨i, hi0, hz0, hz1, hz2⟩ := info_parts hi
  obtain ⟨hl, hx2⟩ := hx
  rcases hx2 with ⟨hx2, rfl⟩ | ⟨g0, i0, c, hx2, hc⟩
  · obtain rfl : news = [] := List.eq_nil_of_length_eq_zero (by simpa using hl)
    exact wp_append_nilsrc s x T ho base E i size hT hi0 v n xs hs hown (hxv.trans hx2) (h v w (by simpa using hown) (Kept.refl _ _))
  · refine wp_append_own w s x T ho base E i z size bytes hT hi0 hz0 hz1 hz2 hzs hsz v n xs hs hown ⟨g0, i0, none⟩ m c news (hxv.trans hx2) hl (fun j u hu => by rw [Addr.add_lit]; exact hc j u hu) h1 (by unfold maxLen; omega)
      (Nat.le_trans (Nat.mul_le_mul (show n + m ≤ 1000000001 by omega) hby) (by decide)) hbase ?_
    intro v' w' hown' hgrow _
    exact h v' w' hown' ((Kept.refl _ _).grown hgrow (fun k e => .inl (by rw [e]; simp)))

theorem step_app1 {P : Program} {ops : Array Oper} {o : Oper} {a : Act} {K : Act → World → Prop} {Q : Exit → Act → World → Prop} {E' : Prop} {w : World} (hgd : o.guard = none) (s x : Operand) (T E : Nat)
    (ho : o.op = .call { callee := .builtin .append, args := #[s, x], argTypes := #[T, T] }) (hT : P.underlying T = some (.slice E)) {z : Value} {size bytes : Nat}
    (hi : (P.info? E).map (fun i => (i.zero, i.size, i.bytes)) = some (some z, size, bytes)) (hzs : z.cells.size = size) (hsz : 0 < size) (base : Nat) (v : Value) (n : Nat) (xs : List Value)
    (hs : a.eval s = v) (hown : w.ownsRow base E size v n xs) (b c : Nat) (news : List Value) (hx : a.eval x = .slice (some ⟨b, 0, none⟩) 1 c) (hl : news.length = size) (hb : Blk w b news)
    (h1 : ∀ u, u ∈ news → u.oneCell' = true) (hn : n ≤ 100000000) (hby : bytes ≤ 10000) (hbase : base ≤ w.heap.size)
    (h : ∀ g cap w', w'.ownsRow base E size (.slice (some ⟨g, 0, none⟩) (n + 1) cap) (n + 1) (xs ++ news) → Kept v.ownBlock.toList w w' → K (a.put o.dst (.slice (some ⟨g, 0, none⟩) (n + 1) cap)) w') :
    if Region.wanted o (yielded ops a.tmps) = true then Oper.wp P o a w K Q else E' := by
  refine step_appN hgd s x T E ho hT hi hzs hsz base v n xs hs hown _ 1 news hx ⟨by rw [Nat.one_mul]; exact hl, .inr ⟨b, 0, c, rfl, fun j u hu => by rw [Nat.zero_add]; exact hb.cell hu⟩⟩ h1 (by omega) hby hbase ?_
  intro v' w' hown' hK
  obtain ⟨g, cap, rfl, hg⟩ := own_form hown'
  exact h g cap w' hown' hK

end Go.Proofs.YtenahekdhepnfaaDoor
