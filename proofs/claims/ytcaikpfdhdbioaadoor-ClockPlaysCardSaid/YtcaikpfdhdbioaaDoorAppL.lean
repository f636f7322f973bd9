/- 'append(s, x)', one element more, and where the row lies then. No program in sight. -/
import Derived.Test.YtcaikpfdhdbioaaDoorLib
import Derived.Deep.AppendLies
namespace Go.Proofs.YtcaikpfdhdbioaaDoor
open Go Go.RowKit

theorem wp_app1L {P : Program} {ops : Array Oper} {rest : List Oper} {o : Oper} {a : Act} {Q : Exit → Act → World → Prop} {w : World} (hgd : o.guard = none) (s x : Operand) (T E : Nat)
    (ho : o.op = .call { callee := .builtin .append, args := #[s, x], argTypes := #[T, T] }) (hT : P.underlying T = some (.slice E)) {z : Value} {size bytes : Nat}
    (hi : (P.info? E).map (fun i => (i.zero, i.size, i.bytes)) = some (some z, size, bytes)) (hzs : z.cells.size = size) (hsz : 0 < size) (base : Nat) (v : Value) (n : Nat) (xs : List Value)
    (hs : a.eval s = v) (hown : w.ownsRow base E size v n xs) (b c : Nat) (news : List Value) (hx : a.eval x = .slice (some ⟨b, 0, none⟩) 1 c) (hl : news.length = size) (hb : Blk w b news)
    (h1 : ∀ u, u ∈ news → u.oneCell' = true) (hn : n ≤ 1000000000) (hby : bytes ≤ 10000) (hbase : base ≤ w.heap.size)
    (h : ∀ g cap w', w'.ownsRow base E size (.slice (some ⟨g, 0, none⟩) (n + 1) cap) (n + 1) (xs ++ news) → (v.ownBlock = some g ∨ w.heap.size ≤ g) → Kept v.ownBlock.toList w w' → wpList P ops Q rest (a.put o.dst (.slice (some ⟨g, 0, none⟩) (n + 1) cap)) w') :
    wpList P ops Q (o :: rest) a w := by
  obtain ⟨i, hi0, hz0, hz1, hz2⟩ := info_parts hi
  refine wpList_append_lies w hgd s x T ho base E i z size bytes hT hi0 hz0 hz1 hz2 hzs hsz v n xs hs hown ⟨b, 0, none⟩ 1 c news hx (by omega) (fun j u hu => by rw [Addr.add_lit, Nat.zero_add]; exact hb.cell hu) h1 (by decide) (by unfold maxLen; omega)
    (Nat.le_trans (Nat.mul_le_mul (show n + 1 ≤ 1000000001 by omega) hby) (by decide)) hbase w.heap.size rfl ?_
  intro g cap w' hown' hgrow hat _
  refine h g cap w' hown' ?_ ((Kept.refl _ _).grown hgrow (fun k e => .inl (by rw [e]; simp)))
  rcases hat with h1 | h1
  · exact .inl h1
  · exact .inr (by omega)

end Go.Proofs.YtcaikpfdhdbioaaDoor
