/- Appends of many elements, also of none and of nil; the cells of a slice that lies anywhere. No program in sight. -/
import Derived.Test.YtenahekdhepnfaaDoorLib
namespace Go.Proofs.YtenahekdhepnfaaDoor
open Go Go.RowKit

/-- x is a slice of m elements (size cells each) whose cells are these. -/
def Src (w : World) (x : Value) (m size : Nat) (news : List Value) : Prop :=
  news.length = m * size ∧ ((x = .slice none 0 0 ∧ m = 0) ∨ ∃ g i c, x = .slice (some ⟨g, i, none⟩) m c ∧ ∀ (j : Nat) u, news[j]? = some u → w.cell? ⟨g, i + j, none⟩ = some u)

theorem Src.kept {S : List Nat} {w w' : World} {x : Value} {m size : Nat} {news : List Value} (h : Src w x m size news) (k : Kept S w w') (hS : ∀ a n c, x = .slice (some a) n c → a.block ∉ S) : Src w' x m size news := by
  refine ⟨h.1, ?_⟩
  rcases h.2 with h2 | ⟨g, i, c, rfl, h2⟩
  · exact .inl h2
  · exact .inr ⟨g, i, c, rfl, fun j u hu => k.cellSome (h2 j u hu) (hS ⟨g, i, none⟩ m c rfl)⟩
theorem Src.keptN {w w' : World} {x : Value} {m size : Nat} {news : List Value} (h : Src w x m size news) (k : Kept [] w w') : Src w' x m size news := h.kept k (fun _ _ _ _ => by simp)
theorem Src.nil (w : World) (size : Nat) : Src w (.slice none 0 0) 0 size [] := ⟨by simp, .inl ⟨rfl, rfl⟩⟩
theorem Src.blk {w : World} {b c : Nat} {xs : List Value} (h : Blk w b xs) : Src w (.slice (some ⟨b, 0, none⟩) xs.length c) xs.length 1 xs := ⟨by simp, .inr ⟨_, _, _, rfl, fun j u hu => by rw [Nat.zero_add]; exact h.cell hu⟩⟩
theorem Src.empty (w : World) (g i c size : Nat) : Src w (.slice (some ⟨g, i, none⟩) 0 c) 0 size [] := ⟨by simp, .inr ⟨_, _, _, rfl, fun j u hu => by simp at hu⟩⟩

theorem own_src {w : World} {base : Nat} {e : TypeId} {size : Nat} {v : Value} {n : Nat} {xs : List Value} (h : w.ownsRow base e size v n xs) : Src w v n size xs := by
  refine ⟨h.1, ?_⟩
  obtain ⟨a, cap, rfl⟩ := own_form' h
  cases a with
  | none =>
    rcases h.2 with h2 | ⟨g, cap', cur, h2, _⟩
    · obtain ⟨e1, rfl⟩ := h2
      exact .inl ⟨e1, rfl⟩
    · cases h2
  | some a =>
    rcases h.2 with ⟨h2, _⟩ | ⟨g, cap', cur, h2, _⟩
    · cases h2
    · cases h2
      exact .inr ⟨_, _, _, rfl, fun j u hu => by rw [Nat.zero_add]; exact own_cell h hu⟩

theorem Src.cell {w : World} {g i n m c size : Nat} {news : List Value} (h : Src w (.slice (some ⟨g, i, none⟩) n c) m size news) {j : Nat} {u : Value} (hu : news[j]? = some u) : w.cell? ⟨g, i + j, none⟩ = some u := by
  rcases h.2 with ⟨h2, _⟩ | ⟨g', i', c', h2, h3⟩
  · cases h2
  · cases h2
    exact h3 j u hu
theorem Src.form {w : World} {x : Value} {m size : Nat} {news : List Value} (h : Src w x m size news) : ∃ a c, x = .slice a m c := by
  rcases h.2 with ⟨rfl, rfl⟩ | ⟨g, i, c, rfl, _⟩
  · exact ⟨_, _, rfl⟩
  · exact ⟨_, _, rfl⟩
theorem Src.some {w : World} {x : Value} {m size : Nat} {news : List Value} (h : Src w x (m + 1) size news) : ∃ g i c, x = .slice (some ⟨g, i, none⟩) (m + 1) c := by
  rcases h.2 with ⟨rfl, h0⟩ | ⟨g, i, c, rfl, _⟩
  · omega
  · exact ⟨_, _, _, rfl⟩
/-- The j-th element's cell, the slice's form taken apart. -/
theorem Src.at {w : World} {a : Option Addr} {m c : Nat} {news : List Value} (h : Src w (.slice a m c) m 1 news) {j : Nat} {u : Value} (hu : news[j]? = Option.some u) : ∃ g i, a = Option.some ⟨g, i, none⟩ ∧ w.cell? ⟨g, i + j, none⟩ = Option.some u := by
  have hj := (List.getElem?_eq_some_iff.1 hu).1
  rw [h.1] at hj
  rcases h.2 with ⟨h2, h0⟩ | ⟨g, i, c', h2, h3⟩
  · omega
  · cases h2
    exact ⟨g, i, rfl, h3 j u hu⟩

theorem run_append_nilsrc {P : Program} {w : World} (t ty e : TypeId) (i : TypeInfo) (ht : P.underlying t = some (.slice e)) (hi : P.info? e = some i) (base : Nat) (size : Nat) (v : Value) (n : Nat) (xs : List Value) (hown : w.ownsRow base e size v n xs) :
    (Builtin.append_ #[t, t] ty #[v, .slice none 0 0]).run P w = .ok v w := by
  rcases hown.2 with ⟨rfl, rfl⟩ | ⟨g, cap, cur, rfl, hg, hh, hn, hc, r⟩
  · simp [Builtin.append_, run_underlying ht, sizeOf, typeInfo, hi, Builtin.lenOf, Builtin.firstCells]
  · simp [Builtin.append_, run_underlying ht, sizeOf, typeInfo, hi, Builtin.lenOf, Builtin.firstCells, hn, storeCells]

theorem wp_append_nilsrc {P : Program} {w : World} {o : Oper} {a : Act} {K : Act → World → Prop} {Q : Exit → Act → World → Prop} (s x : Operand) (t : TypeId)
    (ho : o.op = .call { callee := .builtin .append, args := #[s, x], argTypes := #[t, t] })
    (base : Nat) (e : TypeId) (i : TypeInfo) (size : Nat) (ht : P.underlying t = some (.slice e)) (hi : P.info? e = some i)
    (v : Value) (n : Nat) (xs : List Value) (hs : a.eval s = v) (hown : w.ownsRow base e size v n xs)
    (hx : a.eval x = .slice none 0 0) (h : K (a.put o.dst v) w) : o.wp P a w K Q := by
  have hr := run_append_nilsrc t o.type e i ht hi base size v n xs hown
  unfold Oper.wp execOp
  simp only [ho, resolve, invoke, builtin, Sem.run_bind, Sem.run_pure, Result.andThen_ok, List.map_toArray, List.map_cons, List.map_nil, hs, hx, hr]
  exact h

/-- 'append(s, x...)', s a row of the call's own, x any slice: the walk's law. -/
theorem wp_appN {P : Program} {ops : Array Oper} {rest : List Oper} {o : Oper} {a : Act} {Q : Exit → Act → World → Prop} {w : World} (hgd : o.guard = none) (s x : Operand) (T E : Nat)
    (ho : o.op = .call { callee := .builtin .append, args := #[s, x], argTypes := #[T, T] }) (hT : P.underlying T = some (.slice E)) {z : Value} {size bytes : Nat}
    (hi : (P.info? E).map (fun i => (i.zero, i.size, i.bytes)) = some (some z, size, bytes)) (hzs : z.cells.size = size) (hsz : 0 < size) (base : Nat) (v : Value) (n : Nat) (xs : List Value)
    (hs : a.eval s = v) (hown : w.ownsRow base E size v n xs) (xv : Value) (m : Nat) (news : List Value) (hxv : a.eval x = xv) (hx : Src w xv m size news)
    (h1 : ∀ u, u ∈ news → u.oneCell' = true) (hn : n + m ≤ 1000000000) (hby : bytes ≤ 10000) (hbase : base ≤ w.heap.size)
    (h : ∀ v' w', w'.ownsRow base E size v' (n + m) (xs ++ news) → Kept v.ownBlock.toList w w' → (v' = .slice none 0 0 → v = .slice none 0 0) → wpList P ops Q rest (a.put o.dst v') w') :
    wpList P ops Q (o :: rest) a w := by
  obtain ⟨i, hi0, hz0, hz1, hz2⟩ := info_parts hi
  obtain ⟨hl, hx2⟩ := hx
  rcases hx2 with ⟨hx2, rfl⟩ | ⟨g0, i0, c, hx2, hc⟩
  · obtain rfl : news = [] := List.eq_nil_of_length_eq_zero (by simpa using hl)
    refine wpList_plain hgd fun K hK => wp_append_nilsrc s x T ho base E i size hT hi0 v n xs hs hown (hxv.trans hx2) (hK _ _ (h v w (by simpa using hown) (Kept.refl _ _) (fun e => e)))
  · refine wpList_append_own w hgd s x T ho base E i z size bytes hT hi0 hz0 hz1 hz2 hzs hsz v n xs hs hown ⟨g0, i0, none⟩ m c news (hxv.trans hx2) hl (fun j u hu => by rw [Addr.add_lit]; exact hc j u hu) h1 (by unfold maxLen; omega)
      (Nat.le_trans (Nat.mul_le_mul (show n + m ≤ 1000000001 by omega) hby) (by decide)) hbase ?_
    intro v' w' hown' hgrow he
    exact h v' w' hown' ((Kept.refl _ _).grown hgrow (fun k e => .inl (by rw [e]; simp))) (fun e => (he.1 e).1)

end Go.Proofs.YtenahekdhepnfaaDoor
