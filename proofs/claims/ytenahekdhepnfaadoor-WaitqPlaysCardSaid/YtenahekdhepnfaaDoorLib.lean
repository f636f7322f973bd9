/- General lemmas on blocks of memory that the law's own call makes: what a block holds, what is kept. No program in sight. -/
import Derived.WalkKit
import Derived.Deep.Draws
namespace Go.Proofs.YtenahekdhepnfaaDoor
open Go Go.RowKit

theorem hid {p : Prop} (h : p) : Hid p := h

/-- Block b is a row of cells that holds just these values; nothing of it is frozen. -/
def Blk (w : World) (b : Nat) (c : List Value) : Prop := ∃ t, w.heap[b]? = some (.cells c.toArray t (0, 0))

theorem Blk.lt {w : World} {b : Nat} {c : List Value} (h : Blk w b c) : b < w.heap.size := by
  obtain ⟨t, h⟩ := h
  exact (Array.getElem?_eq_some_iff.1 h).1

theorem Blk.cell {w : World} {b : Nat} {c : List Value} (h : Blk w b c) {o : Nat} {v : Value} (hv : c[o]? = some v) : w.cell? ⟨b, o, none⟩ = some v := by
  obtain ⟨t, h⟩ := h
  simp [World.cell?, h, hv]

theorem Blk.frozen {w : World} {b : Nat} {c : List Value} (h : Blk w b c) (o : Nat) : w.frozen? ⟨b, o, none⟩ = false := by
  obtain ⟨t, h⟩ := h
  simp [World.frozen?, h]

theorem Blk.alloc {w : World} {b : Nat} {c : List Value} (h : Blk w b c) (o : Obj) : Blk (w.alloc o) b c := by
  have hl := h.lt
  obtain ⟨t, h⟩ := h
  exact ⟨t, by rw [Below.heap_alloc _ _ _ hl]; exact h⟩

theorem Blk.new (w : World) (c : List Value) (t : TypeId) : Blk (w.alloc (.cells c.toArray t)) w.heap.size c := ⟨t, by show (w.heap.push _)[w.heap.size]? = _; simp⟩
theorem Blk.new' {w : World} {n : Nat} (c : List Value) (t : TypeId) (hn : n = w.heap.size) : Blk (w.alloc (.cells c.toArray t)) n c := by subst hn; exact Blk.new w c t
theorem Blk.newA {w : World} {n : Nat} (c : Array Value) (t : TypeId) (hn : n = w.heap.size) : Blk (w.alloc (.cells c t)) n c.toList := by subst hn; exact ⟨t, by show (w.heap.push _)[w.heap.size]? = _; simp⟩

theorem Blk.set {w : World} {b : Nat} {c : List Value} (h : Blk w b c) (o : Nat) (v : Value) : Blk (w.setCell ⟨b, o, none⟩ v) b (c.set o v) := by
  obtain ⟨t, h⟩ := h
  exact ⟨t, by simp [World.setCell, Array.getElem?_modify, h]⟩

theorem Blk.set_ne {w : World} {b : Nat} {c : List Value} (h : Blk w b c) {b' : Nat} (o : Nat) (s : Option Nat) (v : Value) (hb : b ≠ b') : Blk (w.setCell ⟨b', o, s⟩ v) b c := by
  obtain ⟨t, h⟩ := h
  exact ⟨t, by rw [Below.heap_setCell _ _ _ _ hb]; exact h⟩

theorem Blk.drew {w : World} {b : Nat} {c : List Value} (h : Blk w b c) : Blk w.drew b c := h
theorem Blk.drewN {w : World} {b : Nat} {c : List Value} (h : Blk w b c) (n : Nat) : Blk (w.drewN n) b c := h

theorem Blk.uniq {w : World} {b : Nat} {c d : List Value} (h : Blk w b c) (h' : Blk w b d) : c = d := by
  obtain ⟨t, h⟩ := h
  obtain ⟨t', h'⟩ := h'
  rw [h] at h'
  have e := (Obj.cells.inj (Option.some.inj h')).1
  simpa using e

theorem Blk.eq {w : World} {b : Nat} {c d : List Value} (h : Blk w b c) (e : c = d) : Blk w b d := e ▸ h

/-- What lay there when w was, but for the blocks S, lies there still in w'. -/
structure Kept (S : List Nat) (w w' : World) : Prop where
  os : w'.os = w.os
  tape : w'.tape = w.tape
  output : w'.output = w.output
  size : w.heap.size ≤ w'.heap.size
  block : ∀ k, k < w.heap.size → k ∉ S → w'.heap[k]? = w.heap[k]?

theorem Kept.refl (S : List Nat) (w : World) : Kept S w w := ⟨rfl, rfl, rfl, Nat.le_refl _, fun _ _ _ => rfl⟩
theorem Kept.trans {S : List Nat} {a b c : World} (h : Kept S a b) (k : Kept S b c) : Kept S a c :=
  ⟨k.os.trans h.os, k.tape.trans h.tape, k.output.trans h.output, Nat.le_trans h.size k.size,
    fun i hi hs => (k.block i (Nat.lt_of_lt_of_le hi h.size) hs).trans (h.block i hi hs)⟩
/-- .. where the second step may turn blocks that were not there at the start. -/
theorem Kept.trans' {S T : List Nat} {a b c : World} (h : Kept S a b) (k : Kept T b c) (hT : ∀ x, x ∈ T → x ∈ S ∨ a.heap.size ≤ x) : Kept S a c :=
  ⟨k.os.trans h.os, k.tape.trans h.tape, k.output.trans h.output, Nat.le_trans h.size k.size,
    fun i hi hs => (k.block i (Nat.lt_of_lt_of_le hi h.size) (fun hm => by rcases hT i hm with h1 | h1; exact hs h1; omega)).trans (h.block i hi hs)⟩
theorem Kept.mono {S T : List Nat} {a b : World} (h : Kept S a b) (hST : ∀ x, x ∈ S → x ∈ T) : Kept T a b :=
  ⟨h.os, h.tape, h.output, h.size, fun i hi hs => h.block i hi (fun hm => hs (hST i hm))⟩
theorem Kept.nil {T : List Nat} {a b : World} (h : Kept [] a b) : Kept T a b := h.mono (fun _ hx => by cases hx)
theorem Kept.drew {S : List Nat} {a w : World} (h : Kept S a w) : Kept S a w.drew := ⟨h.os, h.tape, h.output, h.size, h.block⟩
theorem Kept.drewN {S : List Nat} {a w : World} (h : Kept S a w) (n : Nat) : Kept S a (w.drewN n) := ⟨h.os, h.tape, h.output, h.size, h.block⟩
theorem Kept.alloc {S : List Nat} {a w : World} (h : Kept S a w) (o : Obj) : Kept S a (w.alloc o) :=
  h.trans ⟨rfl, rfl, rfl, by simp, fun k hk _ => Below.heap_alloc _ _ _ hk⟩
theorem Kept.setCell {S : List Nat} {a w : World} (h : Kept S a w) {p : Addr} (hp : p.block ∈ S ∨ a.heap.size ≤ p.block) (u : Value) : Kept S a (w.setCell p u) :=
  h.trans' (T := [p.block]) ⟨rfl, rfl, rfl, by simp [World.setCell], fun k hk hs => Below.heap_setCell _ _ _ _ (by simpa using hs)⟩
    (fun x hx => by rw [List.mem_singleton.1 hx]; exact hp)
theorem Kept.grown {S : List Nat} {a w w' : World} {row : Option Nat} (h : Kept S a w) (hg : w.grownBy w' row) (hr : ∀ k, row = some k → k ∈ S ∨ a.heap.size ≤ k) : Kept S a w' :=
  ⟨hg.os.trans h.os, hg.tape.trans h.tape, hg.output.trans h.output, Nat.le_trans h.size hg.size,
    fun k hk hs => (hg.block k (Nat.lt_of_lt_of_le hk h.size) (fun e => by rcases hr k e.symm with h1 | h1; exact hs h1; omega)).trans (h.block k hk hs)⟩
theorem Kept.below {w w' : World} (h : Kept [] w w') : Below w.heap.size w w' := ⟨h.os, h.tape, h.output, h.size, fun k hk => h.block k hk (by simp)⟩
theorem Kept.of_below {w w' : World} (h : Below w.heap.size w w') : Kept [] w w' := ⟨h.os, h.tape, h.output, h.size, fun k hk _ => h.block k hk⟩

theorem Blk.kept {S : List Nat} {w w' : World} {b : Nat} {c : List Value} (h : Blk w b c) (k : Kept S w w') (hb : b ∉ S) : Blk w' b c := by
  have hl := h.lt
  obtain ⟨t, h⟩ := h
  exact ⟨t, by rw [k.block b hl hb]; exact h⟩
theorem Blk.keptN {w w' : World} {b : Nat} {c : List Value} (h : Blk w b c) (k : Kept [] w w') : Blk w' b c := h.kept k (by simp)

/-- A cell of a world, kept. -/
theorem Kept.cell {S : List Nat} {w w' : World} (k : Kept S w w') {p : Addr} (hp : p.block < w.heap.size) (hs : p.block ∉ S) : w'.cell? p = w.cell? p :=
  World.cell?_of_block (k.block _ hp hs)
theorem Kept.cellSome {S : List Nat} {w w' : World} (k : Kept S w w') {p : Addr} {v : Value} (h : w.cell? p = some v) (hs : p.block ∉ S) : w'.cell? p = some v :=
  (k.cell (World.block_lt_of_cell? _ _ h) hs).trans h

theorem ret_int {k : IntKind} {a b : Int} (h : a = b) : Ending.returned (.int k a) = .returned (.int k b) := by rw [h]
theorem ret_bool {a b : Bool} (h : a = b) : Ending.returned (.bool a) = .returned (.bool b) := by rw [h]

/-! ### A row of n structs of k cells each, as a function of place and field -/
/-- The cells of n structs, each of k cells. -/
def rowsOf (k : Nat) (f : Nat → Nat → Value) (n : Nat) : List Value := (List.range (n * k)).map fun i => f (i / k) (i % k)
theorem rowsOf_length (k : Nat) (f : Nat → Nat → Value) (n : Nat) : (rowsOf k f n).length = n * k := by simp [rowsOf]
theorem rowsOf_get {k : Nat} (f : Nat → Nat → Value) {n p j : Nat} (hp : p < n) (hj : j < k) : (rowsOf k f n)[p * k + j]? = some (f p j) := by
  have h1 : p * k + j < n * k := by
    have : (p + 1) * k ≤ n * k := Nat.mul_le_mul_right k hp
    rw [Nat.add_mul] at this
    omega
  have h2 : (p * k + j) / k = p := by rw [Nat.mul_comm, Nat.mul_add_div (by omega), Nat.div_eq_of_lt hj]; rfl
  have h3 : (p * k + j) % k = j := by rw [Nat.mul_comm, Nat.mul_add_mod, Nat.mod_eq_of_lt hj]
  simp [rowsOf, h1, h2, h3]
theorem rowsOf_congr {k : Nat} {f g : Nat → Nat → Value} {n : Nat} (h : ∀ p j, p < n → j < k → f p j = g p j) : rowsOf k f n = rowsOf k g n := by
  unfold rowsOf
  apply List.map_congr_left
  intro i hi
  rw [List.mem_range] at hi
  have hk : 0 < k := by
    rcases Nat.eq_zero_or_pos k with h0 | h0
    · subst h0; simp at hi
    · exact h0
  exact h _ _ (Nat.div_lt_of_lt_mul (by rwa [Nat.mul_comm] at hi)) (Nat.mod_lt _ hk)
theorem rowsOf_set {k : Nat} (f : Nat → Nat → Value) {n p j : Nat} (v : Value) (hp : p < n) (hj : j < k) :
    (rowsOf k f n).set (p * k + j) v = rowsOf k (fun p' j' => if p' = p ∧ j' = j then v else f p' j') n := by
  have h1 : p * k + j < n * k := by
    have : (p + 1) * k ≤ n * k := Nat.mul_le_mul_right k hp
    rw [Nat.add_mul] at this
    omega
  apply List.ext_getElem
  · simp [rowsOf_length]
  · intro i hi hi'
    simp only [rowsOf, List.getElem_set, List.getElem_map, List.getElem_range]
    have hk : 0 < k := by omega
    by_cases e : p * k + j = i
    · subst e
      have h2 : (p * k + j) / k = p := by rw [Nat.mul_comm, Nat.mul_add_div (by omega), Nat.div_eq_of_lt hj]; rfl
      have h3 : (p * k + j) % k = j := by rw [Nat.mul_comm, Nat.mul_add_mod, Nat.mod_eq_of_lt hj]
      simp [h2, h3]
    · rw [if_neg e, if_neg]
      rintro ⟨e1, e2⟩
      apply e
      rw [← e1, ← e2]
      have := Nat.div_add_mod i k
      rw [Nat.mul_comm] at this
      exact this

theorem made_rows (z : Array Value) (k n : Nat) (hz : z.size = k) (f : Nat → Value) (hf : ∀ j, j < k → z[j]! = f j) : madeCells z (n * k) = (rowsOf k (fun _ => f) n).toArray := by
  apply Array.ext
  · simp [size_madeCells, rowsOf]
  · intro i h1 h2
    have hk : 0 < k := by
      rcases Nat.eq_zero_or_pos k with h0 | h0
      · subst h0; simp [size_madeCells] at h1
      · exact h0
    have := hf (i % k) (Nat.mod_lt _ hk)
    simp [madeCells, rowsOf, hz]
    simpa using this

/-- 'make([]T, n)': n rows of zeros in a new block. -/
theorem mk_rows {P : Program} {T E k bytes : Nat} {z : Value} (hu : P.underlying T = some (.slice E)) (hi : (P.info? E).map (fun i => (i.zero, i.size, i.bytes)) = some (some z, k, bytes))
    (f : Nat → Value) (hf : z.cells.toList = (List.range k).map f) (n : Nat) (hn : bytes * n ≤ 281474976710656) (hm : n ≤ 9223372036854775807) (w : World) :
    (Instr.makeSlice T (.int .i64 (n : Int)) (.int .i64 (n : Int))).run P w = .ok (.slice (some ⟨w.heap.size, 0, none⟩) n n) (w.alloc (.cells (rowsOf k (fun _ => f) n).toArray E)) := by
  obtain ⟨i, h1, h2, h3, h4⟩ := info_parts hi
  have hz : z.cells.size = k := by rw [← Array.length_toList, hf]; simp
  have hg : ∀ j, j < k → z.cells[j]! = f j := by
    intro j hj
    have : z.cells.toList[j]? = some (f j) := by rw [hf]; simp [hj]
    rw [Array.getElem?_toList] at this
    rw [getElem!_def, this]
  rw [run_make w T E i z hu h1 h2 .i64 .i64 n n (by omega) (by omega) (by rw [h4, ← Int.natCast_mul]; omega) (by omega), h3, Int.toNat_natCast, made_rows z.cells k n hz f hg]

/-! ### Rows that grow -/
theorem own_ge {w : World} {base : Nat} {e : TypeId} {size : Nat} {v : Value} {n : Nat} {xs : List Value} (h : w.ownsRow base e size v n xs) : ∀ k, k ∈ v.ownBlock.toList → base ≤ k := by
  intro k hk
  rcases h.2 with ⟨rfl, _⟩ | ⟨g, cap, cur, rfl, hg, _⟩
  · simp [Value.ownBlock] at hk
  · simp [Value.ownBlock] at hk; omega
theorem own_kept {S : List Nat} {w w' : World} {base : Nat} {e : TypeId} {size : Nat} {v : Value} {n : Nat} {xs : List Value} (h : w.ownsRow base e size v n xs) (k : Kept S w w') (hS : ∀ b, b ∈ v.ownBlock.toList → b ∉ S) : w'.ownsRow base e size v n xs := by
  refine ⟨h.1, ?_⟩
  rcases h.2 with h2 | ⟨g, cap, cur, rfl, hg, hh, r⟩
  · exact .inl h2
  · refine .inr ⟨g, cap, cur, rfl, hg, ?_, r⟩
    rw [k.block g (Array.getElem?_eq_some_iff.1 hh).1 (hS g (by simp [Value.ownBlock]))]
    exact hh
theorem own_keptN {w w' : World} {base : Nat} {e : TypeId} {size : Nat} {v : Value} {n : Nat} {xs : List Value} (h : w.ownsRow base e size v n xs) (k : Kept [] w w') : w'.ownsRow base e size v n xs := own_kept h k (fun _ _ => by simp)
theorem own_mono {w : World} {base base' : Nat} {e : TypeId} {size : Nat} {v : Value} {n : Nat} {xs : List Value} (h : w.ownsRow base e size v n xs) (hb : base' ≤ base) : w.ownsRow base' e size v n xs := by
  refine ⟨h.1, ?_⟩
  rcases h.2 with h2 | ⟨g, cap, cur, rfl, hg, r⟩
  · exact .inl h2
  · exact .inr ⟨g, cap, cur, rfl, Nat.le_trans hb hg, r⟩
/-- The cells of an owned row. -/
theorem own_cell {w : World} {base : Nat} {e : TypeId} {size : Nat} {g n cap : Nat} {xs : List Value} (h : w.ownsRow base e size (.slice (some ⟨g, 0, none⟩) n cap) n xs) {i : Nat} {u : Value} (hu : xs[i]? = some u) : w.cell? ⟨g, i, none⟩ = some u := by
  obtain ⟨hl, h2⟩ := h
  rcases h2 with ⟨h0, _⟩ | ⟨g', cap', cur, hv, hg, hh, hn, hc, hs, ht⟩
  · cases h0
  · cases hv
    have hi : i < n * size := by rw [← hl]; exact (List.getElem?_eq_some_iff.1 hu).1
    have : cur[i]? = some u := by
      rw [← ht, List.getElem?_take, if_pos hi, Array.getElem?_toList] at hu
      exact hu
    simp [World.cell?, hh, this]
theorem own_frozen {w : World} {base : Nat} {e : TypeId} {size : Nat} {g n cap : Nat} {xs : List Value} (h : w.ownsRow base e size (.slice (some ⟨g, 0, none⟩) n cap) n xs) (i : Nat) : w.frozen? ⟨g, i, none⟩ = false := by
  rcases h.2 with ⟨h0, _⟩ | ⟨g', cap', cur, hv, hg, hh, hn, hc, hs, ht⟩
  · cases h0
  · cases hv
    simp [World.frozen?, hh]
theorem own_lt {w : World} {base : Nat} {e : TypeId} {size : Nat} {g n n' cap : Nat} {xs : List Value} (h : w.ownsRow base e size (.slice (some ⟨g, 0, none⟩) n' cap) n xs) : g < w.heap.size := by
  rcases h.2 with ⟨h0, _⟩ | ⟨g', cap', cur, hv, hg, hh, r⟩
  · cases h0
  · cases hv
    exact (Array.getElem?_eq_some_iff.1 hh).1
theorem own_form {w : World} {base : Nat} {e : TypeId} {size : Nat} {v : Value} {n : Nat} {xs : List Value} (h : w.ownsRow base e size v (n + 1) xs) : ∃ g cap, v = .slice (some ⟨g, 0, none⟩) (n + 1) cap ∧ base ≤ g := by
  rcases h.2 with ⟨_, h0⟩ | ⟨g, cap, cur, hv, hg, _⟩
  · omega
  · exact ⟨g, cap, hv, hg⟩
theorem own_form' {w : World} {base : Nat} {e : TypeId} {size : Nat} {v : Value} {n : Nat} {xs : List Value} (h : w.ownsRow base e size v n xs) : ∃ a cap, v = .slice a n cap := by
  rcases h.2 with ⟨hv, h0⟩ | ⟨g, cap, cur, hv, hg, _⟩
  · exact ⟨none, 0, by rw [hv, h0]⟩
  · exact ⟨_, cap, hv⟩

/-- 'append(s, x)', one element more, s a row of the call's own: the walk's law. -/
theorem wp_app1 {P : Program} {ops : Array Oper} {rest : List Oper} {o : Oper} {a : Act} {Q : Exit → Act → World → Prop} {w : World} (hgd : o.guard = none) (s x : Operand) (T E : Nat)
    (ho : o.op = .call { callee := .builtin .append, args := #[s, x], argTypes := #[T, T] }) (hT : P.underlying T = some (.slice E)) {z : Value} {size bytes : Nat}
    (hi : (P.info? E).map (fun i => (i.zero, i.size, i.bytes)) = some (some z, size, bytes)) (hzs : z.cells.size = size) (hsz : 0 < size) (base : Nat) (v : Value) (n : Nat) (xs : List Value)
    (hs : a.eval s = v) (hown : w.ownsRow base E size v n xs) (b c : Nat) (news : List Value) (hx : a.eval x = .slice (some ⟨b, 0, none⟩) 1 c) (hl : news.length = size) (hb : Blk w b news)
    (h1 : ∀ u, u ∈ news → u.oneCell' = true) (hn : n ≤ 1000000000) (hby : bytes ≤ 10000) (hbase : base ≤ w.heap.size)
    (h : ∀ g cap w', w'.ownsRow base E size (.slice (some ⟨g, 0, none⟩) (n + 1) cap) (n + 1) (xs ++ news) → base ≤ g → Kept v.ownBlock.toList w w' → wpList P ops Q rest (a.put o.dst (.slice (some ⟨g, 0, none⟩) (n + 1) cap)) w') :
    wpList P ops Q (o :: rest) a w := by
  obtain ⟨i, hi0, hz0, hz1, hz2⟩ := info_parts hi
  refine wpList_append_own w hgd s x T ho base E i z size bytes hT hi0 hz0 hz1 hz2 hzs hsz v n xs hs hown ⟨b, 0, none⟩ 1 c news hx (by omega) (fun j u hu => by rw [Addr.add_lit, Nat.zero_add]; exact hb.cell hu) h1 (by unfold maxLen; omega)
    (Nat.le_trans (Nat.mul_le_mul (show n + 1 ≤ 1000000001 by omega) hby) (by decide)) hbase ?_
  intro v' w' hown' hgrow _
  obtain ⟨g, cap, rfl, hg⟩ := own_form hown'
  exact h g cap w' hown' hg ((Kept.refl _ _).grown hgrow (fun k e => .inl (by rw [e]; simp)))

/-- An error with its place, in new memory. -/
def ErrOut (layer : ByteArray) (n k : Int) (w : World) (v : Value) (w' : World) : Prop :=
  ∃ b, v = .iface 64 (.pointer (some ⟨b, 0, none⟩)) ∧ w.heap.size ≤ b ∧ Blk w' b [.string layer, .int .i64 n, .iface 30 (.int .i64 k)] ∧ Kept [] w w'

end Go.Proofs.YtenahekdhepnfaaDoor
