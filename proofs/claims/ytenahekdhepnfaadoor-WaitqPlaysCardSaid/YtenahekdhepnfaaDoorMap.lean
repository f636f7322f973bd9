/- Maps keyed by integers, whose elements may be anything: look-up, store, delete, len. No program in sight. -/
import Derived.Test.YtenahekdhepnfaaDoorLib
import Derived.Maps.OwnSet
namespace Go.Proofs.YtenahekdhepnfaaDoor
open Go Go.RowKit Go.ChangeMaps Go.MapKept Go.WideShapes
open Go.Maps (Keyed int_keyed keyOf_int_mk)

/-- Block b is a map of n entries, keyed by integers of kind q: f tells the elements. -/
structure MapIs (w : World) (q : IntKind) (b n : Nat) (f : Int → Option Value) : Prop where
  ex : ∃ es clock, w.heap[b]? = some (.map es clock) ∧ es.size = n ∧ (es.toList.map (·.key)).Nodup ∧ (∀ e, e ∈ es.toList → ∃ a, e.key = .int q a ∧ (Lit.int q a).wf = true ∧ f a = some e.val) ∧
    ∀ a x, f a = some x → ∃ e, e ∈ es.toList ∧ e.key = .int q a

theorem MapIs.lt {w : World} {q : IntKind} {b n : Nat} {f : Int → Option Value} (h : MapIs w q b n f) : b < w.heap.size := by
  obtain ⟨es, clock, hb, _⟩ := h.ex
  exact (Array.getElem?_eq_some_iff.1 hb).1
theorem MapIs.of_block {w w' : World} {q : IntKind} {b n : Nat} {f : Int → Option Value} (h : MapIs w q b n f) (e : w'.heap[b]? = w.heap[b]?) : MapIs w' q b n f := by
  obtain ⟨es, clock, hb, r⟩ := h.ex
  exact ⟨es, clock, by rw [e]; exact hb, r⟩
theorem MapIs.kept {S : List Nat} {w w' : World} {q : IntKind} {b n : Nat} {f : Int → Option Value} (h : MapIs w q b n f) (k : Kept S w w') (hb : b ∉ S) : MapIs w' q b n f := h.of_block (k.block b h.lt hb)
theorem MapIs.keptN {w w' : World} {q : IntKind} {b n : Nat} {f : Int → Option Value} (h : MapIs w q b n f) (k : Kept [] w w') : MapIs w' q b n f := h.kept k (by simp)
theorem MapIs.set_ne {w : World} {q : IntKind} {b n : Nat} {f : Int → Option Value} (h : MapIs w q b n f) {b' : Nat} (o : Nat) (s : Option Nat) (v : Value) (hb : b ≠ b') : MapIs (w.setCell ⟨b', o, s⟩ v) q b n f := h.of_block (Below.heap_setCell _ _ _ _ hb)
theorem MapIs.congr {w : World} {q : IntKind} {b n : Nat} {f g : Int → Option Value} (h : MapIs w q b n f) (e : ∀ a, f a = g a) : MapIs w q b n g := by
  obtain rfl : f = g := funext e
  exact h
theorem MapIs.new (w : World) (q : IntKind) : MapIs (w.alloc (.map #[] 0)) q w.heap.size 0 (fun _ => none) :=
  ⟨#[], 0, by show (w.heap.push _)[w.heap.size]? = _; simp, rfl, by simp, fun e h => by simp at h, fun a x h => by cases h⟩
theorem MapIs.new' {w : World} {q : IntKind} {n : Nat} (h : n = w.heap.size) : MapIs (w.alloc (.map #[] 0)) q n 0 (fun _ => none) := by subst h; exact MapIs.new w q

section
variable {P : Program} {w : World} {q : IntKind} {kt et t : TypeId} {b n : Nat} {f : Int → Option Value}

theorem MapIs.found (h : MapIs w q b n f) (hk : P.underlying kt = some (.int q)) {a : Int} (hw : (Lit.int q a).wf = true) :
    ∃ es clock, w.heap[b]? = some (.map es clock) ∧ es.size = n ∧ (es.toList.map (·.key)).Nodup ∧ (∀ e, e ∈ es.toList → ∃ a, e.key = .int q a ∧ (Lit.int q a).wf = true ∧ f a = some e.val) ∧ (∀ a x, f a = some x → ∃ e, e ∈ es.toList ∧ e.key = .int q a) ∧
    (((Instr.findKey kt (.int q a) es.toList).run P w = .ok none w ∧ f a = none ∧ ∀ e, e ∈ es.toList → e.key ≠ .int q a) ∨
      ∃ j e, (Instr.findKey kt (.int q a) es.toList).run P w = .ok (some (j, e.val)) w ∧ es.toList[j]? = some e ∧ e.key = .int q a ∧ f a = some e.val) := by
  obtain ⟨es, clock, hb, hs, hnd, h1, h2⟩ := h.ex
  refine ⟨es, clock, hb, hs, hnd, h1, h2, ?_⟩
  rcases (int_keyed hk).find w (keyOf_int_mk hk hw) es.toList (fun e he => by
    obtain ⟨a', e1, e2, _⟩ := h1 e he
    exact ⟨_, by rw [e1]; exact keyOf_int_mk hk e2⟩) with ⟨hr, hno⟩ | ⟨j, e, hr, hj, he⟩
  · refine .inl ⟨hr, ?_, hno⟩
    cases hf : f a with
    | none => rfl
    | some x =>
      obtain ⟨e, he, hek⟩ := h2 a x hf
      exact absurd hek (hno e he)
  · refine .inr ⟨j, e, hr, hj, he, ?_⟩
    obtain ⟨a', e1, _, e3⟩ := h1 e (List.mem_of_getElem? hj)
    rw [he] at e1
    cases e1
    exact e3

/-- 'm[k]' and 'v, ok := m[k]'. -/
theorem MapIs.run_lookup (h : MapIs w q b n f) (ht : P.underlying t = some (.map kt et)) (hk : P.underlying kt = some (.int q)) {z : Value} (hz : (zeroValue et).run P w = .ok z w) {a : Int} (hw : (Lit.int q a).wf = true) (c : Bool) :
    (Instr.lookup t (.map (some b)) (.int q a) c).run P w = .ok (if c then .tuple #[(f a).getD z, .bool (f a).isSome] else (f a).getD z) w := by
  obtain ⟨es, clock, hb, hs, hnd, h1, h2, hf⟩ := h.found hk hw
  have hc := (int_keyed hk).check w es.isEmpty (keyOf_int_mk hk hw)
  rcases hf with ⟨hr, hn, _⟩ | ⟨j, e, hr, _, _, hn⟩
  · simp [Instr.lookup, run_underlying ht, Go.MapKept.run_getObj_map hb, hc, hr, hz, hn, Result.andThen]
  · simp [Instr.lookup, run_underlying ht, Go.MapKept.run_getObj_map hb, hc, hr, hn, Result.andThen]

end

theorem nodup_ne {l : List MapEntry} (hn : (l.map (·.key)).Nodup) {i j : Nat} {x y : MapEntry} (hi : l[i]? = some x) (hj : l[j]? = some y) (e : x.key = y.key) : i = j := by
  have h1 := (List.getElem?_eq_some_iff.1 hi)
  have h2 := (List.getElem?_eq_some_iff.1 hj)
  obtain ⟨h1, h1'⟩ := h1
  obtain ⟨h2, h2'⟩ := h2
  have hp : l.Pairwise (fun a b => a.key ≠ b.key) := List.pairwise_map.1 hn
  rcases Nat.lt_trichotomy i j with h | h | h
  · exact absurd (by rw [h1', h2']; exact e) (List.pairwise_iff_getElem.1 hp i j h1 h2 h)
  · exact h
  · exact absurd (by rw [h1', h2']; exact e.symm) (List.pairwise_iff_getElem.1 hp j i h2 h1 h)

section
variable {P : Program} {w : World} {q : IntKind} {kt et t : TypeId} {b n : Nat} {f : Int → Option Value}

theorem run_setObj_mapE {o : Obj} {es : Array MapEntry} {clock : Nat} (hb : w.heap[b]? = some (.map es clock)) : ∃ w', (setObj b o).run P w = .ok () w' ∧ w'.heap[b]? = some o ∧ Kept [b] w w' := by
  refine ⟨_, Go.MapKept.run_setObj_map o hb, heap_setBlock_same hb o, ?_⟩
  exact ⟨rfl, rfl, rfl, by simp, fun k hk hs => heap_setBlock_other hb o (by simpa using hs)⟩

/-- 'm[k] = v'. -/
theorem MapIs.run_update (h : MapIs w q b n f) (ht : P.underlying t = some (.map kt et)) (hk : P.underlying kt = some (.int q)) {a : Int} (hw : (Lit.int q a).wf = true) (v : Value) :
    ∃ w', (Instr.mapUpdate t (.map (some b)) (.int q a) v).run P w = .ok () w' ∧ MapIs w' q b (if (f a).isSome then n else n + 1) (fun x => if x = a then some v else f x) ∧ Kept [b] w w' := by
  obtain ⟨es, clock, hb, hs, hnd, h1, h2, hf⟩ := h.found hk hw
  have hc := (int_keyed hk).check w false (keyOf_int_mk hk hw)
  rcases hf with ⟨hr, hn, hno⟩ | ⟨j, e, hr, hj, hek, hn⟩
  · obtain ⟨w', hr', hb', hK⟩ := run_setObj_mapE (P := P) (o := .map (es.push { key := .int q a, val := v, born := clock }) (clock + 1)) hb
    refine ⟨w', by simp [Instr.mapUpdate, run_underlying ht, Go.MapKept.run_getObj_map hb, hc, hr, hr', Result.andThen], ⟨_, _, hb', by simp [hn, hs], ?_, ?_, ?_⟩, hK⟩
    · rw [Array.toList_push, List.map_append]
      refine List.nodup_append.2 ⟨hnd, by simp, ?_⟩
      intro x hx y hy
      simp at hy
      subst hy
      obtain ⟨e, he, rfl⟩ := List.mem_map.1 hx
      exact hno e he
    · intro e hem
      rw [Array.toList_push] at hem
      rcases List.mem_append.1 hem with he | he
      · obtain ⟨a', e1, e2, e3⟩ := h1 e he
        refine ⟨a', e1, e2, ?_⟩
        rw [if_neg]
        · exact e3
        · rintro rfl
          exact hno e he e1
      · simp at he
        subst he
        exact ⟨a, rfl, hw, by simp⟩
    · intro x y hxy
      rw [Array.toList_push]
      by_cases e : x = a
      · subst e
        exact ⟨_, List.mem_append.2 (.inr (List.mem_singleton.2 rfl)), rfl⟩
      · rw [if_neg e] at hxy
        obtain ⟨e', he', hk'⟩ := h2 x y hxy
        exact ⟨e', List.mem_append.2 (.inl he'), hk'⟩
  · have hj' : es[j]? = some e := by rw [← Array.getElem?_toList]; exact hj
    have hlt : j < es.toList.length := (List.getElem?_eq_some_iff.1 hj).1
    obtain ⟨w', hr', hb', hK⟩ := run_setObj_mapE (P := P) (o := .map (es.modify j fun e => { e with key := .int q a, val := v }) clock) hb
    have hst := (int_keyed hk).stays w (keyOf_int_mk hk hw)
    have hm : (es.modify j fun e => { e with key := .int q a, val := v }).toList = es.toList.set j { e with key := .int q a, val := v } := by
      rw [Array.toList_modify, modify_eq_set _ _ _ _ hj]
    refine ⟨w', by simp [Instr.mapUpdate, run_underlying ht, Go.MapKept.run_getObj_map hb, hc, hr, hj', hek, hst, hr', Result.andThen], ⟨_, _, hb', by simp [hn, hs], ?_, ?_, ?_⟩, hK⟩
    · rw [hm, List.map_set]
      have : (es.toList.map (·.key)).set j (.int q a) = es.toList.map (·.key) := by
        apply List.ext_getElem?
        intro i
        rw [List.getElem?_set]
        split
        · rename_i hij
          subst hij
          rw [List.length_map, if_pos hlt, List.getElem?_map, hj, Option.map_some, hek]
        · rfl
      show ((es.toList.map (·.key)).set j (.int q a)).Nodup
      rw [this]
      exact hnd
    · intro e' he'
      rw [hm] at he'
      obtain ⟨i, hi⟩ := List.getElem?_of_mem he'
      by_cases hij : j = i
      · subst hij
        rw [List.getElem?_set_self hlt] at hi
        cases hi
        exact ⟨a, rfl, hw, by simp⟩
      · rw [List.getElem?_set_ne hij] at hi
        obtain ⟨a', e1, e2, e3⟩ := h1 e' (List.mem_of_getElem? hi)
        refine ⟨a', e1, e2, ?_⟩
        rw [if_neg]
        · exact e3
        · rintro rfl
          exact hij (nodup_ne hnd hj hi (by rw [hek, e1]))
    · intro x y hxy
      rw [hm]
      by_cases ex : x = a
      · subst ex
        exact ⟨_, List.mem_of_getElem? (List.getElem?_set_self hlt), rfl⟩
      · rw [if_neg ex] at hxy
        obtain ⟨e', he', hk'⟩ := h2 x y hxy
        obtain ⟨i, hi⟩ := List.getElem?_of_mem he'
        have hij : j ≠ i := by
          rintro rfl
          rw [hj] at hi
          cases hi
          rw [hek] at hk'
          cases hk'
          exact ex rfl
        exact ⟨e', List.mem_of_getElem? (by rw [List.getElem?_set_ne hij]; exact hi), hk'⟩

/-- 'delete(m, k)'. -/
theorem MapIs.run_delete (h : MapIs w q b n f) (ht : P.underlying t = some (.map kt et)) (hk : P.underlying kt = some (.int q)) {a : Int} (hw : (Lit.int q a).wf = true) (ty : TypeId) (tk : TypeId) :
    ∃ w', (Builtin.delete_ #[t, tk] ty #[.map (some b), .int q a]).run P w = .ok (.tuple #[]) w' ∧ MapIs w' q b (if (f a).isSome then n - 1 else n) (fun x => if x = a then none else f x) ∧ Kept [b] w w' := by
  obtain ⟨es, clock, hb, hs, hnd, h1, h2, hf⟩ := h.found hk hw
  have hc := (int_keyed hk).check w es.isEmpty (keyOf_int_mk hk hw)
  rcases hf with ⟨hr, hn, hno⟩ | ⟨j, e, hr, hj, hek, hn⟩
  · obtain ⟨w', hr', hb', hK⟩ := run_setObj_mapE (P := P) (o := .map es clock) hb
    refine ⟨w', by simp [Builtin.delete_, run_underlying ht, Go.MapKept.run_getObj_map hb, hc, hr, hr', Result.andThen], ⟨_, _, hb', by simp [hn, hs], hnd, ?_, ?_⟩, hK⟩
    · intro e he
      obtain ⟨a', e1, e2, e3⟩ := h1 e he
      refine ⟨a', e1, e2, ?_⟩
      rw [if_neg]
      · exact e3
      · rintro rfl
        exact hno e he e1
    · intro x y hxy
      by_cases e : x = a
      · rw [if_pos e] at hxy; cases hxy
      · rw [if_neg e] at hxy
        exact h2 x y hxy
  · have hlt : j < es.toList.length := (List.getElem?_eq_some_iff.1 hj).1
    have hlt' : j < es.size := by simpa using hlt
    obtain ⟨w', hr', hb', hK⟩ := run_setObj_mapE (P := P) (o := .map (es.eraseIdxIfInBounds j) clock) hb
    have hm : (es.eraseIdxIfInBounds j).toList = es.toList.eraseIdx j := by
      simp [Array.eraseIdxIfInBounds, hlt']
    refine ⟨w', by simp [Builtin.delete_, run_underlying ht, Go.MapKept.run_getObj_map hb, hc, hr, hr', Result.andThen], ⟨_, _, hb', ?_, ?_, ?_, ?_⟩, hK⟩
    · rw [← Array.length_toList, hm, List.length_eraseIdx_of_lt hlt, Array.length_toList, hs]
      simp [hn]
    · rw [hm]
      exact List.Nodup.sublist ((List.eraseIdx_sublist _ _).map _) hnd
    · intro e' he'
      rw [hm] at he'
      obtain ⟨i, hij, hi⟩ := List.mem_eraseIdx_iff_getElem?.1 he'
      obtain ⟨a', e1, e2, e3⟩ := h1 e' (List.mem_of_getElem? hi)
      refine ⟨a', e1, e2, ?_⟩
      rw [if_neg]
      · exact e3
      · rintro rfl
        exact hij (nodup_ne hnd hi hj (by rw [hek, e1]))
    · intro x y hxy
      rw [hm]
      by_cases ex : x = a
      · rw [if_pos ex] at hxy; cases hxy
      · rw [if_neg ex] at hxy
        obtain ⟨e', he', hk'⟩ := h2 x y hxy
        obtain ⟨i, hi⟩ := List.getElem?_of_mem he'
        refine ⟨e', List.mem_eraseIdx_iff_getElem?.2 ⟨i, ?_, hi⟩, hk'⟩
        rintro rfl
        rw [hj] at hi
        cases hi
        rw [hek] at hk'
        cases hk'
        exact ex rfl

/-- 'len(m)'. -/
theorem MapIs.run_len (h : MapIs w q b n f) (ht : P.underlying t = some (.map kt et)) (ty : TypeId) : (Builtin.len_ #[t] ty #[.map (some b)]).run P w = .ok (.int .i64 n) w := by
  obtain ⟨es, clock, hb, hs, _⟩ := h.ex
  simp [Builtin.len_, run_underlying ht, Go.MapKept.run_getObj_map hb, hs, Result.andThen, goInt]
end

section
variable {P : Program} {w : World} {ops : Array Oper} {rest : List Oper} {o : Oper} {a : Act} {Q : Exit → Act → World → Prop}
/-- 'm[k]' and 'v, ok := m[k]' at the operation, for the walk. -/
theorem wp_mapGet (hg : o.guard = none) (m x : Operand) (t kt et : TypeId) (c : Bool) (hop : o.op = Op.lookup t m x c)
    (ht : P.underlying t = some (.map kt et)) {q : IntKind} (hk : P.underlying kt = some (.int q)) {z : Value} (hz : (zeroValue et).run P w = .ok z w) {b n : Nat} {f : Int → Option Value} (hm : a.eval m = .map (some b)) (h : MapIs w q b n f) {key : Int} (hw : (Lit.int q key).wf = true) (hx : a.eval x = .int q key)
    (hK : wpList P ops Q rest (a.put o.dst (if c then .tuple #[(f key).getD z, .bool (f key).isSome] else (f key).getD z)) w) : wpList P ops Q (o :: rest) a w := by
  refine wpList_plain hg fun K' hK' => ?_
  have hrun := h.run_lookup ht hk hz hw c
  unfold Oper.wp
  simp [execOp, hop, hm, hx, hrun, Result.andThen]
  exact hK' _ _ hK
/-- 'm[k]', where nothing is there. -/
theorem wp_mapGet0 (hg : o.guard = none) (m x : Operand) (t kt et : TypeId) (hop : o.op = Op.lookup t m x false)
    (ht : P.underlying t = some (.map kt et)) {q : IntKind} (hk : P.underlying kt = some (.int q)) {z : Value} (hz : (zeroValue et).run P w = .ok z w) {b n : Nat} {f : Int → Option Value} (hm : a.eval m = .map (some b)) (h : MapIs w q b n f) {key : Int} (hw : (Lit.int q key).wf = true) (hx : a.eval x = .int q key) (hf : f key = none)
    (hK : wpList P ops Q rest (a.put o.dst z) w) : wpList P ops Q (o :: rest) a w :=
  wp_mapGet hg m x t kt et false hop ht hk hz hm h hw hx (by rw [hf]; exact hK)
/-- 'm[k]', where something is there. -/
theorem wp_mapGet1 (hg : o.guard = none) (m x : Operand) (t kt et : TypeId) (hop : o.op = Op.lookup t m x false)
    (ht : P.underlying t = some (.map kt et)) {q : IntKind} (hk : P.underlying kt = some (.int q)) {z : Value} (hz : (zeroValue et).run P w = .ok z w) {b n : Nat} {f : Int → Option Value} (hm : a.eval m = .map (some b)) (h : MapIs w q b n f) {key : Int} (hw : (Lit.int q key).wf = true) (hx : a.eval x = .int q key) {v : Value} (hf : f key = some v)
    (hK : wpList P ops Q rest (a.put o.dst v) w) : wpList P ops Q (o :: rest) a w :=
  wp_mapGet hg m x t kt et false hop ht hk hz hm h hw hx (by rw [hf]; exact hK)
/-- 'v, ok := m[k]', where nothing is there. -/
theorem wp_mapGetOk0 (hg : o.guard = none) (m x : Operand) (t kt et : TypeId) (hop : o.op = Op.lookup t m x true)
    (ht : P.underlying t = some (.map kt et)) {q : IntKind} (hk : P.underlying kt = some (.int q)) {z : Value} (hz : (zeroValue et).run P w = .ok z w) {b n : Nat} {f : Int → Option Value} (hm : a.eval m = .map (some b)) (h : MapIs w q b n f) {key : Int} (hw : (Lit.int q key).wf = true) (hx : a.eval x = .int q key) (hf : f key = none)
    (hK : wpList P ops Q rest (a.put o.dst (.tuple #[z, .bool false])) w) : wpList P ops Q (o :: rest) a w :=
  wp_mapGet hg m x t kt et true hop ht hk hz hm h hw hx (by rw [hf]; exact hK)
/-- 'v, ok := m[k]', where something is there. -/
theorem wp_mapGetOk1 (hg : o.guard = none) (m x : Operand) (t kt et : TypeId) (hop : o.op = Op.lookup t m x true)
    (ht : P.underlying t = some (.map kt et)) {q : IntKind} (hk : P.underlying kt = some (.int q)) {z : Value} (hz : (zeroValue et).run P w = .ok z w) {b n : Nat} {f : Int → Option Value} (hm : a.eval m = .map (some b)) (h : MapIs w q b n f) {key : Int} (hw : (Lit.int q key).wf = true) (hx : a.eval x = .int q key) {v : Value} (hf : f key = some v)
    (hK : wpList P ops Q rest (a.put o.dst (.tuple #[v, .bool true])) w) : wpList P ops Q (o :: rest) a w :=
  wp_mapGet hg m x t kt et true hop ht hk hz hm h hw hx (by rw [hf]; exact hK)
/-- 'delete(m, k)' at the operation. -/
theorem wp_mapDel (hg : o.guard = none) (m x : Operand) (t kt et tk : TypeId) (hop : o.op = Op.call { callee := Callee.builtin Builtin.delete, args := #[m, x], argTypes := #[t, tk] })
    (ht : P.underlying t = some (.map kt et)) {q : IntKind} (hk : P.underlying kt = some (.int q)) {b n : Nat} {f : Int → Option Value} (hm : a.eval m = .map (some b)) (h : MapIs w q b n f) {key : Int} (hw : (Lit.int q key).wf = true) (hx : a.eval x = .int q key)
    (hK : ∀ w', MapIs w' q b (if (f key).isSome then n - 1 else n) (fun y => if y = key then none else f y) → Kept [b] w w' → wpList P ops Q rest (a.put o.dst (.tuple #[])) w') : wpList P ops Q (o :: rest) a w := by
  refine wpList_plain hg fun K' hK' => ?_
  obtain ⟨w', hrun, r1, r2⟩ := h.run_delete ht hk hw o.type tk
  unfold Oper.wp
  simp [execOp, hop, resolve, invoke, builtin, hm, hx, hrun, Result.andThen]
  exact hK' _ _ (hK w' r1 r2)
/-- 'len(m)' at the operation. -/
theorem wp_mapLen (hg : o.guard = none) (m : Operand) (t kt et : TypeId) (hop : o.op = Op.call { callee := Callee.builtin Builtin.len, args := #[m], argTypes := #[t] })
    (ht : P.underlying t = some (.map kt et)) {q : IntKind} {b n : Nat} {f : Int → Option Value} (hm : a.eval m = .map (some b)) (h : MapIs w q b n f)
    (hK : wpList P ops Q rest (a.put o.dst (.int .i64 n)) w) : wpList P ops Q (o :: rest) a w := by
  refine wpList_plain hg fun K' hK' => ?_
  unfold Oper.wp
  simp [execOp, hop, resolve, invoke, builtin, hm, h.run_len ht o.type, Result.andThen]
  exact hK' _ _ hK
end

/-- 'm[k] = v' at the operation, for the walk. -/
theorem wp_mapSet {P : Program} {w : World} {ops : Array Oper} {rest : List Oper} {o : Oper} {a : Act} {Q : Exit → Act → World → Prop} (hg : o.guard = none) (m x v : Operand) (t kt et : TypeId) (hop : o.op = Op.mapUpdate t m x v)
    (ht : P.underlying t = some (.map kt et)) {q : IntKind} (hk : P.underlying kt = some (.int q)) {b n : Nat} {f : Int → Option Value} (hm : a.eval m = .map (some b)) (h : MapIs w q b n f) {key : Int} (hw : (Lit.int q key).wf = true) (hx : a.eval x = .int q key) {val : Value} (hv : a.eval v = val)
    (hK : ∀ w', MapIs w' q b (if (f key).isSome then n else n + 1) (fun y => if y = key then some val else f y) → Kept [b] w w' → wpList P ops Q rest (a.put o.dst undef) w') : wpList P ops Q (o :: rest) a w := by
  refine wpList_plain hg fun K' hK' => ?_
  obtain ⟨w', hrun, r1, r2⟩ := h.run_update ht hk hw val
  unfold Oper.wp
  simp [execOp, hop, hm, hx, hv, hrun, Result.andThen]
  exact hK' _ _ (hK w' r1 r2)

/-- 'm[k] = v', a new key. -/
theorem wp_mapSet0 {P : Program} {w : World} {ops : Array Oper} {rest : List Oper} {o : Oper} {a : Act} {Q : Exit → Act → World → Prop} (hg : o.guard = none) (m x v : Operand) (t kt et : TypeId) (hop : o.op = Op.mapUpdate t m x v)
    (ht : P.underlying t = some (.map kt et)) {q : IntKind} (hk : P.underlying kt = some (.int q)) {b n : Nat} {f : Int → Option Value} (hm : a.eval m = .map (some b)) (h : MapIs w q b n f) {key : Int} (hw : (Lit.int q key).wf = true) (hx : a.eval x = .int q key) {val : Value} (hv : a.eval v = val) (hf : f key = none)
    (hK : ∀ w', MapIs w' q b (n + 1) (fun y => if y = key then some val else f y) → Kept [b] w w' → wpList P ops Q rest (a.put o.dst undef) w') : wpList P ops Q (o :: rest) a w :=
  wp_mapSet hg m x v t kt et hop ht hk hm h hw hx hv (fun w' h1 h2 => hK w' (by simpa [hf] using h1) h2)
/-- 'm[k] = v', a key that is there. -/
theorem wp_mapSet1 {P : Program} {w : World} {ops : Array Oper} {rest : List Oper} {o : Oper} {a : Act} {Q : Exit → Act → World → Prop} (hg : o.guard = none) (m x v : Operand) (t kt et : TypeId) (hop : o.op = Op.mapUpdate t m x v)
    (ht : P.underlying t = some (.map kt et)) {q : IntKind} (hk : P.underlying kt = some (.int q)) {b n : Nat} {f : Int → Option Value} (hm : a.eval m = .map (some b)) (h : MapIs w q b n f) {key : Int} (hw : (Lit.int q key).wf = true) (hx : a.eval x = .int q key) {val old : Value} (hv : a.eval v = val) (hf : f key = some old)
    (hK : ∀ w', MapIs w' q b n (fun y => if y = key then some val else f y) → Kept [b] w w' → wpList P ops Q rest (a.put o.dst undef) w') : wpList P ops Q (o :: rest) a w :=
  wp_mapSet hg m x v t kt et hop ht hk hm h hw hx hv (fun w' h1 h2 => hK w' (by simpa [hf] using h1) h2)
/-- 'delete(m, k)', a key that is there. -/
theorem wp_mapDel1 {P : Program} {w : World} {ops : Array Oper} {rest : List Oper} {o : Oper} {a : Act} {Q : Exit → Act → World → Prop} (hg : o.guard = none) (m x : Operand) (t kt et tk : TypeId) (hop : o.op = Op.call { callee := Callee.builtin Builtin.delete, args := #[m, x], argTypes := #[t, tk] })
    (ht : P.underlying t = some (.map kt et)) {q : IntKind} (hk : P.underlying kt = some (.int q)) {b n : Nat} {f : Int → Option Value} (hm : a.eval m = .map (some b)) (h : MapIs w q b n f) {key : Int} (hw : (Lit.int q key).wf = true) (hx : a.eval x = .int q key) {old : Value} (hf : f key = some old)
    (hK : ∀ w', MapIs w' q b (n - 1) (fun y => if y = key then none else f y) → Kept [b] w w' → wpList P ops Q rest (a.put o.dst (.tuple #[])) w') : wpList P ops Q (o :: rest) a w :=
  wp_mapDel hg m x t kt et tk hop ht hk hm h hw hx (fun w' h1 h2 => hK w' (by simpa [hf] using h1) h2)

end Go.Proofs.YtenahekdhepnfaaDoor
