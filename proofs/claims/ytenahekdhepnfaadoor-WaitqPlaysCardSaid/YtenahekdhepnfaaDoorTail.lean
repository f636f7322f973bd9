/- 's[k:]' and 's[:k]' of a row of the call's own: the walk's laws; what comes of them is a source. No program in sight. -/
import Derived.Test.YtenahekdhepnfaaDoorApp
import Derived.Laws.Slices
namespace Go.Proofs.YtenahekdhepnfaaDoor
open Go Go.RowKit

theorem elem_of {P : Program} {T E : Nat} (h : P.underlying T = some (.slice E)) : P.elem T = E := by simp [Program.elem, h]
theorem run_size {P : Program} {E size : Nat} (h : (P.info? E).map (·.size) = some size) (w : World) : (sizeOf E).run P w = .ok size w := by
  cases hi : P.info? E with
  | none => rw [hi] at h; cases h
  | some i =>
    rw [hi] at h
    simp [sizeOf, typeInfo, hi]
    exact Option.some.inj h

theorem wp_sliceTail {P : Program} {ops : Array Oper} {rest : List Oper} {o : Oper} {a : Act} {Q : Exit → Act → World → Prop} {w : World} (hgd : o.guard = none) (s lo : Operand) (T E : Nat)
    (hop : o.op = .slice T s (some lo) none none) (hT : P.underlying T = some (.slice E)) {size : Nat} (hsz : (P.info? E).map (·.size) = some size) (base : Nat) (v : Value) (n k : Nat) (xs : List Value) (kv : Int)
    (hs : a.eval s = v) (hlo : a.eval lo = .int .i64 kv) (hkv : kv = k) (hown : w.ownsRow base E size v n xs) (hk : k ≤ n)
    (h : ∀ x, Src w x (n - k) size (xs.drop (k * size)) → wpList P ops Q rest (a.put o.dst x) w) : wpList P ops Q (o :: rest) a w := by
  subst hkv
  have hsrc := own_src hown
  obtain ⟨av, c, rfl⟩ := own_form' hown
  have hrun : (Instr.sliceAt T (.slice av n c) (some (.int .i64 (k : Int))) none none).run P w = .ok (sliced av k n c size) w := by
    rw [run_sliceAt_slice w T _ _ _ _ (by rw [elem_of hT]; exact hT), run_slice_l w T av n c (by rw [elem_of hT]; exact hT) .i64 k (by omega) (by omega), elem_of hT, run_size hsz]
    simp [Result.andThen]
  refine wpList_plain hgd fun K' hK' => ?_
  unfold Oper.wp
  simp [execOp, hop, hs, hlo, hrun, Result.andThen]
  refine hK' _ _ (h _ ?_)
  refine ⟨by rw [List.length_drop, hsrc.1, ← Nat.sub_mul], ?_⟩
  rcases hown.2 with ⟨h0, h1⟩ | ⟨g, cap, cur, h0, hg, hh, hn, hc, _⟩
  · cases h0
    obtain rfl : k = 0 := by omega
    exact .inl ⟨by simp [sliced], by omega⟩
  · cases h0
    unfold sliced
    by_cases e : c = k
    · obtain rfl : k = n := by omega
      refine .inr ⟨g, 0, c - k, by rw [if_pos e], fun j u hu => ?_⟩
      rw [List.drop_of_length_le (by rw [hsrc.1]; exact Nat.le_refl _)] at hu
      cases hu
    · refine .inr ⟨g, k * size, c - k, by rw [if_neg e]; simp [Addr.add]; omega, fun j u hu => ?_⟩
      rw [List.getElem?_drop] at hu
      exact own_cell hown hu

theorem wp_sliceHead {P : Program} {ops : Array Oper} {rest : List Oper} {o : Oper} {a : Act} {Q : Exit → Act → World → Prop} {w : World} (hgd : o.guard = none) (s hi : Operand) (T E : Nat)
    (hop : o.op = .slice T s none (some hi) none) (hT : P.underlying T = some (.slice E)) {size : Nat} (hsz : (P.info? E).map (·.size) = some size) (base : Nat) (v : Value) (n k : Nat) (xs : List Value) (kv : Int)
    (hs : a.eval s = v) (hhi : a.eval hi = .int .i64 kv) (hkv : kv = k) (hown : w.ownsRow base E size v n xs) (hk : k ≤ n)
    (h : ∀ x, Src w x k size (xs.take (k * size)) → wpList P ops Q rest (a.put o.dst x) w) : wpList P ops Q (o :: rest) a w := by
  subst hkv
  have hsrc := own_src hown
  obtain ⟨av, c, rfl⟩ := own_form' hown
  have hnc : n ≤ c := by
    rcases hown.2 with ⟨h0, h1⟩ | ⟨g, cap, cur, h0, hg, hh, hn, hc, _⟩
    · cases h0; omega
    · cases h0; exact hn
  have hrun : (Instr.sliceAt T (.slice av n c) none (some (.int .i64 (k : Int))) none).run P w = .ok (sliced av 0 k c size) w := by
    rw [run_sliceAt_slice w T _ _ _ _ (by rw [elem_of hT]; exact hT), run_slice_h w T av n c (by rw [elem_of hT]; exact hT) .i64 k (by omega) (by omega), elem_of hT, run_size hsz]
    simp [Result.andThen]
  have hmul : k * size ≤ n * size := Nat.mul_le_mul_right size hk
  refine wpList_plain hgd fun K' hK' => ?_
  unfold Oper.wp
  simp [execOp, hop, hs, hhi, hrun, Result.andThen]
  refine hK' _ _ (h _ ?_)
  refine ⟨by rw [List.length_take, hsrc.1]; omega, ?_⟩
  rcases hown.2 with ⟨h0, h1⟩ | ⟨g, cap, cur, h0, hg, hh, hn, hc, _⟩
  · cases h0
    obtain rfl : k = 0 := by omega
    exact .inl ⟨by simp [sliced], rfl⟩
  · cases h0
    refine .inr ⟨g, 0, c, ?_, fun j u hu => ?_⟩
    · unfold sliced
      simp [Addr.add]
    · rw [Nat.zero_add]
      rw [List.getElem?_take] at hu
      split at hu
      · exact own_cell hown hu
      · cases hu

end Go.Proofs.YtenahekdhepnfaaDoor
