/- package objects: Len, which ranges over All. -/
import Derived.RangeFuncBox
import Derived.RangeFuncLeaves
import Derived.Shelf.Abstract
import Derived.OwnWalkIn
import Derived.TacticsInMore
import Derived.LoopNIn
import Derived.LoopIn
import Derived.Test.YtecagnhffgajhaaDoorObjAll
namespace Go.Proofs.YtecagnhffgajhaaDoor
open Go Go.RowKit Go.Shelf

attribute [local go_sem] Oper.semAt_some

/-- Rows of cells lie as they lay, but for block bx. -/
def KeepsC (bx : Nat) (W W' : World) : Prop := W.heap.size ≤ W'.heap.size ∧ ∀ k c t z, k ≠ bx → W.heap[k]? = some (.cells c t z) → W'.heap[k]? = some (.cells c t z)
theorem keepsC_t {bx : Nat} {A B C : World} (h : KeepsC bx A B) (k : KeepsC bx B C) : KeepsC bx A C := ⟨Nat.le_trans h.1 k.1, fun i c t z hi hc => k.2 i c t z hi (h.2 i c t z hi hc)⟩
theorem keepsC_b {bx : Nat} {w : World} (W : World) (l : Nat) (o o' : Obj) (_ : w.heap.size ≤ l) (h : W.heap[l]? = some o) (ho : o.isCells = false) (_ : o.isWalk = false) : KeepsC bx W (W.putObj l o') := by
  refine ⟨by simp, fun k c t z _ hc => ?_⟩
  have hk : k ≠ l := by
    rintro rfl
    rw [h] at hc
    cases hc
    simp [Obj.isCells] at ho
  rw [World.putObj_heap_other hk]
  exact hc
theorem own_keepsC {bx : Nat} {w w' : World} {base : Nat} {e : TypeId} {size : Nat} {v : Value} {n : Nat} {xs : List Value} (h : w.ownsRow base e size v n xs) (k : KeepsC bx w w') (hS : ∀ b, b ∈ v.ownBlock.toList → b ≠ bx) : w'.ownsRow base e size v n xs := by
  refine ⟨h.1, ?_⟩
  rcases h.2 with h2 | ⟨g, cap, cur, rfl, hg, hh, r⟩
  · exact .inl h2
  · exact .inr ⟨g, cap, cur, rfl, hg, k.2 g _ _ _ (hS g (by simp [Value.ownBlock])) hh, r⟩

theorem grown_trans_none {a b c : World} (h : a.grownBy b none) {row : Option Nat} (k : b.grownBy c row) (hr : ∀ r, row = some r → a.heap.size ≤ r) : a.grownBy c none :=
  ⟨k.os.trans h.os, k.tape.trans h.tape, k.output.trans h.output, Nat.le_trans h.size k.size,
    fun i hi _ => (k.block i (Nat.lt_of_lt_of_le hi h.size) (fun e => by have := hr i e.symm; omega)).trans (h.block i hi (by simp))⟩

theorem keepsC_set {bx : Nat} (W : World) (v : Value) : KeepsC bx W (W.setCell ⟨bx, 0, none⟩ v) :=
  ⟨by simp, fun k c t z hk hc => by rw [Below.heap_setCell _ _ _ _ hk]; exact hc⟩

def encP (x : Int × Int) : Array Value := #[.int .u64 x.1, .int .u64 x.2]

set_option maxRecDepth 100000 in
set_option maxHeartbeats 2000000 in
theorem tells_in (F : Fence) (nf : Nat) (h15 : F.fn 37) (hro : F.round = none) (hn1 : 1 ≤ nf) (l px bo bl n bx : Nat) (f : Nat → Row) (hn0 : 1 ≤ n) (J Jx : List (Int × Int) → World → Prop)
    (W : World) (hJ : AbidesFrom W.heap.size J)
    (hY : ∀ pre x W1, J pre W1 → pre.length < n → YieldAt F (nf - 1) Tryd.prog l (encP x) W1 fun e W' =>
      (e = .returned (.bool true) ∧ J (pre ++ [x]) W' ∧ KeepsC bx W1 W') ∨ (e = .returned (.bool false) ∧ Jx (pre ++ [x]) W'))
    (hO : Objs W bo bl n f) (hx : W.cell? ⟨px, 0, none⟩ = some (.pointer (some ⟨bo, 0, none⟩))) (hbx : bx < W.heap.size) (h0 : J [] W) :
    CallsIn F nf Tryd.prog 37 (#[.func (.yield l) #[] #[]] ++ #[.pointer (some ⟨px, 0, none⟩)]) W fun e W' => (∃ v, e = .returned v) ∧ ((∃ xs, xs = alive f n ∧ J xs W') ∨ (∃ pre, True ∧ Jx pre W')) := by
  obtain ⟨i0, hi, hz0, hz1, hz2⟩ := info_parts info_row
  have c0 := hO.c0
  have hn := hO.small
  have hx0 : px < W.heap.size := World.block_lt_of_cell? _ _ hx
  have hb0 : bo < W.heap.size := World.block_lt_of_cell? _ _ c0
  have hbl : bl < W.heap.size := hO.rows.lt
  have HO : Hid (Objs W bo bl n f) := hO
  have HY := hid hY
  have HJ := hid hJ
  have H0 := hid h0
  clear hO hY hJ h0
  refine callsIn_of_wp Tryd.func37 rfl h15 ?_ hro
  simp only [Tryd.ntmps37, List.size_toArray, List.length_cons, List.length_nil, Nat.reduceAdd, Nat.reduceSub, Array.replicate_succ, Array.replicate_zero, List.push_toArray, List.append_toArray, List.nil_append, List.cons_append]
  gi_wp2_with (gi_at_builtin; refine wpListIn_append_own _ rfl _ _ 65 rfl W.heap.size 79 i0 _ 4 32 Tryd.underlying65 hi hz0 hz1 hz2 rfl (by decide) _ 0 [] rfl ?c0 ⟨bl, 0, none⟩ n n (rowsOf 4 (fun p => (f p).v) n) rfl (rowsOf_length _ _ _) ?c5 ?c1 ?c2 ?c3 ?c4 ?_)
  case c0 => exact ⟨rfl, .inr ⟨W.heap.size, 0, #[], rfl, Nat.le_refl _, by show (W.heap.push _)[W.heap.size]? = _; simp, Nat.le_refl _, by decide, rfl, rfl⟩⟩
  case c5 =>
    intro j u hu
    rw [Addr.add_lit, Nat.zero_add]
    exact (HO.out.rows.alloc _).cell hu
  case c1 =>
    intro u hu
    simp only [rowsOf, List.mem_map] at hu
    obtain ⟨i, _, rfl⟩ := hu
    have : i % 4 < 4 := Nat.mod_lt _ (by decide)
    match i % 4, this with
    | 0, _ => rfl
    | 1, _ => rfl
    | 2, _ => rfl
    | 3, _ => rfl
  case c2 => unfold maxLen; omega
  case c3 => omega
  case c4 => simp
  intro v' w1 hown' hgrow _
  obtain ⟨m, rfl⟩ : ∃ m, n = m + 1 := ⟨n - 1, by omega⟩
  obtain ⟨g, cap, rfl, hg⟩ := own_form hown'
  have hG : W.grownBy w1 none := grown_trans_none (World.grownBy_alloc W _ none) hgrow (by intro r e; simp [Value.ownBlock] at e; omega)
  have hJ1 := HJ.out [] W w1 none H0.out hG (fun r e => by cases e)
  have hsz : W.heap.size ≤ w1.heap.size := hG.size
  have HOwn := hid hown'
  have HJ1 := hid hJ1
  clear hown' hgrow hG hJ1 hx c0
  gi_wp2_with fail
  gi_loopw [12] (fun i wr => ∃ k : Nat, k ≤ m + 1 ∧ i = .int .i64 k ∧ J (alive f k) wr ∧ wr.ownsRow W.heap.size 79 4 (.slice (some ⟨g, 0, none⟩) (m + 1) cap) (m + 1) (rowsOf 4 (fun p => (f p).v) (m + 1))) (fun i _ => m + 1 - (intOf i).toNat)
  case atStart => exact ⟨0, Nat.zero_le _, rfl, HJ1.out, HOwn.out⟩
  case round =>
    obtain ⟨k, hk, rfl, hJk, hO2⟩ := hrel
    have HJk := hid hJk
    clear hJk HJ1
    by_cases hlt : k < m + 1
    · have d0 := own_cell hO2 (rowsOf_get (fun p => (f p).v) hlt (show 0 < 4 by omega))
      have d1 := own_cell hO2 (rowsOf_get (fun p => (f p).v) hlt (show 1 < 4 by omega))
      have d2 := own_cell hO2 (rowsOf_get (fun p => (f p).v) hlt (show 2 < 4 by omega))
      have d3 := own_cell hO2 (rowsOf_get (fun p => (f p).v) hlt (show 3 < 4 by omega))
      simp only [Row.v, Nat.add_zero] at d0 d1 d2 d3
      have HO2 := hid hO2
      clear hO2
      by_cases e : (f k).handle = 0
      · have e' : ((f k).handle != 0) = false := by simpa using e
        have HE := hid e
        clear e
        gi_wp2_with fail
        refine ⟨fun _ h => (by cases h), ?_⟩
        gi_wp2_with fail
        go_roundw
        case rel => exact ⟨k + 1, by omega, by go_num, by rw [alive_succ_no HE.out]; exact HJ.out _ _ _ none HJk.out (World.grownBy_alloc _ _ none) (fun r e => by cases e), own_keptN HO2.out ((Kept.refl _ _).alloc _)⟩
        case measure => simp [intOf]; omega
      · have e' : ((f k).handle != 0) = true := by simpa using e
        have HE := hid e
        clear e
        obtain ⟨fn, tmps, assign, body, hy, hR⟩ := HY.out (alive f k) ((f k).handle, (f k).addr) _ (HJ.out _ _ _ none HJk.out (World.grownBy_alloc _ (.cells #[.int .u64 (f k).times, .int .u64 (f k).handle, .int .i64 (f k).kind, .int .u64 (f k).addr] 79) none) (fun r e => by cases e)) (by have := alive_length_le f k; omega)
        dsimp only [encP] at hy
        gi_wp2_with fail
        refine hR.mono ?_
        rintro e W3 (⟨rfl, hJ3, hk3⟩ | ⟨rfl, hJx3⟩)
        · rw [← alive_succ_yes HE.out] at hJ3
          have HJ3 := hid hJ3
          have HK3 := hid hk3
          clear hJ3 hk3 hR hy
          gi_wp2_with fail
          go_roundw
          case rel => exact ⟨k + 1, by omega, by go_num, HJ3.out, own_keepsC (own_keptN HO2.out ((Kept.refl _ _).alloc _)) HK3.out (fun b hb => by simp [Value.ownBlock] at hb; omega)⟩
          case measure => simp [intOf]; omega
        · have HJ3 := hid hJx3
          clear hJx3 hR hy
          gi_wp2_with fail
          refine bodyPost_ret (results_none rfl _ _ _) rfl ?_
          exact ⟨⟨_, rfl⟩, .inr ⟨_, trivial, HJ3.out⟩⟩
    · gi_wp2_with fail
      go_end0
      obtain rfl : k = m + 1 := by omega
      exact ⟨⟨_, rfl⟩, .inl ⟨_, rfl, HJk.out⟩⟩

theorem tells_stops (F : Fence) (nf : Nat) (h15 : F.fn 37) (hro : F.round = none) (hn1 : 1 ≤ nf) (px bo bl n bx : Nat) (f : Nat → Row) (hn0 : 1 ≤ n) (w : World)
    (hO : Objs w bo bl n f) (hx : w.cell? ⟨px, 0, none⟩ = some (.pointer (some ⟨bo, 0, none⟩))) (hbx : bx < w.heap.size) :
    SeqStopsK F nf Tryd.prog 37 #[.pointer (some ⟨px, 0, none⟩)] encP (KeepsC bx) (fun ys => ys = alive f n) (fun _ => True) n w := fun l J Jx W hW hJ _ hY h0 =>
  tells_in F nf h15 hro hn1 l px bo bl n bx f hn0 J Jx W hJ hY (hO.keptN (Kept.of_below hW)) ((Kept.of_below hW).cellSome hx (by simp)) (Nat.lt_of_lt_of_le hbx hW.size) h0

theorem All_in (F : Fence) (nf : Nat) (h13 : F.fn 28) (hro : F.round = none) (bo : Nat) (w : World) :
    CallsIn F nf Tryd.prog 28 #[.pointer (some ⟨bo, 0, none⟩)] w fun e w' => e = .returned (.func (.func 37) #[] #[.pointer (some ⟨w.heap.size, 0, none⟩)]) ∧ w.alloc (.cells #[.pointer (some ⟨bo, 0, none⟩)] 22) = w' := by
  refine callsIn_of_wp Tryd.func28 rfl h13 ?_ hro
  simp only [Tryd.ntmps28, List.size_toArray, List.length_cons, List.length_nil, Nat.reduceAdd, Nat.reduceSub, Array.replicate_succ, Array.replicate_zero, List.push_toArray, List.append_toArray, List.nil_append, List.cons_append]
  gi_wp2
  go_ret
  exact ⟨rfl, rfl⟩

set_option maxRecDepth 100000 in
set_option maxHeartbeats 2000000 in
theorem len_in (F : Fence) (nf : Nat) (h9 : F.fn 12) (h13 : F.fn 28) (h15 : F.fn 37) (hro : F.round = none) (hn3 : 3 ≤ nf) {w : World} {bo bl n : Nat} {f : Nat → Row} (hO : Objs w bo bl n f) (hn0 : 1 ≤ n) :
    CallsIn F nf Tryd.prog 12 #[.pointer (some ⟨bo, 0, none⟩)] w fun e w' => e = .returned (.int .i64 (alive f n).length) ∧ Below w.heap.size w w' := by
  have h1 : 1 ≤ nf := by omega
  have hn := hO.small
  have HO := hid hO
  clear hO
  refine callsIn_of_wp_marks Tryd.func12 rfl h9 ?_ hro
  simp only [Tryd.ntmps12, List.size_toArray, List.length_cons, List.length_nil, Nat.reduceAdd, Nat.reduceSub, Array.replicate_succ, Array.replicate_zero, List.push_toArray, List.append_toArray, List.nil_append, List.cons_append]
  gi_wp2_with (gi_at_call 28; refine (All_in F (nf - 1) h13 hro _ _).mono ?_; rintro e w' ⟨rfl, rfl⟩)
  have bS := Boxed.new w 3 (.int .i64 0)
  have bN := Boxed.new (w.alloc (.cells #[.int .i64 0] 3)) 22 (.pointer (some ⟨bo, 0, none⟩))
  rw [World.size_alloc] at bN
  have hB0 : Below w.heap.size w ((w.alloc (.cells #[.int .i64 0] 3)).alloc (.cells #[.pointer (some ⟨bo, 0, none⟩)] 22)) := ((Below.refl _ w).alloc (Nat.le_refl _) _).alloc (by simp) _
  refine wpIn_rangeFunc_ownG hro h1 (gf := 37) (lb := #[.pointer (some ⟨w.heap.size + 1, 0, none⟩)]) rfl h15 (enters_of Tryd.func37 (by kernel_rfl) rfl)
    (tells_stops F (nf - 1) h15 hro (by omega) (w.heap.size + 1) bo bl n w.heap.size f hn0 _ (HO.out.keptN (((Kept.refl _ _).alloc _).alloc _)) bN.cell (by simp; omega)) keepsC_t keepsC_b (Below.refl _ _) (fun _ => rfl)
    (fun pre W => (W.cell? ⟨w.heap.size, 0, none⟩ = some (.int .i64 (pre.length : Nat)) ∧ W.frozen? ⟨w.heap.size, 0, none⟩ = false) ∧ Below w.heap.size w W)
    (fun _ _ _ => False)
    (OwnFrom.and (Own.from (fun s A B row hs hg hr => ⟨cell_kept hs.1 hg hr, (frozen_kept hs.1 hg hr).trans hs.2⟩) _) (ownFrom_below (Nat.le_refl _) (by simp; omega)))
    (fun _ _ _ _ _ hs _ _ => hs)
    ⟨⟨(bS.alloc _).cell, (bS.alloc _).frozen⟩, hB0⟩
    (fun x => { tmps := #[.pointer (some ⟨bo, 0, none⟩), undef, .int .i64 0, .pointer (some ⟨w.heap.size, 0, none⟩), .pointer (some ⟨bo, 0, none⟩), .func (.func 37) #[] #[.pointer (some ⟨w.heap.size + 1, 0, none⟩)], .int .u64 x.1, .int .u64 x.2, undef, undef, undef], defers := [] }) ?assign ?body ?done ?stop
  case assign =>
    intro l x W K hK
    dsimp only [encP]
    gi_wp2
    simpa using hK
  case body =>
    rintro l pre x W ⟨⟨hc, hf⟩, hB⟩ hlen
    have hB' := hid hB
    clear hB
    gi_wp2
    refine ⟨(KeepsOthers.setCell _ _ _).from _, keepsC_set _ _, ⟨?_, by rw [World.frozen?_setCell]; exact hf⟩, hB'.out.setCell (p := ⟨w.heap.size, 0, none⟩) (Nat.le_refl _) _⟩
    rw [World.cell?_setCell_same' _ _ _ (by rw [hc]; rfl)]
    simp
  case done =>
    rintro D ys W hD rfl ⟨⟨hc, _⟩, hB⟩ hK
    gi_wp2
    refine ⟨by simp, .inl ⟨_, _, rfl, run_takeDeferred hK, ?_⟩⟩
    exact ⟨_, results_tmp rfl _ _ _, rfl, hB.trans (belowK_b (w := w) (Nat.le_refl _) W D _ _ (by simp at hD; omega) hK rfl rfl)⟩
  case stop =>
    rintro D c pre W _ _ h _
    exact h.elim

theorem len_ok {w : World} {bo bl n : Nat} {f : Nat → Row} (hO : Objs w bo bl n f) (hn0 : 1 ≤ n) :
    Calls Tryd.prog 12 #[.pointer (some ⟨bo, 0, none⟩)] w fun e w' => e = .returned (.int .i64 (alive f n).length) ∧ Kept [] w w' :=
  (callsIn_wide.1 (len_in Fence.wide 3 trivial trivial trivial rfl (by omega) hO hn0)).mono fun _ _ ⟨h1, h2⟩ => ⟨h1, Kept.of_below h2⟩

end Go.Proofs.YtecagnhffgajhaaDoor
