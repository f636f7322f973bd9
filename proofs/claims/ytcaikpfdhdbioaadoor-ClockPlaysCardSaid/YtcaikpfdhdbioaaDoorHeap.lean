/- package heap: ahead, lay. -/
import Derived.Test.YtcaikpfdhdbioaaDoorProg
import Derived.RegionTactic
import Derived.BigRegion
import Derived.IntWalk
import Derived.Test.YtcaikpfdhdbioaaDoorHeapM
import Derived.Test.YtcaikpfdhdbioaaDoorMap
import Derived.Test.YtcaikpfdhdbioaaDoorLib2
import Derived.Deep.Quiet
import Derived.Deep.QuietTactic
import Derived.BigQuiet
import Derived.Deep.DeepMust
import Derived.StillTailTactics
namespace Go.Proofs.YtcaikpfdhdbioaaDoor
open Go Go.RowKit

/-- The heap's head at hb, its map at mb, its row v of things. -/
structure HRaw (w : World) (hb mb : Nat) (v : Value) (L : List Th) (last : Nat) (f : Int → Option Value) : Prop where
  head : Blk w hb [v, .map (some mb), .int .i64 last]
  rows : w.ownsRow 0 84 3 v L.length (TV L)
  map : ∃ n, MapIs w .i64 mb n f
  hv : hb ∉ v.ownBlock.toList
  mv : mb ∉ v.ownBlock.toList
  hm : mb ≠ hb

theorem HRaw.kept {S : List Nat} {w w' : World} {hb mb : Nat} {v : Value} {L : List Th} {last : Nat} {f : Int → Option Value} (h : HRaw w hb mb v L last f) (k : Kept S w w') (h1 : hb ∉ S) (h2 : mb ∉ S) (h3 : ∀ b, b ∈ v.ownBlock.toList → b ∉ S) : HRaw w' hb mb v L last f := by
  obtain ⟨n, hn⟩ := h.map
  exact ⟨h.head.kept k h1, own_kept h.rows k h3, ⟨n, hn.kept k h2⟩, h.hv, h.mv, h.hm⟩
theorem HRaw.keptN {w w' : World} {hb mb : Nat} {v : Value} {L : List Th} {last : Nat} {f : Int → Option Value} (h : HRaw w hb mb v L last f) (k : Kept [] w w') : HRaw w' hb mb v L last f := h.kept k (by simp) (by simp) (fun _ _ => by simp)
def hown (hb mb : Nat) (v : Value) : List Nat := hb :: mb :: v.ownBlock.toList

theorem wf_i64 {i : Nat} (h : i ≤ 9223372036854775807) : (Lit.int .i64 (i : Int)).wf = true := by
  simp [Lit.wf, IntKind.min, IntKind.max, IntKind.signed, IntKind.bits]
  omega

section
variable {P : Program} {w : World} {ops : Array Oper} {rest : List Oper} {o : Oper} {a : Act} {Q : Exit → Act → World → Prop}
/-- 'm[k] = v', how many there are left open. -/
theorem wp_mapSetE (hg : o.guard = none) (m x v : Operand) (t kt et : TypeId) (hop : o.op = Op.mapUpdate t m x v)
    (ht : P.underlying t = some (.map kt et)) {q : IntKind} (hk : P.underlying kt = some (.int q)) {b n : Nat} {f : Int → Option Value} (hm : a.eval m = .map (some b)) (h : MapIs w q b n f) {key : Int} (hw : (Lit.int q key).wf = true) (hx : a.eval x = .int q key) {val : Value} (hv : a.eval v = val)
    (hK : ∀ w' n', MapIs w' q b n' (fun y => if y = key then some val else f y) → Kept [b] w w' → wpList P ops Q rest (a.put o.dst undef) w') : wpList P ops Q (o :: rest) a w :=
  wp_mapSet hg m x v t kt et hop ht hk hm h hw hx hv (fun w' h1 h2 => hK w' _ h1 h2)
theorem wp_mapDelE (hg : o.guard = none) (m x : Operand) (t kt et tk : TypeId) (hop : o.op = Op.call { callee := Callee.builtin Builtin.delete, args := #[m, x], argTypes := #[t, tk] })
    (ht : P.underlying t = some (.map kt et)) {q : IntKind} (hk : P.underlying kt = some (.int q)) {b n : Nat} {f : Int → Option Value} (hm : a.eval m = .map (some b)) (h : MapIs w q b n f) {key : Int} (hw : (Lit.int q key).wf = true) (hx : a.eval x = .int q key)
    (hK : ∀ w' n', MapIs w' q b n' (fun y => if y = key then none else f y) → Kept [b] w w' → wpList P ops Q rest (a.put o.dst (.tuple #[])) w') : wpList P ops Q (o :: rest) a w :=
  wp_mapDel hg m x t kt et tk hop ht hk hm h hw hx (fun w' h1 h2 => hK w' _ h1 h2)
end

set_option maxRecDepth 100000 in
set_option maxHeartbeats 1000000 in
theorem ahead_ok (a b : Th) (w : World) :
    Calls Tryd.prog 39 #[.agg #[.int .u64 a.d, .int .u64 a.x, .int .i64 a.h], .agg #[.int .u64 b.d, .int .u64 b.x, .int .i64 b.h]] w fun e w' => e = .returned (.bool (ahB a b)) ∧ Kept [] w w' := by
  by_cases h1 : a.d < b.d
  · have e : ahB a b = true := ahB_true (.inl h1)
    have E := hid e
    have h1' : (a.d : Int) < (b.d : Int) := by omega
    clear h1 e
    go_enter Tryd.func39, Tryd.ntmps39
    go_wp2_with fail
    go_ret
    exact ⟨ret_bool E.out.symm, ((Kept.refl _ _).alloc _).alloc _⟩
  · by_cases h2 : a.d = b.d
    · by_cases h3 : a.h < b.h
      · have e : ahB a b = true := ahB_true (.inr ⟨h2, h3⟩)
        have E := hid e
        have h1' : ¬ (a.d : Int) < (b.d : Int) := by omega
        have h2' : (a.d : Int) = (b.d : Int) := by omega
        have h3' : (a.h : Int) < (b.h : Int) := by omega
        clear h1 h2 h3 e
        go_enter Tryd.func39, Tryd.ntmps39
        go_wp2_with fail
        go_ret
        exact ⟨ret_bool E.out.symm, ((Kept.refl _ _).alloc _).alloc _⟩
      · have e : ahB a b = false := ahB_false (by unfold Ah; omega)
        have E := hid e
        have h1' : ¬ (a.d : Int) < (b.d : Int) := by omega
        have h2' : (a.d : Int) = (b.d : Int) := by omega
        have h3' : ¬ (a.h : Int) < (b.h : Int) := by omega
        clear h1 h2 h3 e
        go_enter Tryd.func39, Tryd.ntmps39
        go_wp2_with fail
        go_ret
        exact ⟨ret_bool E.out.symm, ((Kept.refl _ _).alloc _).alloc _⟩
    · have e : ahB a b = false := ahB_false (by unfold Ah; omega)
      have E := hid e
      have h1' : ¬ (a.d : Int) < (b.d : Int) := by omega
      have h2' : ¬ (a.d : Int) = (b.d : Int) := by omega
      clear h1 h2 e
      go_enter Tryd.func39, Tryd.ntmps39
      go_wp2_with fail
      go_ret
      exact ⟨ret_bool E.out.symm, ((Kept.refl _ _).alloc _).alloc _⟩

theorem HRaw.set {w : World} {hb mb g n cap : Nat} {L : List Th} {last : Nat} {f : Int → Option Value} (h : HRaw w hb mb (.slice (some ⟨g, 0, none⟩) n cap) L last f) (hn : L.length = n) {i : Nat} (hi : i < n) (t : Th) :
    HRaw (((w.setCell ⟨g, i * 3, none⟩ (.int .u64 t.d)).setCell ⟨g, i * 3 + 1, none⟩ (.int .u64 t.x)).setCell ⟨g, i * 3 + 2, none⟩ (.int .i64 t.h)) hb mb (.slice (some ⟨g, 0, none⟩) n cap) (L.set i t) last f := by
  have h1 := h.hv
  have h2 := h.mv
  simp [Value.ownBlock] at h1 h2
  obtain ⟨m, hm⟩ := h.map
  refine ⟨((h.head.set_ne _ _ _ h1).set_ne _ _ _ h1).set_ne _ _ _ h1, ?_, ⟨m, ((hm.set_ne _ _ _ h2).set_ne _ _ _ h2).set_ne _ _ _ h2⟩, h.hv, h.mv, h.hm⟩
  have h3 := h.rows
  rw [hn] at h3
  rw [List.length_set, hn, ← TV_set L i t (by omega)]
  exact own_set (own_set (own_set h3 _ _) _ _) _ _

set_option maxRecDepth 100000 in
set_option maxHeartbeats 2000000 in
theorem lay_ok {w : World} {hb mb : Nat} {v : Value} {L : List Th} {last : Nat} {f : Int → Option Value} (h : HRaw w hb mb v L last f) {i : Nat} (hi : i < L.length) (t : Th) (ht : t.h ≤ 9223372036854775807) :
    Calls Tryd.prog 37 #[.pointer (some ⟨hb, 0, none⟩), .int .i64 i, .agg #[.int .u64 t.d, .int .u64 t.x, .int .i64 t.h]] w fun e w' => e = .returned (.tuple #[]) ∧ HRaw w' hb mb v (L.set i t) last (upd f t.h i) ∧ Kept (hown hb mb v) w w' := by
  obtain ⟨n, hn⟩ : ∃ n, L.length = n := ⟨_, rfl⟩
  obtain ⟨m, hm⟩ : ∃ m, n = m + 1 := ⟨n - 1, by omega⟩
  obtain ⟨g, cap, rfl, -⟩ : ∃ g cap, v = .slice (some ⟨g, 0, none⟩) n cap ∧ 0 ≤ g := by
    have := h.rows
    rw [hn, hm] at this
    rw [hm]
    exact own_form this
  rw [hn] at hi
  have hrows := h.rows
  rw [hn] at hrows
  have hgl := own_lt hrows
  have hbl := h.head.lt
  have c0 := h.head.cell (o := 0) rfl
  have c1 := h.head.cell (o := 1) rfl
  have z0 := own_frozen hrows (i * 3)
  have z1 := own_frozen hrows (i * 3 + 1)
  have z2 := own_frozen hrows (i * 3 + 2)
  obtain ⟨q0, q1, q2⟩ := TV_get0 (tat_get (V := L) (i := i) (by omega))
  have d0 := own_cell hrows q0
  have d1 := own_cell hrows q1
  have d2 := own_cell hrows q2
  obtain ⟨x0, hx0⟩ : ∃ x, Value.int .u64 ((tat L i).d : Int) = x := ⟨_, rfl⟩
  obtain ⟨x1, hx1⟩ : ∃ x, Value.int .u64 ((tat L i).x : Int) = x := ⟨_, rfl⟩
  obtain ⟨x2, hx2⟩ : ∃ x, Value.int .i64 ((tat L i).h : Int) = x := ⟨_, rfl⟩
  rw [hx0] at d0
  rw [hx1] at d1
  rw [hx2] at d2
  clear hx0 hx1 hx2 q0 q1 q2
  have hi0 : (0 : Int) ≤ (i : Int) := by omega
  have hi1 : (i : Int) < (n : Int) := by omega
  have hv := h.hv
  have hv' := h.mv
  simp [Value.ownBlock] at hv hv'
  have H := hid h
  have HN := hid hn
  have HWF := hid (wf_i64 ht)
  obtain ⟨mn, hmn⟩ := h.map
  have HMN := hid hmn
  clear h hn hm hrows ht hmn
  go_enter Tryd.func37, Tryd.ntmps37
  go_wp2_with fail
  go_region
  go_wp2_with fail
  obtain ⟨w1, hw1⟩ : ∃ w1, (((((w.setCell ⟨g, i * 3, none⟩ (.int .u64 t.d)).setCell ⟨g, i * 3 + 1, none⟩ (.int .u64 t.x)).setCell ⟨g, i * 3 + 2, none⟩ (.int .i64 t.h)).alloc (.cells #[.int .u64 t.d, .int .u64 t.x, .int .i64 t.h] 84)).drew) = w1 := ⟨_, rfl⟩
  have hK1 : Kept (hown hb mb (.slice (some ⟨g, 0, none⟩) n cap)) w w1 := by
    rw [← hw1]
    exact (((((Kept.refl _ _).setCell (.inl (by simp [hown, Value.ownBlock])) _).setCell (.inl (by simp [hown, Value.ownBlock])) _).setCell (.inl (by simp [hown, Value.ownBlock])) _).alloc _).drew
  have hR1 : HRaw w1 hb mb (.slice (some ⟨g, 0, none⟩) n cap) (L.set i t) last f := by
    rw [← hw1]
    exact (H.out.set HN.out hi t).keptN (((Kept.refl [] _).alloc _).drew)
  have b2 : w1.cell? ⟨w.heap.size, 2, none⟩ = some (.int .i64 t.h) := by
    rw [← hw1]
    exact (Blk.newA #[.int .u64 t.d, .int .u64 t.x, .int .i64 t.h] 84 (by simp)).drew.cell (o := 2) rfl
  rw [hw1]
  clear hw1 c0 z0 z1 z2 d0 d1 d2 c1
  have c1 := hR1.head.cell (o := 1) rfl
  obtain ⟨m1, hm1⟩ := hR1.map
  have HM1 := hid hm1
  have HK1 := hid hK1
  have HR1 := hid hR1
  clear hm1 hK1 hR1
  go_still_tail 7, (by kernel_rfl)
  change wpList _ _ _ _ _ w1.drew
  go_wp2_with (first | (at_mapUpdate; go_must (refine wp_mapSetE rfl _ _ _ 79 3 3 rfl Tryd.underlying79 Tryd.underlying3 rfl (HM1.out.of_block (w' := w1.drew) rfl) HWF.out rfl rfl ?_)))
  intro w2 n2 hM2 hK2
  have HM2 := hid hM2
  have HK2 := hid hK2
  clear hM2 hK2
  go_wp2_with fail
  go_end0
  have hK3 : Kept [mb] w1 w2 := (Kept.refl [mb] w1).drew.trans HK2.out
  refine ⟨rfl, ⟨HR1.out.head.kept hK3 (by simpa using fun e : hb = mb => HR1.out.hm e.symm), own_kept HR1.out.rows hK3 (fun b hb1 hb2 => by
    rw [List.mem_singleton.1 hb2] at hb1
    exact HR1.out.mv hb1), ⟨_, HM2.out⟩, HR1.out.hv, HR1.out.mv, HR1.out.hm⟩, HK1.out.trans (hK3.mono (by simp [hown]))⟩

end Go.Proofs.YtcaikpfdhdbioaaDoor
