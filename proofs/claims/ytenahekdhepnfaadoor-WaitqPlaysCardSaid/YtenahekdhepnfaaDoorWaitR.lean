/- The document's queues (distaffref09): find, out, first: contracts. -/
import Derived.Test.YtenahekdhepnfaaDoorWaitG
import Derived.Test.YtenahekdhepnfaaDoorTail
import Derived.Test.YtenahekdhepnfaaDoorAppS
import Derived.Laws.BitsAllLaws
namespace Go.Proofs.YtenahekdhepnfaaDoor
open Go Go.RowKit

def SV : List Slp → List Value
  | [] => []
  | s :: Q => .int .u64 s.id :: .int .u64 s.addr :: .int .u64 s.mask :: SV Q
theorem SV_length : ∀ Q, (SV Q).length = Q.length * 3
  | [] => rfl
  | s :: Q => by simp [SV, SV_length Q]; omega
theorem SV_append : ∀ Q R, SV (Q ++ R) = SV Q ++ SV R
  | [], R => rfl
  | s :: Q, R => by simp [SV, SV_append Q R]
theorem SV_take : ∀ (Q : List Slp) (n : Nat), SV (Q.take n) = (SV Q).take (n * 3)
  | [], n => by simp [SV]
  | s :: Q, 0 => by simp [SV]
  | s :: Q, n + 1 => by
    rw [List.take_succ_cons, SV, SV_take Q n, show (n + 1) * 3 = n * 3 + 1 + 1 + 1 by omega, SV, List.take_succ_cons, List.take_succ_cons, List.take_succ_cons]
theorem SV_drop : ∀ (Q : List Slp) (n : Nat), SV (Q.drop n) = (SV Q).drop (n * 3)
  | [], n => by simp [SV]
  | s :: Q, 0 => by simp [SV]
  | s :: Q, n + 1 => by
    rw [List.drop_succ_cons, SV, SV_drop Q n, show (n + 1) * 3 = n * 3 + 1 + 1 + 1 by omega, List.drop_succ_cons, List.drop_succ_cons, List.drop_succ_cons]
theorem SV_get : ∀ {Q : List Slp} {i : Nat} {s : Slp}, Q[i]? = some s → (SV Q)[i * 3]? = some (.int .u64 s.id) ∧ (SV Q)[i * 3 + 1]? = some (.int .u64 s.addr) ∧ (SV Q)[i * 3 + 2]? = some (.int .u64 s.mask)
  | [], i, s, h => by simp at h
  | t :: Q, 0, s, h => by
    obtain rfl : t = s := by simpa using h
    exact ⟨rfl, rfl, rfl⟩
  | t :: Q, i + 1, s, h => by
    have := SV_get (Q := Q) (i := i) (s := s) (by simpa using h)
    rw [show (i + 1) * 3 = i * 3 + 1 + 1 + 1 by omega]
    simpa [SV] using this
theorem SV_one (Q : List Slp) : ∀ u, u ∈ SV Q → u.oneCell' = true := by
  induction Q with
  | nil => intro u hu; cases hu
  | cons s Q ih =>
    intro u hu
    simp only [SV, List.mem_cons] at hu
    rcases hu with rfl | rfl | rfl | hu
    · rfl
    · rfl
    · rfl
    · exact ih u hu

theorem own_emptyS (w : World) (e size : Nat) : (w.alloc (.cells #[] e)).ownsRow w.heap.size e size (.slice (some ⟨w.heap.size, 0, none⟩) 0 0) 0 [] :=
  ⟨by simp, .inr ⟨w.heap.size, 0, #[], rfl, Nat.le_refl _, by show (w.heap.push _)[w.heap.size]? = _; simp, Nat.le_refl _, by unfold maxLen; omega, by simp, by simp⟩⟩

/-- The document's queues at rb. -/
structure RQAt (w : World) (rb : Nat) (v : Value) (Q : List Slp) (n : Nat) : Prop where
  head : Blk w rb [v, .int .i64 n]
  row : w.ownsRow 0 102 3 v Q.length (SV Q)
  far : rb ∉ v.ownBlock.toList
def RQIs (w : World) (rb : Nat) (U : List Nat) (Q : List Slp) (n : Nat) : Prop := ∃ v, U = rb :: v.ownBlock.toList ∧ RQAt w rb v Q n
theorem RQIs.lt {w : World} {rb : Nat} {U : List Nat} {Q : List Slp} {n : Nat} (h : RQIs w rb U Q n) : ∀ x, x ∈ U → x < w.heap.size := by
  obtain ⟨v, rfl, h⟩ := h
  intro x hx
  rcases List.mem_cons.1 hx with rfl | hx
  · exact h.head.lt
  · exact (h.row.lt x (by simpa using hx)).2
theorem RQIs.kept {T : List Nat} {w w' : World} {rb : Nat} {U : List Nat} {Q : List Slp} {n : Nat} (h : RQIs w rb U Q n) (k : Kept T w w') (hT : ∀ x, x ∈ U → x ∉ T) : RQIs w' rb U Q n := by
  obtain ⟨v, rfl, h⟩ := h
  exact ⟨v, rfl, h.head.kept k (hT rb (by simp)), own_kept h.row k (fun b hb => hT b (List.mem_cons_of_mem _ hb)), h.far⟩
theorem RQIs.keptN {w w' : World} {rb : Nat} {U : List Nat} {Q : List Slp} {n : Nat} (h : RQIs w rb U Q n) (k : Kept [] w w') : RQIs w' rb U Q n := h.kept k (fun _ _ => by simp)
theorem info_waiter : (Tryd.prog.info? 102).map (fun i => (i.zero, i.size, i.bytes)) = some (some (.agg #[.int .u64 0, .int .u64 0, .int .u64 0]), 3, 24) := by kernel_rfl
theorem size_waiter : (Tryd.prog.info? 102).map (·.size) = some 3 := by kernel_rfl
theorem own_set_ne' {w : World} {base : Nat} {e : TypeId} {size : Nat} {v : Value} {n : Nat} {xs : List Value} (h : w.ownsRow base e size v n xs) {p : Addr} (u : Value) (hb : p.block ∉ v.ownBlock.toList) : (w.setCell p u).ownsRow base e size v n xs :=
  own_kept (S := [p.block]) h ((Kept.refl _ _).setCell (.inl (by simp)) u) (fun b hb' hm => hb (by rw [List.mem_singleton.1 hm] at hb'; exact hb'))
/-- A new row is laid into the head. -/
theorem RQAt.lay {w w' : World} {rb : Nat} {v v' : Value} {Q Q' : List Slp} {n : Nat} (h : RQAt w rb v Q n) (hk : Kept [] w w') (hv : w'.ownsRow w.heap.size 102 3 v' Q'.length (SV Q')) :
    RQIs (w'.setCell ⟨rb, 0, none⟩ v') rb (rb :: v'.ownBlock.toList) Q' n ∧ (∀ x, x ∈ rb :: v'.ownBlock.toList → x ∈ rb :: v.ownBlock.toList ∨ w.heap.size ≤ x) ∧ Kept (rb :: v.ownBlock.toList) w (w'.setCell ⟨rb, 0, none⟩ v') := by
  have hl := h.head.lt
  have hge := own_ge hv
  have hf : rb ∉ v'.ownBlock.toList := fun hm => by have := hge rb hm; omega
  refine ⟨⟨v', rfl, (h.head.keptN hk).set 0 v', own_set_ne' (own_mono hv (Nat.zero_le _)) _ hf, hf⟩, fun x hx => ?_, hk.nil.setCell (.inl (by simp)) _⟩
  rcases List.mem_cons.1 hx with rfl | hx
  · exact .inl (by simp)
  · exact .inr (hge x hx)
theorem RQAt.cells {w : World} {rb : Nat} {a : Option Addr} {m c : Nat} {Q : List Slp} {n : Nat} (h : RQAt w rb (.slice a m c) Q n) (hn : Q.length = m) {k : Nat} {s : Slp} (hs : Q[k]? = some s) :
    ∃ g, a = some ⟨g, 0, none⟩ ∧ w.cell? ⟨g, k * 3, none⟩ = some (.int .u64 s.id) ∧ w.cell? ⟨g, k * 3 + 1, none⟩ = some (.int .u64 s.addr) ∧ w.cell? ⟨g, k * 3 + 2, none⟩ = some (.int .u64 s.mask) := by
  have hr := h.row
  rw [hn] at hr
  have hk := (List.getElem?_eq_some_iff.1 hs).1
  obtain ⟨p, rfl⟩ : ∃ p, m = p + 1 := ⟨m - 1, by omega⟩
  obtain ⟨g, c, e1, -⟩ := own_form hr
  cases e1
  obtain ⟨q0, q1, q2⟩ := SV_get hs
  exact ⟨g, rfl, own_cell hr q0, own_cell hr q1, own_cell hr q2⟩

def placeI (p m : Nat) : Int := if p < m then (p : Int) else -1
theorem placeI_lt {p m : Nat} (h : p < m) : placeI p m = p := by unfold placeI; rw [if_pos h]
theorem placeI_ge {p m : Nat} (h : m ≤ p) : placeI p m = -1 := by unfold placeI; rw [if_neg (by omega)]
set_option maxRecDepth 100000 in
set_option maxHeartbeats 1000000 in
/-- find: the place p of whoever is meant, or none. -/
theorem rfind_ok {w : World} {rb : Nat} {U : List Nat} {Q : List Slp} {n : Nat} (h : RQIs w rb U Q n) (hQ : Q.length ≤ 100000) (x : Nat) {p : Nat} (hp1 : ∀ j s, j < p → Q[j]? = some s → s.id ≠ x) (hp2 : ∀ s, Q[p]? = some s → s.id = x) :
    Calls Tryd.prog 47 #[.pointer (some ⟨rb, 0, none⟩), .int .u64 x] w fun e w' => e = .returned (.int .i64 (placeI p Q.length)) ∧ w = w' := by
  obtain ⟨v, rfl, h⟩ := h
  obtain ⟨m, hm⟩ : ∃ m, Q.length = m := ⟨_, rfl⟩
  have hrow := h.row
  rw [hm] at hQ hrow ⊢
  obtain ⟨av, cv, rfl⟩ := own_form' hrow
  have c0 := h.head.cell (o := 0) rfl
  have H := hid h
  have HM := hid hm
  have HP1 := hid hp1
  have HP2 := hid hp2
  clear h hm hrow hp1 hp2
  go_enter Tryd.func47, Tryd.ntmps47
  go_wp2_with fail
  go_loop [5] (fun s5 => ∃ k : Nat, k ≤ p ∧ s5 = .int .i64 k) (fun s5 => m - (intOf s5).toNat)
  case atStart => exact ⟨0, Nat.zero_le _, rfl⟩
  case round =>
    obtain ⟨k, hk, rfl⟩ := hrel
    by_cases hkm : k < m
    · obtain ⟨s, hs⟩ : ∃ s, Q[k]? = some s := ⟨_, List.getElem?_eq_getElem (by rw [HM.out]; exact hkm)⟩
      obtain ⟨g, rfl, d0, -, -⟩ := H.out.cells HM.out hs
      by_cases hkp : k = p
      · have hx : s.id = x := HP2.out s (by rw [← hkp]; exact hs)
        have hb : ((s.id : Int) == (x : Int)) = true := by simp [hx]
        have HE := hid hkp
        clear hs hx hkp
        go_wp2_with fail
        go_ret
        exact ⟨ret_int (by rw [placeI_lt (by rw [← HE.out]; exact hkm), HE.out]), rfl⟩
      · have hx : s.id ≠ x := HP1.out k s (by omega) hs
        have hb : ((s.id : Int) == (x : Int)) = false := by simp; omega
        clear hs hx
        go_wp2_with fail
        go_round
        case rel => exact ⟨k + 1, by omega, by go_num⟩
        case measure => simp [intOf]; omega
    · go_wp2_with fail
      go_ret
      exact ⟨ret_int (by rw [placeI_ge (by omega)]), rfl⟩

set_option maxRecDepth 100000 in
set_option maxHeartbeats 2000000 in
theorem rout_ok {w : World} {rb : Nat} {U : List Nat} {Q : List Slp} {n : Nat} (h : RQIs w rb U Q n) (hQ : Q.length ≤ 100000) (hnd : (Q.map (·.id)).Nodup) {p : Nat} {s : Slp} (hs : Q[p]? = some s) :
    Calls Tryd.prog 46 #[.pointer (some ⟨rb, 0, none⟩), .int .i64 p] w fun e w' => e = .returned (.agg #[.int .u64 s.id, .int .u64 s.addr, .int .u64 s.mask]) ∧ ∃ U', RQIs w' rb U' (rem Q s.id) n ∧ (∀ y, y ∈ U' → y ∈ U ∨ w.heap.size ≤ y) ∧ Kept U w w' := by
  obtain ⟨v, rfl, h⟩ := h
  obtain ⟨m, hm⟩ : ∃ m, Q.length = m := ⟨_, rfl⟩
  have hrow := h.row
  rw [hm] at hQ hrow
  obtain ⟨av, cv, rfl⟩ := own_form' hrow
  have hpm := (List.getElem?_eq_some_iff.1 hs).1
  rw [hm] at hpm
  obtain ⟨g, rfl, d0, d1, d2⟩ := h.cells hm hs
  have hgl : g < w.heap.size := own_lt hrow
  have c0 := h.head.cell (o := 0) rfl
  have hlt := h.head.lt
  have H := hid h
  have HM := hid hm
  have HR := hid hrow
  have HERA := hid (show rem Q s.id = Q.take p ++ Q.drop (p + 1) by unfold rem; rw [erase_filter Q p s hs hnd, List.eraseIdx_eq_take_drop_succ])
  have hpI : (p : Int) < (m : Int) := by omega
  obtain ⟨w2, hw2⟩ : ∃ w2, ((w.alloc (.cells #[.int .u64 0, .int .u64 0, .int .u64 0] 102)).alloc (.cells #[.int .u64 s.id, .int .u64 s.addr, .int .u64 s.mask] 102)) = w2 := ⟨_, rfl⟩
  have hK2 : Kept [] w w2 := by rw [← hw2]; exact ((Kept.refl _ _).alloc _).alloc _
  have hB2 : Blk w2 (w.heap.size + 1) [.int .u64 s.id, .int .u64 s.addr, .int .u64 s.mask] := by rw [← hw2]; exact Blk.newA _ _ (by simp)
  have hZ2 : Blk w2 w.heap.size [.int .u64 0, .int .u64 0, .int .u64 0] := by rw [← hw2]; exact (Blk.newA #[.int .u64 0, .int .u64 0, .int .u64 0] _ rfl).alloc _
  have hsz2 := hB2.lt
  have hlt2 : rb < w2.heap.size := by omega
  have c0' := hK2.cellSome c0 (by simp)
  have H2 := hid (show RQAt w2 rb (.slice (some ⟨g, 0, none⟩) m cv) Q n from ⟨h.head.keptN hK2, own_keptN h.row hK2, h.far⟩)
  have HR2 := hid (own_keptN hrow hK2)
  have HK2 := hid hK2
  have HB2 := hid hB2
  have HZ2 := hid hZ2
  clear h hm hrow hnd hs hK2 hB2 hZ2
  go_enter Tryd.func46, Tryd.ntmps46
  go_wp2_with (first
    | (with_reducible refine wp_sliceHead rfl (.tmp 18) (.tmp 19) 78 102 rfl Tryd.underlying78 size_waiter 0 (.slice (some ⟨g, 0, none⟩) m cv) m p (SV Q) (p : Int) rfl rfl rfl (HR2.out.alloc _) (Nat.le_of_lt hpm) ?_; intro x1 hx1; rw [← SV_take] at hx1)
    | (at_builtin; refine wp_appN rfl (.tmp 14) (.tmp 20) 78 102 rfl Tryd.underlying78 info_waiter rfl (by decide) w2.heap.size (.slice (some ⟨w2.heap.size, 0, none⟩) 0 0) 0 [] rfl (own_emptyS w2 _ _) x1 p (SV (Q.take p)) rfl hx1 (SV_one _) (by omega) (by decide) (by simp) ?_; intro v3 w3 hW3 hK3 _; have HK3 := hid (show Kept [] w2 w3 from ((Kept.refl [] w2).alloc (.cells #[] 102)).trans' hK3 (fun y hy => .inr (by simp [Value.ownBlock] at hy; omega))); have c0'' := HK3.out.cellSome c0' (by simp); have HW3 := hid (show w3.ownsRow w2.heap.size 102 3 v3 p (SV (Q.take p)) by simpa using hW3); have hsz3 := HK3.out.size; clear hW3 hK3 hx1)
    | (with_reducible refine wp_sliceTail rfl (.tmp 27) (.tmp 29) 78 102 rfl Tryd.underlying78 size_waiter 0 (.slice (some ⟨g, 0, none⟩) m cv) m (p + 1) (SV Q) ((p : Int) + 1) rfl rfl (by simp) (own_keptN HR2.out HK3.out) (Nat.succ_le_of_lt hpm) ?_; intro x2 hx2; rw [← SV_drop] at hx2)
    | (at_builtin; refine wp_appN rfl (.tmp 23) (.tmp 30) 78 102 rfl Tryd.underlying78 info_waiter rfl (by decide) w2.heap.size v3 p (SV (Q.take p)) rfl HW3.out x2 (m - (p + 1)) (SV (Q.drop (p + 1))) rfl hx2 (SV_one _) (by omega) (by decide) hsz3 ?_; intro v4 w4 hW4 hK4 _; obtain ⟨a4, q4, rfl⟩ := own_form' hW4; have HK4 := hid (show Kept [] w2 w4 from HK3.out.trans' hK4 (fun y hy => .inr (own_ge HW3.out y hy))); have HW4 := hid hW4; have c0''' := HK4.out.cellSome c0' (by simp); have z0 := (H2.out.head.keptN HK4.out).frozen 0; have b0 := (HB2.out.keptN HK4.out).cell (o := 0) rfl; have b1 := (HB2.out.keptN HK4.out).cell (o := 1) rfl; have b2 := (HB2.out.keptN HK4.out).cell (o := 2) rfl; have r0 := (HZ2.out.keptN HK4.out).cell (o := 0) rfl; have r1 := (HZ2.out.keptN HK4.out).cell (o := 1) rfl; have r2 := (HZ2.out.keptN HK4.out).cell (o := 2) rfl; have f0 := (HZ2.out.keptN HK4.out).frozen 0; have f1 := (HZ2.out.keptN HK4.out).frozen 1; have f2 := (HZ2.out.keptN HK4.out).frozen 2; clear c0'' hx2 hW4 hK4))
  have hrow4 : w4.ownsRow w2.heap.size 102 3 (.slice a4 (p + (m - (p + 1))) q4) (rem Q s.id).length (SV (rem Q s.id)) := by
    have := HW4.out
    rw [← SV_append, ← HERA.out] at this
    have e : (rem Q s.id).length = p + (m - (p + 1)) := by rw [HERA.out, List.length_append, List.length_take, List.length_drop, HM.out]; omega
    rw [e]
    exact this
  have hlay := H2.out.lay HK4.out hrow4
  have hk5 : Kept [w.heap.size] (w4.setCell ⟨rb, 0, none⟩ (.slice a4 (p + (m - (p + 1))) q4)) ((((w4.setCell ⟨rb, 0, none⟩ (.slice a4 (p + (m - (p + 1))) q4)).setCell ⟨w.heap.size, 0, none⟩ (.int .u64 s.id)).setCell ⟨w.heap.size, 1, none⟩ (.int .u64 s.addr)).setCell ⟨w.heap.size, 2, none⟩ (.int .u64 s.mask)) :=
    (((Kept.refl _ _).setCell (.inl (by simp)) _).setCell (.inl (by simp)) _).setCell (.inl (by simp)) _
  have hZ5 := ((((HZ2.out.keptN HK4.out).set_ne (b' := rb) 0 none (.slice a4 (p + (m - (p + 1))) q4) (by omega)).set 0 (.int .u64 s.id)).set 1 (.int .u64 s.addr)).set 2 (.int .u64 s.mask)
  have e0 := hZ5.cell (o := 0) rfl
  have e1 := hZ5.cell (o := 1) rfl
  have e2 := hZ5.cell (o := 2) rfl
  refine bodyPost_ret (v := .agg #[.int .u64 s.id, .int .u64 s.addr, .int .u64 s.mask]) (by simp [results, Tryd.results46, go_sem, e0, e1, e2]) rfl ⟨rfl, _, hlay.1.kept hk5 (fun y hy hm => ?_), fun y hy => ?_, (HK2.out.nil.trans hlay.2.2).trans' hk5 (fun y hy => .inr (by simp at hy; omega))⟩
  · rw [List.mem_singleton.1 hm] at hy
    rcases hlay.2.1 _ hy with h1 | h1
    · rcases List.mem_cons.1 h1 with h1 | h1
      · omega
      · simp [Value.ownBlock] at h1; omega
    · omega
  · rcases hlay.2.1 y hy with h1 | h1
    · exact .inl h1
    · exact .inr (by omega)

end Go.Proofs.YtenahekdhepnfaaDoor
