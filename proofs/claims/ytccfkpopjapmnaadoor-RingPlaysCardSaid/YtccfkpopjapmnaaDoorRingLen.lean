/- package ring: Len, which ranges over All. -/
import Derived.Test.YtccfkpopjapmnaaDoorFenceLib
import Derived.Test.YtccfkpopjapmnaaDoorRingAll
import Derived.Sort.QuietIn
namespace Go.Proofs.YtccfkpopjapmnaaDoor
open Go Go.RowKit Go.Shelf

attribute [local go_sem] Oper.semAt_some

def encP (x : Int × Int) : Array Value := #[.int .i64 x.1, .int .u64 x.2]
/-- What is told: places and values. -/
def toldR (L : List Int) (k : Nat) : List (Int × Int) := (List.range k).map fun (i : Nat) => ((i : Int), L.getD i 0)
theorem toldR_succ {L : List Int} {k : Nat} {x : Int} (h : L[k]? = some x) : toldR L (k + 1) = toldR L k ++ [((k : Int), x)] := by
  simp [toldR, List.range_succ, List.getD, h]
theorem toldR_length (L : List Int) (k : Nat) : (toldR L k).length = k := by simp [toldR]

theorem at_in (nf : Nat) {w : World} {b bl M fr : Nat} {L : List Int} (h : RingAt w b bl M fr L) (i : Nat) (hi : i < M) :
    CallsIn Fence.wide nf Tryd.prog 25 #[.pointer (some ⟨b, 0, none⟩), .int .i64 i] w fun e w' => e = .returned (.pointer (some ⟨bl, (fr + i) % M, none⟩)) ∧ ∃ m, w' = w.drewN m := by
  have c0 := h.c0
  have c1 := h.c1
  have hM := h.small
  have hf := h.frm
  have hs : IntKind.i64.wrap ((fr : Int) + (i : Int)) = (fr : Int) + i := IntWalk.i64_in _ ⟨by omega, by omega⟩
  obtain ⟨q, hq⟩ : ∃ q, (fr + i) % M = q := ⟨_, rfl⟩
  have hql : q < M := by rw [← hq]; exact Nat.mod_lt _ (by omega)
  have hr : ((fr : Int) + (i : Int)).tmod (M : Int) = (q : Int) := by
    rw [Int.tmod_eq_emod_of_nonneg (by omega), ← hq, Int.natCast_emod, Int.natCast_add]
  rw [hq]
  have hq0 : (0 : Int) ≤ q := by omega
  have hq1 : (q : Int) < (M : Int) := by omega
  have hM0 : (M : Int) ≠ 0 := by omega
  have HQ := hid hq
  clear h hq
  refine callsIn_of_wp Tryd.func25 rfl trivial ?_ rfl
  simp only [Tryd.ntmps25, List.size_toArray, List.length_cons, List.length_nil, Nat.reduceAdd, Nat.reduceSub, Array.replicate_succ, Array.replicate_zero, List.push_toArray, List.append_toArray, List.nil_append, List.cons_append]
  gi_wp2_with fail
  gi_quiet (fail)
  gi_wp2_with fail
  go_ret
  exact ⟨rfl, _, rfl⟩

set_option maxRecDepth 100000 in
set_option maxHeartbeats 2000000 in
theorem tells_in (nf : Nat) (hn1 : 1 ≤ nf) (l px b bl M fr bx : Nat) (L : List Int) (J Jx : List (Int × Int) → World → Prop)
    (W : World) (hJ : AbidesFrom W.heap.size J)
    (hY : ∀ pre x W1, J pre W1 → pre.length < L.length → YieldAt Fence.wide (nf - 1) Tryd.prog l (encP x) W1 fun e W' =>
      (e = .returned (.bool true) ∧ J (pre ++ [x]) W' ∧ KeepsC bx W1 W') ∨ (e = .returned (.bool false) ∧ Jx (pre ++ [x]) W'))
    (hR : RingAt W b bl M fr L) (hx : W.cell? ⟨px, 0, none⟩ = some (.pointer (some ⟨b, 0, none⟩))) (hbx : bx < W.heap.size) (h0 : J [] W) :
    CallsIn Fence.wide nf Tryd.prog 32 (#[.func (.yield l) #[] #[]] ++ #[.pointer (some ⟨px, 0, none⟩)]) W fun e W' => (∃ v, e = .returned v) ∧ ((∃ xs, xs = toldR L L.length ∧ J xs W') ∨ (∃ pre, True ∧ Jx pre W')) := by
  have c2 := hR.c2
  have hM := hR.small
  have hlen := hR.len
  have hpx : px < W.heap.size := World.block_lt_of_cell? _ _ hx
  obtain ⟨n, hn⟩ : ∃ n, L.length = n := ⟨_, rfl⟩
  rw [hn] at c2 hlen hY ⊢
  have HN := hid hn
  have HR := hid hR
  have HX := hid hx
  have HY := hid hY
  have HJ := hid hJ
  have H0 := hid h0
  clear hR hY hJ h0 hn
  refine callsIn_of_wp Tryd.func32 rfl trivial ?_ rfl
  simp only [Tryd.ntmps32, List.size_toArray, List.length_cons, List.length_nil, Nat.reduceAdd, Nat.reduceSub, Array.replicate_succ, Array.replicate_zero, List.push_toArray, List.append_toArray, List.nil_append, List.cons_append]
  gi_wp2_with fail
  clear hx c2
  gi_loopw [3, 11] (fun v i wr => ∃ k : Nat, k ≤ n ∧ i = .int .i64 k ∧ wr.ownsRow W.heap.size 34 1 v k (GV (L.take k)) ∧ Kept [] W wr ∧ W.grownBy wr none) (fun _ i _ => n - (intOf i).toNat)
  case atStart => exact ⟨0, Nat.zero_le _, rfl, ⟨rfl, .inl ⟨rfl, rfl⟩⟩, Kept.refl _ _, ⟨rfl, rfl, rfl, Nat.le_refl _, fun _ _ _ => rfl⟩⟩
  case round =>
    obtain ⟨k, hk, rfl, hv, hK, hG⟩ := hrel
    have HV := hid hv
    have HK := hid hK
    have HG := hid hG
    have cx := hK.cellSome HX.out (by simp)
    clear hv hK hG
    by_cases hlt : k < n
    · obtain ⟨x, hx⟩ : ∃ x, L[k]? = some x := ⟨_, List.getElem?_eq_getElem (by rw [HN.out]; exact hlt)⟩
      have HXK := hid hx
      clear hx
      gi_wp2_with fail
      refine ⟨trivial, (at_in _ (HR.out.keptN HK.out) k (by omega)).mono ?_⟩
      rintro e w2 ⟨rfl, m, rfl⟩
      have HK2 := hid ((Kept.refl [] wr).drewN m)
      have d0 := ((HR.out.keptN HK.out).keptN HK2.out).cell HXK.out
      clear cx
      gi_wp2_with (gi_at_builtin; go_must (refine wp_app1_in rfl _ _ 49 34 rfl Tryd.underlying49 info_u64 rfl (Nat.lt_succ_self 0) W.heap.size u3 k (GV (L.take k)) rfl ?c1 wr.heap.size 1 [.int .u64 x] rfl rfl (Blk.newA _ _ rfl) ?c2 ?c3 (Nat.le_of_ble_eq_true rfl) ?c4 ?_))
      case c1 => exact own_keptN (own_keptN HV.out HK2.out) ((Kept.refl _ _).alloc _)
      case c2 => simp [Value.oneCell']
      case c3 => omega
      case c4 => have := HK.out.size; simp; omega
      intro gg cap' w3 hW hgg hgr
      have hge := own_ge HV.out
      have HW3 := hid hW
      have HK3 := hid (((Kept.refl [] (wr.drewN m)).alloc _).nil.trans (Kept.of_grown hgr))
      have HG3 := hid (grown_trans_none (grown_trans_none (grown_trans_none HG.out (grown_drewN m) (fun r e => by cases e)) (World.grownBy_alloc (wr.drewN m) (.cells #[.int .u64 x] 34) none) (fun r e => by cases e)) hgr (fun r e => hge r (by rw [e]; simp)))
      clear hW hgr d0
      gi_wp2_with fail
      go_roundw
      case rel => exact ⟨k + 1, by omega, by go_num, by rw [take_snoc HXK.out, GV_snoc]; exact HW3.out, (HK.out.trans HK2.out).trans' HK3.out (fun y hy => .inr (hge y hy)), HG3.out⟩
      case measure => simp [intOf]; omega
    · obtain rfl : k = n := by omega
      have hV := HV.out
      rw [List.take_of_length_le (by rw [HN.out]; exact Nat.le_refl _)] at hV
      have HV := hid hV
      obtain ⟨aV, cV, rfl⟩ := own_form' HV.out
      have HJ1 := hid (HJ.out [] W wr none H0.out HG.out (fun r e => by cases e))
      have hsz := HK.out.size
      clear hV
      gi_wp2_with fail
      gi_loopw [25] (fun i w5 => ∃ j : Nat, j ≤ k ∧ i = .int .i64 j ∧ J (toldR L j) w5 ∧ w5.ownsRow W.heap.size 34 1 (.slice aV k cV) k (GV L)) (fun i _ => k - (intOf i).toNat)
      case atStart => exact ⟨0, Nat.zero_le _, rfl, HJ1.out, HV.out⟩
      case round =>
        obtain ⟨j, hj, rfl, hJj, hO2⟩ := hrel
        have HJj := hid hJj
        have HO2 := hid hO2
        clear hJj hO2
        by_cases hlt2 : j < k
        · obtain ⟨x, hx⟩ : ∃ x, L[j]? = some x := ⟨_, List.getElem?_eq_getElem (by rw [HN.out]; exact hlt2)⟩
          obtain ⟨gV, eV, d0⟩ : ∃ gV, aV = some ⟨gV, 0, none⟩ ∧ wr.cell? ⟨gV, j, none⟩ = some (.int .u64 x) := by
            obtain ⟨k', rfl⟩ : ∃ k', k = k' + 1 := ⟨k - 1, by omega⟩
            obtain ⟨gV, c, e1, -⟩ := own_form HO2.out
            cases e1
            exact ⟨gV, rfl, own_cell HO2.out (GV_get hx)⟩
          subst eV
          have HXJ := hid hx
          have hgV := own_ge HO2.out gV (by simp [Value.ownBlock])
          clear hx
          obtain ⟨fn, tmps, assign, body, hy, hRx⟩ := HY.out (toldR L j) ((j : Int), x) _ HJj.out (by rw [toldR_length]; exact hlt2)
          dsimp only [encP] at hy
          gi_wp2_with fail
          refine hRx.mono ?_
          rintro e W3 (⟨rfl, hJ3, hk3⟩ | ⟨rfl, hJx3⟩)
          · rw [← toldR_succ HXJ.out] at hJ3
            have HJ3 := hid hJ3
            have HK3 := hid hk3
            clear hJ3 hk3 hRx hy d0
            gi_wp2_with fail
            go_roundw
            case rel => exact ⟨j + 1, by omega, by go_num, HJ3.out, own_keepsC HO2.out HK3.out (fun b hb => by simp [Value.ownBlock] at hb; omega)⟩
            case measure => simp [intOf]; omega
          · have HJ3 := hid hJx3
            clear hJx3 hRx hy d0
            gi_wp2_with fail
            refine bodyPost_ret (results_none rfl _ _ _) rfl ?_
            exact ⟨⟨_, rfl⟩, .inr ⟨_, trivial, HJ3.out⟩⟩
        · gi_wp2_with fail
          go_end0
          obtain rfl : j = k := by omega
          exact ⟨⟨_, rfl⟩, .inl ⟨_, rfl, HJj.out⟩⟩

theorem tells_stops (nf : Nat) (hn1 : 1 ≤ nf) (px b bl M fr bx : Nat) (L : List Int) (w : World)
    (hR : RingAt w b bl M fr L) (hx : w.cell? ⟨px, 0, none⟩ = some (.pointer (some ⟨b, 0, none⟩))) (hbx : bx < w.heap.size) :
    SeqStopsK Fence.wide nf Tryd.prog 32 #[.pointer (some ⟨px, 0, none⟩)] encP (KeepsC bx) (fun ys => ys = toldR L L.length) (fun _ => True) L.length w := fun l J Jx W hW hJ _ hY h0 =>
  tells_in nf hn1 l px b bl M fr bx L J Jx W hJ hY (hR.keptN (Kept.of_below hW)) ((Kept.of_below hW).cellSome hx (by simp)) (Nat.lt_of_lt_of_le hbx hW.size) h0

theorem All_in (nf : Nat) (b : Nat) (w : World) :
    CallsIn Fence.wide nf Tryd.prog 24 #[.pointer (some ⟨b, 0, none⟩)] w fun e w' => e = .returned (.func (.func 32) #[] #[.pointer (some ⟨w.heap.size, 0, none⟩)]) ∧ w.alloc (.cells #[.pointer (some ⟨b, 0, none⟩)] 22) = w' := by
  refine callsIn_of_wp Tryd.func24 rfl trivial ?_ rfl
  simp only [Tryd.ntmps24, List.size_toArray, List.length_cons, List.length_nil, Nat.reduceAdd, Nat.reduceSub, Array.replicate_succ, Array.replicate_zero, List.push_toArray, List.append_toArray, List.nil_append, List.cons_append]
  gi_wp2
  go_ret
  exact ⟨rfl, rfl⟩

set_option maxRecDepth 100000 in
set_option maxHeartbeats 2000000 in
theorem len_in (nf : Nat) (hn3 : 3 ≤ nf) {w : World} {b bl M fr : Nat} {L : List Int} (hR : RingAt w b bl M fr L) :
    CallsIn Fence.wide nf Tryd.prog 11 #[.pointer (some ⟨b, 0, none⟩)] w fun e w' => e = .returned (.int .i64 L.length) ∧ Below w.heap.size w w' := by
  have h1 : 1 ≤ nf := by omega
  have hM := hR.small
  have hlen := hR.len
  have HR := hid hR
  clear hR
  refine callsIn_of_wp_marks Tryd.func11 rfl trivial ?_ rfl
  simp only [Tryd.ntmps11, List.size_toArray, List.length_cons, List.length_nil, Nat.reduceAdd, Nat.reduceSub, Array.replicate_succ, Array.replicate_zero, List.push_toArray, List.append_toArray, List.nil_append, List.cons_append]
  gi_wp2_with fail
  refine ⟨trivial, (All_in (nf - 1) _ _).mono ?_⟩
  rintro e w' ⟨rfl, rfl⟩
  gi_wp2_with fail
  have bS := Boxed.new w 3 (.int .i64 0)
  have bN := Boxed.new (w.alloc (.cells #[.int .i64 0] 3)) 22 (.pointer (some ⟨b, 0, none⟩))
  rw [World.size_alloc] at bN
  have hB0 : Below w.heap.size w ((w.alloc (.cells #[.int .i64 0] 3)).alloc (.cells #[.pointer (some ⟨b, 0, none⟩)] 22)) := ((Below.refl _ w).alloc (Nat.le_refl _) _).alloc (by simp) _
  refine wpIn_rangeFunc_ownG rfl h1 (gf := 32) (lb := #[.pointer (some ⟨w.heap.size + 1, 0, none⟩)]) rfl trivial (enters_of Tryd.func32 (by kernel_rfl) rfl)
    (tells_stops (nf - 1) (by omega) (w.heap.size + 1) b bl M fr w.heap.size L _ (HR.out.keptN (((Kept.refl _ _).alloc _).alloc _)) bN.cell (by simp; omega)) keepsC_t keepsC_b (Below.refl _ _) (fun _ => rfl)
    (fun pre W => (W.cell? ⟨w.heap.size, 0, none⟩ = some (.int .i64 (pre.length : Nat)) ∧ W.frozen? ⟨w.heap.size, 0, none⟩ = false) ∧ Below w.heap.size w W)
    (fun _ _ _ => False)
    (OwnFrom.and (Own.from (fun s A B row hs hg hr => ⟨cell_kept hs.1 hg hr, (frozen_kept hs.1 hg hr).trans hs.2⟩) _) (ownFrom_below (Nat.le_refl _) (by simp; omega)))
    (fun _ _ _ _ _ hs _ _ => hs)
    ⟨⟨(bS.alloc _).cell, (bS.alloc _).frozen⟩, hB0⟩
    (fun x => { tmps := #[.pointer (some ⟨b, 0, none⟩), undef, .int .i64 0, .pointer (some ⟨w.heap.size, 0, none⟩), .pointer (some ⟨b, 0, none⟩), .func (.func 32) #[] #[.pointer (some ⟨w.heap.size + 1, 0, none⟩)], .int .i64 x.1, .int .u64 x.2, undef, undef, undef], defers := [] }) ?assign ?body ?done ?stop
  case assign =>
    intro l x W K hK
    dsimp only [encP]
    gi_wp2
    simpa using hK
  case body =>
    rintro l pre x W ⟨⟨hc, hf⟩, hB⟩ hlen
    have hB' := hid hB
    clear hB
    gi_wp2
    refine ⟨(KeepsOthers.setCell _ _ _).from _, keepsC_set _ _, ⟨?_, by rw [World.frozen?_setCell]; exact hf⟩, hB'.out.setCell (p := ⟨w.heap.size, 0, none⟩) (Nat.le_refl _) _⟩
    rw [World.cell?_setCell_same' _ _ _ (by rw [hc]; rfl)]
    simp
  case done =>
    rintro D ys W hD rfl ⟨⟨hc, _⟩, hB⟩ hK
    rw [toldR_length] at hc
    gi_wp2
    refine ⟨by simp, .inl ⟨_, _, rfl, run_takeDeferred hK, ?_⟩⟩
    exact ⟨_, results_tmp rfl _ _ _, rfl, hB.trans (belowK_b (w := w) (Nat.le_refl _) W D _ _ (by simp at hD; omega) hK rfl rfl)⟩
  case stop =>
    rintro D c pre W _ _ h _
    exact h.elim

theorem len_ok {w : World} {b bl M fr : Nat} {L : List Int} (hR : RingAt w b bl M fr L) :
    Calls Tryd.prog 11 #[.pointer (some ⟨b, 0, none⟩)] w fun e w' => e = .returned (.int .i64 L.length) ∧ Kept [] w w' :=
  (callsIn_wide.1 (len_in 3 (by omega) hR)).mono fun _ _ ⟨h1, h2⟩ => ⟨h1, Kept.of_below h2⟩

end Go.Proofs.YtccfkpopjapmnaaDoor
