/- package clock: Disarm, Deadline; what Arm refuses. -/
import Derived.Test.YtcaikpfdhdbioaaDoorClockT
import Derived.Test.YtcaikpfdhdbioaaDoorSame
namespace Go.Proofs.YtcaikpfdhdbioaaDoor
open Go Go.RowKit

def sClock : ByteArray := ⟨#[99, 108, 111, 99, 107]⟩

set_option maxRecDepth 100000 in
set_option maxHeartbeats 1000000 in
theorem arm_zero {w : World} {cb : Nat} {T : List Nat} {S : List Th} {last now : Nat} (_ : ClockIs w cb T S last now) (d : Nat) :
    Calls Tryd.prog 6 #[.pointer (some ⟨cb, 0, none⟩), .int .u64 0, .int .u64 d] w fun e w' => ∃ v, e = .returned v ∧ ErrOut sClock 0 1 w v w' := by
  go_enter Tryd.func6, Tryd.ntmps6
  go_wp2_with fail
  go_ret
  exact ⟨_, rfl, _, rfl, Nat.le_refl _, Blk.newA _ _ rfl, (Kept.refl _ _).alloc _⟩

set_option maxRecDepth 100000 in
set_option maxHeartbeats 1000000 in
theorem arm_twice {w : World} {cb : Nat} {T : List Nat} {S : List Th} {last now : Nat} (h : ClockIs w cb T S last now) {t : Th} (ht : t ∈ S) (h0 : t.x ≠ 0) (d : Nat) :
    Calls Tryd.prog 6 #[.pointer (some ⟨cb, 0, none⟩), .int .u64 t.x, .int .u64 d] w fun e w' => ∃ v, e = .returned v ∧ ErrOut sClock 0 8 w v w' := by
  obtain ⟨hb, mb, bb, base, v, rfl, h⟩ := h
  have c2 := h.head.cell (o := 2) rfl
  have HM := hid h.by'
  have HBY := hid (show byOf S (t.x : Int) = some (.agg #[.int .i64 t.h, .int .u64 t.d]) from by_some h.ids ht)
  have hwf := hid (wf_u64 (h.lt t ht))
  obtain ⟨x, hx⟩ : ∃ x, t.x = x := ⟨_, rfl⟩
  rw [hx] at HBY hwf h0 ⊢
  have hid0 : ((x : Int) == 0) = false := by simp; exact h0
  clear h hx
  go_enter Tryd.func6, Tryd.ntmps6
  go_wp2_with (first | (at_lookup; go_must (refine wp_mapGetOk1 rfl _ _ 57 25 64 rfl Tryd.underlying57 Tryd.underlying25 (zero_armed _) rfl HM.out hwf.out rfl HBY.out ?_)))
  go_ret
  exact ⟨_, rfl, w.heap.size + 1, rfl, by omega, Blk.newA _ _ (by simp), ((Kept.refl _ _).alloc _).alloc _⟩

set_option maxRecDepth 100000 in
set_option maxHeartbeats 1000000 in
theorem dead_none {w : World} {cb : Nat} {T : List Nat} {S : List Th} {last now : Nat} (h : ClockIs w cb T S last now) (x : Nat) (hx : x < 18446744073709551616) (hno : ∀ t, t ∈ S → t.x ≠ x) :
    Calls Tryd.prog 15 #[.pointer (some ⟨cb, 0, none⟩), .int .u64 x] w fun e w' => e = .returned (.tuple #[.int .u64 0, .bool false]) ∧ Kept [] w w' := by
  obtain ⟨hb, mb, bb, base, v, rfl, h⟩ := h
  have c2 := h.head.cell (o := 2) rfl
  have HM := hid h.by'
  have HBY := hid (show byOf S (x : Int) = none from by_none fun t ht e => hno t ht (by omega))
  have hwf := hid (wf_u64 hx)
  clear h hno
  go_enter Tryd.func15, Tryd.ntmps15
  go_wp2_with (first | (at_lookup; go_must (refine wp_mapGetOk0 rfl _ _ 57 25 64 rfl Tryd.underlying57 Tryd.underlying25 (zero_armed _) rfl HM.out hwf.out rfl HBY.out ?_)))
  go_ret2
  exact ⟨rfl, (Kept.refl _ _).alloc _⟩
set_option maxRecDepth 100000 in
set_option maxHeartbeats 1000000 in
theorem dead_some {w : World} {cb : Nat} {T : List Nat} {S : List Th} {last now : Nat} (h : ClockIs w cb T S last now) {t : Th} (ht : t ∈ S) :
    Calls Tryd.prog 15 #[.pointer (some ⟨cb, 0, none⟩), .int .u64 t.x] w fun e w' => e = .returned (.tuple #[.int .u64 t.d, .bool true]) ∧ Kept [] w w' := by
  obtain ⟨hb, mb, bb, base, v, rfl, h⟩ := h
  have c2 := h.head.cell (o := 2) rfl
  have HM := hid h.by'
  have HBY := hid (show byOf S (t.x : Int) = some (.agg #[.int .i64 t.h, .int .u64 t.d]) from by_some h.ids ht)
  have hwf := hid (wf_u64 (h.lt t ht))
  clear h
  go_enter Tryd.func15, Tryd.ntmps15
  go_wp2_with (first | (at_lookup; go_must (refine wp_mapGetOk1 rfl _ _ 57 25 64 rfl Tryd.underlying57 Tryd.underlying25 (zero_armed _) rfl HM.out hwf.out rfl HBY.out ?_)))
  go_ret2
  exact ⟨rfl, (Kept.refl _ _).alloc _⟩

set_option maxRecDepth 100000 in
set_option maxHeartbeats 1000000 in
theorem off_none {w : World} {cb : Nat} {T : List Nat} {S : List Th} {last now : Nat} (h : ClockIs w cb T S last now) (x : Nat) (hx : x < 18446744073709551616) (hno : ∀ t, t ∈ S → t.x ≠ x) :
    Calls Tryd.prog 9 #[.pointer (some ⟨cb, 0, none⟩), .int .u64 x] w fun e w' => e = .returned (.bool false) ∧ Kept [] w w' := by
  obtain ⟨hb, mb, bb, base, v, rfl, h⟩ := h
  have c2 := h.head.cell (o := 2) rfl
  have HM := hid h.by'
  have HBY := hid (show byOf S (x : Int) = none from by_none fun t ht e => hno t ht (by omega))
  have hwf := hid (wf_u64 hx)
  clear h hno
  go_enter Tryd.func9, Tryd.ntmps9
  go_wp2_with (first | (at_lookup; go_must (refine wp_mapGetOk0 rfl _ _ 57 25 64 rfl Tryd.underlying57 Tryd.underlying25 (zero_armed _) rfl HM.out hwf.out rfl HBY.out ?_)))
  go_ret
  exact ⟨rfl, (Kept.refl _ _).alloc _⟩

theorem out_ids {S : List Th} {h : Nat} (hn : (S.map (·.x)).Nodup) : ((outT h S).map (·.x)).Nodup := List.Nodup.sublist (List.filter_sublist.map _) hn

set_option maxRecDepth 100000 in
set_option maxHeartbeats 2000000 in
theorem off_some {w : World} {cb : Nat} {T : List Nat} {S : List Th} {last now : Nat} (h : ClockIs w cb T S last now) (hS : S.length ≤ 100000) (hla : last ≤ 1000001) {t : Th} (ht : t ∈ S) :
    Calls Tryd.prog 9 #[.pointer (some ⟨cb, 0, none⟩), .int .u64 t.x] w fun e w' => e = .returned (.bool true) ∧ ∃ T', ClockIs w' cb T' (outT t.h S) last now ∧ (∀ x, x ∈ T' → x ∈ T) ∧ Kept T w w' := by
  obtain ⟨hb, mb, bb, base, v, rfl, h⟩ := h
  have c1 := h.head.cell (o := 1) rfl
  have c2 := h.head.cell (o := 2) rfl
  have HM := hid h.by'
  have HBY := hid (show byOf S (t.x : Int) = some (.agg #[.int .i64 t.h, .int .u64 t.d]) from by_some h.ids ht)
  have hwf := hid (wf_u64 (h.lt t ht))
  have HT := hid ht
  have H := hid h
  have hcl := h.head.lt
  clear h ht
  go_enter Tryd.func9, Tryd.ntmps9
  go_wp2_with (first | (at_lookup; go_must (refine wp_mapGetOk1 rfl _ _ 57 25 64 rfl Tryd.underlying57 Tryd.underlying25 (zero_armed _) rfl HM.out hwf.out rfl HBY.out ?_)))
  obtain ⟨w1, hw1⟩ : ∃ w1, (w.alloc (.cells #[.int .i64 t.h, .int .u64 t.d] 64)) = w1 := ⟨_, rfl⟩
  have hK1 : Kept [] w w1 := by rw [← hw1]; exact (Kept.refl _ _).alloc _
  have hA1 : Blk w1 w.heap.size [.int .i64 t.h, .int .u64 t.d] := by rw [← hw1]; exact Blk.newA _ _ rfl
  rw [hw1]
  have c1 := hK1.cellSome c1 (by simp)
  have c2 := hK1.cellSome c2 (by simp)
  have a0 := hA1.cell (o := 0) rfl
  have HDROP := hid (drop_ok (H.out.heap.keptN (hK1.trans (Kept.refl [] w1).drew)) hS hla HT.out)
  have HK1 := hid (hK1.trans (Kept.refl [] w1).drew)
  clear hw1 hK1 hA1
  go_still_tail 6, (by kernel_rfl)
  change wpList _ _ _ _ _ w1.drew
  obtain ⟨wq, hwq⟩ : ∃ wq, w1.drew = wq := ⟨_, rfl⟩
  rw [hwq] at HDROP HK1 ⊢
  clear hwq c1 c2 a0
  go_wp2_with fail
  refine HDROP.out.mono ?_
  rintro e w2 ⟨rfl, v2, hH2, hv2, hK2⟩
  have hB2 := (H.out.head.keptN HK1.out).kept hK2 H.out.cfar
  have c2 := hB2.cell (o := 2) rfl
  have HM2 := hid ((HM.out.keptN HK1.out).kept hK2 H.out.bfar)
  have HB2 := hid hB2
  have HH2 := hid hH2
  have HV2 := hid hv2
  have HK2 := hid hK2
  clear hH2 hv2 hK2 hB2 HDROP
  go_wp2_with (first | (at_delete; go_must (refine wp_mapDel1 rfl _ _ 57 25 64 25 rfl Tryd.underlying57 Tryd.underlying25 rfl HM2.out hwf.out rfl HBY.out ?_)))
  intro w3 hM3 hK3
  have HM3 := hid hM3
  have HK3 := hid hK3
  clear hM3 hK3
  go_wp2_with fail
  go_ret
  have hcb := H.out.cb
  have hbb := H.out.bb
  have hlen := out_length H.out.heap.nodup HT.out
  refine ⟨rfl, cown cb hb mb bb v2, ⟨hb, mb, bb, base, v2, rfl, HB2.out.kept HK3.out (by simpa using hcb.2.2.2), HH2.out.kept HK3.out (by simpa using fun e : hb = bb => hbb.2.1 e.symm) (by simpa using fun e : mb = bb => hbb.2.2 e.symm) (fun b hb1 hb2 => ?_), ?_, out_ids H.out.ids, hcb, hbb, fun s hs => H.out.lt s (outT_mem hs)⟩, cown_sub HV2.out, (HK1.out.nil.trans (HK2.out.mono cown_hown)).trans (HK3.out.mono (by simp [cown]))⟩
  · rw [List.mem_singleton.1 hb2] at hb1
    exact H.out.bfar (by unfold hown; exact List.mem_cons_of_mem _ (List.mem_cons_of_mem _ (HV2.out _ hb1)))
  · rw [show (outT t.h S).length = S.length - 1 by omega]
    exact HM3.out.congr (fun a => (by_out H.out.ids H.out.heap.nodup HT.out a).symm)

end Go.Proofs.YtcaikpfdhdbioaaDoor
