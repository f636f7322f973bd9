/- package heap: Drop. -/
import Derived.Test.YtcaikpfdhdbioaaDoorHeapP
import Derived.Test.YtcaikpfdhdbioaaDoorStill
namespace Go.Proofs.YtcaikpfdhdbioaaDoor
open Go Go.RowKit

theorem own_cap {w : World} {base : Nat} {e : TypeId} {size : Nat} {g n n' cap : Nat} {xs : List Value} (h : w.ownsRow base e size (.slice (some ⟨g, 0, none⟩) n' cap) n xs) : n ≤ cap ∧ cap ≤ 9223372036854775807 := by
  rcases h.2 with ⟨h0, _⟩ | ⟨g', cap', cur, hv, hg, hh, hn, hc, r⟩
  · cases h0
  · cases hv
    unfold maxLen at hc
    exact ⟨hn, by omega⟩
/-- The map, a key gone. -/
def del (f : Int → Option Value) (k : Nat) : Int → Option Value := fun y => if y = (k : Int) then none else f y
theorem map_out {f : Int → Option Value} {L : List Th} {i n : Nat} (hn : L.length = n + 1) (hi : i < n) (hM : MapAll f L) (hI : Inj L) : MapHole (del f (tat L i).h) ((L.take n).set i (tat L n)) i := by
  have hl : ((L.take n).set i (tat L n)).length = n := by simp; omega
  have hl2 : i < (L.take n).length := by simp; omega
  have ht : ∀ j, j < n → tat ((L.take n).set i (tat L n)) j = if j = i then tat L n else tat L j := fun j hj => by
    rw [tat_set _ _ _ _ hl2]
    by_cases e : j = i
    · rw [if_pos e, if_pos e]
    · rw [if_neg e, if_neg e, tat_take hj]
  refine ⟨fun j hj e => ?_, fun y hy => ?_⟩
  · rw [hl] at hj
    rw [ht j hj, if_neg e]
    unfold del
    rw [if_neg (fun e2 => e (hI j i (by omega) (by omega) (by omega)))]
    exact hM.1 j (by omega)
  · unfold del
    by_cases e : y = ((tat L i).h : Int)
    · rw [if_pos e]
    · rw [if_neg e]
      refine hM.2 y fun j hj => ?_
      by_cases e1 : j = n
      · have := hy i (by omega)
        rw [ht i hi, if_pos rfl] at this
        rw [e1]; exact this
      · by_cases e2 : j = i
        · rw [e2]; exact e
        · have := hy j (by omega)
          rw [ht j (by omega), if_neg e2] at this
          exact this
theorem map_take {f : Int → Option Value} {L : List Th} {n : Nat} (hn : L.length = n + 1) (hM : MapAll f L) (hI : Inj L) : MapAll (del f (tat L n).h) (L.take n) := by
  have hl : (L.take n).length = n := by simp; omega
  refine ⟨fun j hj => ?_, fun y hy => ?_⟩
  · rw [hl] at hj
    rw [tat_take hj]
    unfold del
    rw [if_neg (fun e => by have := hI j n (by omega) (by omega) (by omega); omega)]
    exact hM.1 j (by omega)
  · unfold del
    by_cases e : y = ((tat L n).h : Int)
    · rw [if_pos e]
    · rw [if_neg e]
      refine hM.2 y fun j hj => ?_
      by_cases e1 : j = n
      · rw [e1]; exact e
      · have := hy j (by omega)
        rw [tat_take (by omega)] at this
        exact this

theorem HRaw.cut {w : World} {hb mb g n cap : Nat} {L : List Th} {last : Nat} {f : Int → Option Value} (h : HRaw w hb mb (.slice (some ⟨g, 0, none⟩) (n + 1) cap) L last f) (hn : L.length = n + 1) :
    HRaw (w.setCell ⟨hb, 0, none⟩ (.slice (some ⟨g, 0, none⟩) n cap)) hb mb (.slice (some ⟨g, 0, none⟩) n cap) (L.take n) last f := by
  have hr := h.rows
  rw [hn] at hr
  have hr2 := own_take hr (m := n) (by omega)
  have hv := h.hv
  have hl : (L.take n).length = n := by simp; omega
  obtain ⟨m, hm⟩ := h.map
  refine ⟨h.head.set 0 _, ?_, ⟨m, hm.set_ne _ _ _ h.hm⟩, by simpa [Value.ownBlock] using hv, by simpa [Value.ownBlock] using h.mv, h.hm⟩
  rw [hl, TV_take]
  exact own_set_ne hr2 _ (by simpa [Value.ownBlock] using hv)
theorem zero_int (w : World) : (zeroValue 3).run Tryd.prog w = .ok (.int .i64 0) w := by kernel_rfl

theorem outT_mem {h : Nat} {S : List Th} {s : Th} (hs : s ∈ outT h S) : s ∈ S := (List.mem_filter.1 hs).1
theorem HeapAt.out {w w' : World} {hb mb base : Nat} {v v' : Value} {S : List Th} {last : Nat} (h : HeapAt w hb mb base v S last) {t : Th} {L V : List Th} {f : Int → Option Value} (h1 : L.Perm (t :: V)) (h2 : L.Perm S) {L' : List Th} (hL : L'.Perm V)
    (hr : HRaw w' hb mb v' L' last f) (hH : HeapL L') (hM : MapAll f L') (hs : w.heap.size ≤ w'.heap.size) (hv : ∀ b, b ∈ v'.ownBlock.toList → b ∈ v.ownBlock.toList) : HeapAt w' hb mb base v' (outT t.h S) last :=
  ⟨⟨L', f, hr, hH, hM, hL.trans (outT_perm h1 h2 h.nodup)⟩, List.Pairwise.filter _ h.sorted, List.Nodup.sublist (List.filter_sublist.map _) h.nodup, fun s hs => h.less s (outT_mem hs), ⟨h.low.1, h.low.2.1, Nat.le_trans h.low.2.2 hs⟩, fun b hb => h.row b (hv b hb)⟩

set_option maxRecDepth 100000 in
set_option maxHeartbeats 4000000 in
theorem drop_ok {w : World} {hb mb base : Nat} {v : Value} {S : List Th} {last : Nat} (h : HeapAt w hb mb base v S last) (hS : S.length ≤ 100000) (hla : last ≤ 1000001) {t : Th} (ht : t ∈ S) :
    Calls Tryd.prog 25 #[.pointer (some ⟨hb, 0, none⟩), .int .i64 t.h] w fun e w' => e = .returned (.tuple #[.int .u64 t.x, .bool true]) ∧ ∃ v', HeapAt w' hb mb base v' (outT t.h S) last ∧ (∀ b, b ∈ v'.ownBlock.toList → b ∈ v.ownBlock.toList) ∧ Kept (hown hb mb v) w w' := by
  obtain ⟨L, f, hr, hH, hM, hp⟩ := h.ex
  obtain ⟨j, hj, hjt⟩ := tat_of (hp.mem_iff.2 ht)
  obtain ⟨n, hn⟩ : ∃ n, L.length = n + 1 := ⟨L.length - 1, by omega⟩
  have hnS : n + 1 ≤ 100000 := by rw [← hn, hp.length_eq]; exact hS
  obtain ⟨g, cap, rfl⟩ := hr.form (by omega)
  rw [hn] at hr h
  have hrow := hr.rows
  rw [hn] at hrow
  obtain ⟨hc1, hc2⟩ := own_cap hrow
  have hless : ∀ s, s ∈ L → s.h ≤ 9223372036854775807 := fun s hs => by have := h.less s (hp.mem_iff.1 hs); omega
  have hnd : (L.map (·.h)).Nodup := (hp.map _).nodup_iff.2 h.nodup
  have hI := inj_of hnd
  obtain ⟨d0, d1, d2⟩ := hr.cells hn (j := j) (by omega)
  obtain ⟨e0, e1, e2⟩ := hr.cells hn (j := n) (by omega)
  rw [hjt] at d0 d1 d2
  obtain ⟨u, hu⟩ : ∃ u, tat L n = u := ⟨_, rfl⟩
  rw [hu] at e0 e1 e2
  have c0 := hr.head.cell (o := 0) rfl
  have c1 := hr.head.cell (o := 1) rfl
  have z0 := hr.head.frozen 0
  have hby : f ((t.h : Nat) : Int) = some (.int .i64 (j : Int)) := by rw [← hjt]; exact hM.1 j hj
  have hwf := hid (wf_i64 (i := t.h) (by have := h.less t ht; omega))
  have huh := hid (show u.h ≤ 9223372036854775807 by rw [← hu]; exact hless _ (tat_mem (by omega)))
  obtain ⟨mn, hmn⟩ := hr.map
  have hbl := hr.head.lt
  have hgl := own_lt hrow
  have hml := hmn.lt
  have hj0 : (0 : Int) ≤ (j : Int) := by omega
  have hj1 : (j : Int) < (n : Int) + 1 := by omega
  have hn1 : (n : Int) + 1 - 1 = (n : Int) := by omega
  have hcI : (n : Int) ≤ (cap : Int) := by omega
  have HMN := hid hmn
  have HBY := hid hby
  have H := hid h
  have HR := hid hr
  have HN := hid hn
  have HH := hid hH
  have HM := hid hM
  have HP := hid hp
  have HI := hid hI
  have HND := hid hnd
  have HLESS := hid hless
  have HU := hid hu
  have HJT := hid hjt
  have hvh := hid hr.hv
  clear h hr hmn hby hn hH hM hp hI hnd hless hu hjt hj ht hrow hS
  obtain ⟨w1, hw1⟩ : ∃ w1, ((((w.setCell ⟨hb, 0, none⟩ (.slice (some ⟨g, 0, none⟩) n cap)).alloc (.cells #[.int .u64 t.d, .int .u64 t.x, .int .i64 t.h] 84)).alloc (.cells #[.int .u64 u.d, .int .u64 u.x, .int .i64 u.h] 84))) = w1 := ⟨_, rfl⟩
  have hR1 : HRaw w1 hb mb (.slice (some ⟨g, 0, none⟩) n cap) (L.take n) last f := by
    rw [← hw1]
    exact (HR.out.cut HN.out).keptN (((Kept.refl _ _).alloc _).alloc _)
  have hK1 : Kept (hown hb mb (.slice (some ⟨g, 0, none⟩) (n + 1) cap)) w w1 := by
    rw [← hw1]
    exact (((Kept.refl _ _).setCell (.inl (by simp [hown])) _).alloc _).alloc _
  have hT1 : Blk w1 w.heap.size (thV t) := by
    rw [← hw1]
    exact (Blk.newA #[.int .u64 t.d, .int .u64 t.x, .int .i64 t.h] 84 (by simp)).alloc _
  have hU1 : Blk w1 (w.heap.size + 1) (thV u) := by
    rw [← hw1]
    exact Blk.newA #[.int .u64 u.d, .int .u64 u.x, .int .i64 u.h] 84 (by simp)
  obtain ⟨m1, hm1⟩ := hR1.map
  have HW1 := hid hw1
  have HR1 := hid hR1
  have HK1 := hid hK1
  have HT1 := hid hT1
  have HU1 := hid hU1
  have HM1 := hid (show MapIs _ .i64 mb m1 f from by rw [← hw1] at hm1; exact hm1)
  clear hw1 hR1 hK1 hT1 hU1 hm1
  go_enter Tryd.func25, Tryd.ntmps25
  go_wp2_with (first | (at_lookup; go_must (refine wp_mapGetOk1 rfl _ _ 79 3 3 rfl Tryd.underlying79 Tryd.underlying3 (zero_int _) rfl HMN.out hwf.out rfl HBY.out ?_)) | (at_delete; go_must (refine wp_mapDelE rfl _ _ 79 3 3 3 rfl Tryd.underlying79 Tryd.underlying3 rfl HM1.out hwf.out rfl ?_)))
  rw [HW1.out]
  intro w2 n2 hM2 hK2
  have hR2 : HRaw w2 hb mb (.slice (some ⟨g, 0, none⟩) n cap) (L.take n) last (del f t.h) := ⟨HR1.out.head.kept hK2 (by simpa using fun e : hb = mb => HR1.out.hm e.symm), own_kept HR1.out.rows hK2 (fun b hb1 hb2 => by
    rw [List.mem_singleton.1 hb2] at hb1
    exact HR1.out.mv hb1), ⟨_, hM2⟩, HR1.out.hv, HR1.out.mv, HR1.out.hm⟩
  have hK2' : Kept (hown hb mb (.slice (some ⟨g, 0, none⟩) (n + 1) cap)) w w2 := HK1.out.trans (hK2.mono (by simp [hown]))
  have hT2 := HT1.out.kept hK2 (by simp; omega)
  have hU2 := HU1.out.kept hK2 (by simp; omega)
  have hlt : (L.take n).length = n := by rw [List.length_take, HN.out]; omega
  by_cases hjn : j < n
  · have hl2 : ((L.take n).set j u).length = n := by rw [List.length_set]; exact hlt
    have hpV : L.Perm (t :: (L.take n).set j u) := by rw [← HJT.out, ← HU.out]; exact out_last HN.out hjn
    have hndV : (((L.take n).set j u).map (·.h)).Nodup := by
      have := (hpV.map (·.h)).nodup_iff.1 HND.out
      rw [List.map_cons, List.nodup_cons] at this
      exact this.2
    have hjV : tat ((L.take n).set j u) j = u := by rw [tat_set _ _ _ _ (by omega), if_pos rfl]
    have hmV : MapAll (upd (del f t.h) u.h j) ((L.take n).set j u) := by
      have h1 := map_out HN.out hjn HM.out HI.out
      rw [HJT.out, HU.out] at h1
      have h2 := map_end h1 (inj_of hndV) (by omega)
      rw [hjV] at h2
      exact h2
    have HLAY := hid (lay_ok hR2 (i := j) (by omega) u huh.out)
    have hlessV : ∀ s, s ∈ (L.take n).set j u → s.h ≤ 9223372036854775807 := fun s hs => HLESS.out s (hpV.mem_iff.2 (List.mem_cons_of_mem _ hs))
    have HHOLE := hid (hole_last HN.out hjn HH.out u)
    have HPV := hid hpV
    have HNDV := hid hndV
    have HJV := hid hjV
    have HMV := hid hmV
    have HLV := hid hl2
    have HLESSV := hid hlessV
    have f0 := hU2.cell (o := 0) rfl
    have f1 := hU2.cell (o := 1) rfl
    have f2 := hU2.cell (o := 2) rfl
    have HT2 := hid hT2
    have HU2 := hid hU2
    have HK2 := hid hK2'
    have hjnI : (j : Int) < (n : Int) := by omega
    clear hl2 hpV hndV hjV hmV hlessV hT2 hU2 hK2 hK2' hR2 hM2 hlt c0 c1 d0 d1 d2 e0 e1 e2 z0 hjn
    go_wp2_with fail
    refine HLAY.out.mono ?_
    rintro e w3 ⟨rfl, hR3, hK3⟩
    have HUP := hid (up_ok hR3 (i0 := j) (by have := HLV.out; omega) (by have := HLV.out; omega) HHOLE.out (HMV.out.hole j) HNDV.out HLESSV.out)
    have hT3 := HT2.out.kept hK3 (by simp [hown, Value.ownBlock]; omega)
    have hU3 := HU2.out.kept hK3 (by simp [hown, Value.ownBlock]; omega)
    have f0 := hU3.cell (o := 0) rfl
    have f1 := hU3.cell (o := 1) rfl
    have f2 := hU3.cell (o := 2) rfl
    have HK3 := hid hK3
    have HT3 := hid hT3
    have HU3 := hid hU3
    clear hR3 hK3 hT3 hU3 HT2 HU2
    go_wp2_with fail
    refine HUP.out.mono ?_
    rintro e w4 ⟨rfl, L', i', f', hR4, hp4, hi4, hti, hdn, hma, hkd, hK4⟩
    rw [HLV.out] at hi4
    rw [HJV.out] at hti
    have hT4 := HT3.out.kept hK4 (by simp [hown, Value.ownBlock]; omega)
    have hU4 := HU3.out.kept hK4 (by simp [hown, Value.ownBlock]; omega)
    have f2 := hU4.cell (o := 2) rfl
    have c1 := hR4.head.cell (o := 1) rfl
    have hl4 : L'.length = n := by rw [hp4.length_eq]; exact HLV.out
    have hnd4 := (hp4.map (·.h)).nodup_iff.2 HNDV.out
    have hless4 : ∀ s, s ∈ L' → s.h ≤ 9223372036854775807 := fun s hs => HLESSV.out s (hp4.mem_iff.1 hs)
    have hby4 : f' ((u.h : Nat) : Int) = some (.int .i64 (i' : Int)) := by rw [← hti]; exact hma.1 i' (by omega)
    obtain ⟨m4, hm4⟩ := hR4.map
    have HBY4 := hid hby4
    have HM4 := hid hm4
    have HDN := hid (fun (W : World) (hW : Kept [] w4 W) => down_ok (hR4.keptN hW) (i0 := i') (by omega) (by omega) hdn (hma.hole i') hnd4 hless4)
    have HK4 := hid hK4
    have HT4 := hid hT4
    have HP4 := hid hp4
    have hwu := hid (wf_i64 (i := u.h) huh.out)
    clear hR4 hp4 hti hdn hma hkd hK4 hT4 hU4 hl4 hnd4 hless4 hby4 hm4 f0 f1
    go_wp2_with fail
    go_still_tail 8, (by kernel_rfl)
    refine wpStill_mapGet1 rfl _ _ 79 3 3 rfl Tryd.underlying79 Tryd.underlying3 (zero_int _) rfl (HM4.out.keptN ((Kept.refl [] w4).drew)) hwu.out rfl HBY4.out (wpStill_nil ?_)
    change wpList _ _ _ _ _ w4.drew
    obtain ⟨wq, hwq⟩ : ∃ wq, w4.drew = wq := ⟨_, rfl⟩
    have hKq : Kept [] w4 wq := by rw [← hwq]; exact (Kept.refl [] w4).drew
    rw [hwq]
    have f2 := hKq.cellSome f2 (by simp)
    have c1 := hKq.cellSome c1 (by simp)
    have HKq := hid hKq
    clear hKq hwq
    go_wp2_with fail
    refine (HDN.out _ HKq.out).mono ?_
    rintro e w5 ⟨rfl, L5, f5, hR5, hp5, hH5, hma5, hK5⟩
    have hT5 := (HT4.out.keptN HKq.out).kept hK5 (by simp [hown, Value.ownBlock]; omega)
    have g1 := hT5.cell (o := 1) rfl
    have HR5 := hid hR5
    have HP5 := hid hp5
    have HH5 := hid hH5
    have HMA5 := hid hma5
    have HKK := hid (HK3.out.trans (HK4.out.trans (HKq.out.nil.trans hK5)))
    clear hR5 hp5 hH5 hma5 hK5 hT5 f2 c1
    go_wp2_with fail
    go_ret2
    have hKK := HK2.out.trans (HKK.out.mono (T := hown hb mb (.slice (some ⟨g, 0, none⟩) (n + 1) cap)) (by simp [hown, Value.ownBlock]))
    exact ⟨rfl, _, H.out.out (t := t) HPV.out HP.out (HP5.out.trans HP4.out) HR5.out HH5.out HMA5.out hKK.size (by simp [Value.ownBlock]), by simp [Value.ownBlock], hKK⟩
  · obtain rfl : j = n := by omega
    have c0' := hT2.cell (o := 1) rfl
    have HR2 := hid hR2
    have HK2 := hid hK2'
    clear hR2 hK2 hK2' hT2 hU2 hM2 hlt hjn
    go_wp2_with fail
    go_ret2
    refine ⟨rfl, _, H.out.out (t := t) (L := L) (V := L.take j) ?_ HP.out (.refl _) HR2.out (heap_take HN.out HH.out) ?_ HK2.out.size (by simp [Value.ownBlock]), by simp [Value.ownBlock], HK2.out⟩
    · rw [← HJT.out]; exact take_last HN.out
    · rw [← HJT.out]; exact map_take HN.out HM.out HI.out

end Go.Proofs.YtcaikpfdhdbioaaDoor
