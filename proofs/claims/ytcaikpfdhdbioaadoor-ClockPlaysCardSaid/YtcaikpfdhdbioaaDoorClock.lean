/- package clock: New, Now, Armed, Arm. -/
import Derived.Test.YtcaikpfdhdbioaaDoorHeapQ
import Derived.Test.YtcaikpfdhdbioaaDoorClockM
import Derived.Deep.RegionHeld3
namespace Go.Proofs.YtcaikpfdhdbioaaDoor
open Go Go.RowKit

/-- The clock at cb; S is who is armed, in order. -/
structure ClockAt (w : World) (cb hb mb bb base : Nat) (v : Value) (S : List Th) (last now : Nat) : Prop where
  head : Blk w cb [.int .u64 now, .pointer (some ⟨hb, 0, none⟩), .map (some bb)]
  heap : HeapAt w hb mb base v S last
  by' : MapIs w .u64 bb S.length (byOf S)
  ids : (S.map (·.x)).Nodup
  cb : cb < base ∧ cb ≠ hb ∧ cb ≠ mb ∧ cb ≠ bb
  bb : bb < base ∧ bb ≠ hb ∧ bb ≠ mb
  lt : ∀ s, s ∈ S → s.x < 18446744073709551616
def cown (cb hb mb bb : Nat) (v : Value) : List Nat := cb :: bb :: hown hb mb v
def ClockIs (w : World) (cb : Nat) (T : List Nat) (S : List Th) (last now : Nat) : Prop := ∃ hb mb bb base v, T = cown cb hb mb bb v ∧ ClockAt w cb hb mb bb base v S last now

theorem HeapAt.lt {w : World} {hb mb base : Nat} {v : Value} {S : List Th} {last : Nat} (h : HeapAt w hb mb base v S last) : ∀ x, x ∈ hown hb mb v → x < w.heap.size := by
  intro x hx
  have hl := h.low
  unfold hown at hx
  rcases List.mem_cons.1 hx with rfl | hx
  · omega
  rcases List.mem_cons.1 hx with rfl | hx
  · omega
  · obtain ⟨L, f, hr, r⟩ := h.ex
    exact (hr.rows.lt x (by simpa using hx)).2
theorem ClockIs.lt {w : World} {cb : Nat} {T : List Nat} {S : List Th} {last now : Nat} (h : ClockIs w cb T S last now) : ∀ x, x ∈ T → x < w.heap.size := by
  obtain ⟨hb, mb, bb, base, v, rfl, h⟩ := h
  intro x hx
  unfold cown at hx
  rcases List.mem_cons.1 hx with rfl | hx
  · exact h.head.lt
  rcases List.mem_cons.1 hx with rfl | hx
  · exact h.by'.lt
  · exact h.heap.lt x hx
theorem ClockIs.cb {w : World} {cb : Nat} {T : List Nat} {S : List Th} {last now : Nat} (h : ClockIs w cb T S last now) : cb ∈ T := by
  obtain ⟨hb, mb, bb, base, v, rfl, h⟩ := h
  simp [cown]
theorem ClockIs.kept {U : List Nat} {w w' : World} {cb : Nat} {T : List Nat} {S : List Th} {last now : Nat} (h : ClockIs w cb T S last now) (k : Kept U w w') (hU : ∀ x, x ∈ T → x ∉ U) : ClockIs w' cb T S last now := by
  obtain ⟨hb, mb, bb, base, v, rfl, h⟩ := h
  have hm : ∀ x, x ∈ hown hb mb v → x ∉ U := fun x hx => hU x (by unfold cown; exact List.mem_cons_of_mem _ (List.mem_cons_of_mem _ hx))
  exact ⟨hb, mb, bb, base, v, rfl, h.head.kept k (hU cb (by simp [cown])), h.heap.kept k (hm hb (by simp [hown])) (hm mb (by simp [hown])) (fun b hb' => hm b (by unfold hown; exact List.mem_cons_of_mem _ (List.mem_cons_of_mem _ hb'))), h.by'.kept k (hU bb (by simp [cown])), h.ids, h.cb, h.bb, h.lt⟩
theorem ClockIs.keptN {w w' : World} {cb : Nat} {T : List Nat} {S : List Th} {last now : Nat} (h : ClockIs w cb T S last now) (k : Kept [] w w') : ClockIs w' cb T S last now := h.kept k (fun _ _ => by simp)
theorem ClockAt.cfar {w : World} {cb hb mb bb base : Nat} {v : Value} {S : List Th} {last now : Nat} (h : ClockAt w cb hb mb bb base v S last now) : cb ∉ hown hb mb v := by
  intro hm
  have h1 := h.cb
  unfold hown at hm
  rcases List.mem_cons.1 hm with e | hm
  · exact h1.2.1 e
  rcases List.mem_cons.1 hm with e | hm
  · exact h1.2.2.1 e
  · have := h.heap.row cb hm; omega
theorem ClockAt.bfar {w : World} {cb hb mb bb base : Nat} {v : Value} {S : List Th} {last now : Nat} (h : ClockAt w cb hb mb bb base v S last now) : bb ∉ hown hb mb v := by
  intro hm
  have h1 := h.bb
  unfold hown at hm
  rcases List.mem_cons.1 hm with e | hm
  · exact h1.2.1 e
  rcases List.mem_cons.1 hm with e | hm
  · exact h1.2.2 e
  · have := h.heap.row bb hm; omega

theorem ClockIs.sorted {w : World} {cb : Nat} {T : List Nat} {S : List Th} {last now : Nat} (h : ClockIs w cb T S last now) : S.Pairwise Ah := by
  obtain ⟨hb, mb, bb, base, v, rfl, h⟩ := h
  exact h.heap.sorted
theorem wf_u64 {i : Nat} (h : i < 18446744073709551616) : (Lit.int .u64 (i : Int)).wf = true := by
  simp [Lit.wf, IntKind.min, IntKind.max, IntKind.signed, IntKind.bits]
  omega
theorem zero_armed (w : World) : (zeroValue 64).run Tryd.prog w = .ok (.agg #[.int .i64 0, .int .u64 0]) w := by kernel_rfl

set_option maxRecDepth 100000 in
set_option maxHeartbeats 1000000 in
theorem newclock_ok (w : World) :
    Calls Tryd.prog 5 #[] w fun e w' => ∃ cb T, e = .returned (.pointer (some ⟨cb, 0, none⟩)) ∧ (∀ x, x ∈ T → w.heap.size ≤ x) ∧ ClockIs w' cb T [] 0 0 ∧ Kept [] w w' := by
  have hmm := @run_makeMap Tryd.prog
  go_enter Tryd.func5, Tryd.ntmps5
  go_wp2_with fail
  refine (newheap_ok w).mono ?_
  rintro e w1 ⟨hb, mb, rfl, h1, h2, hH, hK⟩
  have HH := hid hH
  have HK := hid hK
  clear hH hK
  go_wp2_with fail
  go_ret
  have hl := HH.out.low
  have hmap : MapIs (w1.alloc (.map #[] 0)) .u64 w1.heap.size 0 (fun _ => none) := MapIs.new w1 .u64
  have hsz := HK.out.size
  refine ⟨w1.heap.size + 1, cown (w1.heap.size + 1) hb mb w1.heap.size (.slice none 0 0), rfl, ?_, ⟨hb, mb, w1.heap.size, w1.heap.size + 2, .slice none 0 0, rfl, Blk.newA _ _ (by simp), ?_, (hmap.keptN ((Kept.refl _ _).alloc _)).congr (fun a => by simp [byOf]), by simp, ⟨by omega, by omega, by omega, by omega⟩, ⟨by omega, by omega, by omega⟩, fun s hs => by cases hs⟩, (HK.out.alloc _).alloc _⟩
  · intro x hx
    simp [cown, hown, Value.ownBlock] at hx
    omega
  · have h3 := HH.out.keptN (((Kept.refl [] w1).alloc (.map #[] 0)).alloc (.cells #[.int .u64 0, .pointer (some ⟨hb, 0, none⟩), .map (some w1.heap.size)] 59))
    exact ⟨h3.ex, h3.sorted, h3.nodup, h3.less, ⟨by omega, by omega, by simp⟩, by simp [Value.ownBlock]⟩

theorem now_ok {w : World} {cb : Nat} {T : List Nat} {S : List Th} {last now : Nat} (h : ClockIs w cb T S last now) :
    Calls Tryd.prog 20 #[.pointer (some ⟨cb, 0, none⟩)] w fun e w' => e = .returned (.int .u64 now) ∧ w = w' := by
  obtain ⟨hb, mb, bb, base, v, rfl, h⟩ := h
  have c0 := h.head.cell (o := 0) rfl
  clear h
  go_enter Tryd.func20, Tryd.ntmps20
  go_wp2_with fail
  go_ret
  exact ⟨rfl, rfl⟩
theorem armed_ok {w : World} {cb : Nat} {T : List Nat} {S : List Th} {last now : Nat} (h : ClockIs w cb T S last now) :
    Calls Tryd.prog 12 #[.pointer (some ⟨cb, 0, none⟩)] w fun e w' => e = .returned (.int .i64 S.length) ∧ w = w' := by
  obtain ⟨hb, mb, bb, base, v, rfl, h⟩ := h
  have c2 := h.head.cell (o := 2) rfl
  have HM := hid h.by'
  clear h
  go_enter Tryd.func12, Tryd.ntmps12
  go_wp2_with (at_len; go_must (refine wp_mapLen rfl _ 57 25 64 rfl Tryd.underlying57 rfl HM.out ?_))
  go_ret
  exact ⟨rfl, rfl⟩

set_option maxRecDepth 100000 in
set_option maxHeartbeats 1000000 in
/-- Never: nothing is armed. -/
theorem arm_never {w : World} {cb : Nat} {T : List Nat} {S : List Th} {last now : Nat} (h : ClockIs w cb T S last now) (id : Nat) (h0 : id ≠ 0) (hi : id < 18446744073709551616) (hno : ∀ t, t ∈ S → t.x ≠ id) :
    Calls Tryd.prog 6 #[.pointer (some ⟨cb, 0, none⟩), .int .u64 id, .int .u64 18446744073709551615] w fun e w' => e = .returned .nilIface ∧ Kept [] w w' := by
  obtain ⟨hb, mb, bb, base, v, rfl, h⟩ := h
  have c2 := h.head.cell (o := 2) rfl
  have HM := hid h.by'
  have hid0 : ((id : Int) == 0) = false := by simp; exact h0
  have HBY := hid (show byOf S (id : Int) = none from by_none fun t ht e => hno t ht (by omega))
  have hwf := hid (wf_u64 hi)
  clear h hno
  go_enter Tryd.func6, Tryd.ntmps6
  go_wp2_with (first | (at_lookup; go_must (refine wp_mapGetOk0 rfl _ _ 57 25 64 rfl Tryd.underlying57 Tryd.underlying25 (zero_armed _) rfl HM.out hwf.out rfl HBY.out ?_)))
  go_ret
  exact ⟨rfl, (Kept.refl _ _).alloc _⟩

set_option maxRecDepth 100000 in
set_option maxHeartbeats 4000000 in
theorem arm_ok {w : World} {cb : Nat} {T : List Nat} {S : List Th} {last now : Nat} (h : ClockIs w cb T S last now) (hS : S.length ≤ 100000) (hla : last ≤ 1000000) (id d : Nat) (h0 : id ≠ 0) (hi : id < 18446744073709551616) (hd : d < 18446744073709551615) (hno : ∀ t, t ∈ S → t.x ≠ id) :
    Calls Tryd.prog 6 #[.pointer (some ⟨cb, 0, none⟩), .int .u64 id, .int .u64 d] w fun e w' => e = .returned .nilIface ∧ ∃ T', ClockIs w' cb T' (insT ⟨d, id, last + 1⟩ S) (last + 1) now ∧ (∀ x, x ∈ T' → x ∈ T ∨ w.heap.size ≤ x) ∧ Kept T w w' := by
  obtain ⟨hb, mb, bb, base, v, rfl, h⟩ := h
  have c1 := h.head.cell (o := 1) rfl
  have c2 := h.head.cell (o := 2) rfl
  have HM := hid h.by'
  have hid0 : ((id : Int) == 0) = false := by simp; exact h0
  have hdn : ((d : Int) != 18446744073709551615) = true := by simp; omega
  have HBY := hid (show byOf S (id : Int) = none from by_none fun t ht e => hno t ht (by omega))
  have hwf := hid (wf_u64 hi)
  have H := hid h
  have HNO := hid hno
  have hlt := h.head.lt
  clear h hno
  go_enter Tryd.func6, Tryd.ntmps6
  go_wp2_with (first | (at_lookup; go_must (refine wp_mapGetOk0 rfl _ _ 57 25 64 rfl Tryd.underlying57 Tryd.underlying25 (zero_armed _) rfl HM.out hwf.out rfl HBY.out ?_)))
  obtain ⟨w1, hw1⟩ : ∃ w1, (w.alloc (.cells #[.int .i64 0, .int .u64 0] 64)) = w1 := ⟨_, rfl⟩
  have hK1 : Kept [] w w1 := by rw [← hw1]; exact (Kept.refl _ _).alloc _
  rw [hw1]
  have c1 := hK1.cellSome c1 (by simp)
  have c2 := hK1.cellSome c2 (by simp)
  have HPUT := hid (put_ok (H.out.heap.keptN (hK1.trans (Kept.refl [] w1).drew)) hS hla d id)
  have hcf := H.out.cfar
  have hbf := H.out.bfar
  have HM1 := hid (HM.out.keptN (hK1.trans (Kept.refl [] w1).drew))
  have HK1 := hid hK1
  have HWB := hid (fun (W : World) (m : Nat) (f : Int → Option Value) (hm : MapIs W .u64 bb m f) => MapIs.run_update hm (P := Tryd.prog) (t := 57) Tryd.underlying57 Tryd.underlying25 hwf.out (.agg #[.int .i64 ((last : Int) + 1), .int .u64 d]))
  clear hw1 hK1 hlt
  go_region_held3 (fun w' => w'.cell? ⟨cb, 1, none⟩ = some (.pointer (some ⟨hb, 0, none⟩)) ∧ w'.cell? ⟨cb, 2, none⟩ = some (.map (some bb))) (first | exact ⟨c1, c2⟩ | exact ⟨hK2.cellSome c1 hcf, hK2.cellSome c2 hcf⟩ | exact ⟨hK3.cellSome (hK2.cellSome c1 hcf) (by simpa using H.out.cb.2.2.2), hK3.cellSome (hK2.cellSome c2 hcf) (by simpa using H.out.cb.2.2.2)⟩) (first | (go_at_call 22; refine HPUT.out.mono ?_; rintro e w2 ⟨rfl, v2, hH2, ho2, hK2⟩; obtain ⟨w3, hrun, hM3, hK3⟩ := HWB.out w2 _ _ (HM1.out.kept hK2 hbf)))
  have HH2 := hid hH2
  have HO2 := hid ho2
  have HK2 := hid hK2
  have HM3 := hid hM3
  have HK3 := hid hK3
  clear hH2 ho2 hK2 hM3 hK3 hrun hcf hbf
  go_wp2_with fail
  go_ret
  have hcb := H.out.cb
  have hbb := H.out.bb
  have hmem : ∀ x, x ∈ hown hb mb v2 → x ∈ hown hb mb v ∨ w1.heap.size ≤ x := by
    intro x hx
    unfold hown at hx ⊢
    rcases List.mem_cons.1 hx with rfl | hx
    · exact .inl (by simp)
    rcases List.mem_cons.1 hx with rfl | hx
    · exact .inl (by simp)
    · rcases HO2.out x hx with h1 | h1
      · exact .inl (List.mem_cons_of_mem _ (List.mem_cons_of_mem _ h1))
      · exact .inr h1
  have hk : Kept (cown cb hb mb bb v) w w3 := (HK1.out.nil.trans (((Kept.refl _ w1).drew.trans HK2.out).mono (fun x hx => by unfold cown; exact List.mem_cons_of_mem _ (List.mem_cons_of_mem _ hx)))).trans (HK3.out.mono (by simp [cown]))
  have hbv : bb ∉ hown hb mb v2 := fun hm => by
    rcases hmem bb hm with h1 | h1
    · exact H.out.bfar h1
    · have := H.out.by'.lt
      have := HK1.out.size
      omega
  have hbv2 : ∀ b, b ∈ v2.ownBlock.toList → b ∉ [bb] := fun b hb1 hb2 => by
    rw [List.mem_singleton.1 hb2] at hb1
    exact hbv (by unfold hown; exact List.mem_cons_of_mem _ (List.mem_cons_of_mem _ hb1))
  have hnone := HBY.out
  have hlen : (insT ⟨d, id, last + 1⟩ S).length = S.length + 1 := by rw [(insT_perm _ _).length_eq]; rfl
  refine ⟨rfl, cown cb hb mb bb v2, ⟨hb, mb, bb, base, v2, rfl, (H.out.head.keptN HK1.out).kept ((Kept.refl _ w1).drew.trans HK2.out) H.out.cfar |>.kept HK3.out (by simpa using hcb.2.2.2), ?_, ?_, ins_ids H.out.ids HNO.out, hcb, hbb, ?_⟩, ?_, hk⟩
  · exact HH2.out.kept HK3.out (by simpa using fun e : hb = bb => hbb.2.1 e.symm) (by simpa using fun e : mb = bb => hbb.2.2 e.symm) hbv2
  · have := HM3.out
    rw [hnone] at this
    rw [hlen]
    exact this.congr (fun a => (by_ins (t := ⟨d, id, last + 1⟩) H.out.ids HNO.out a).symm)
  · intro s hs
    rcases List.mem_cons.1 ((insT_perm _ _).mem_iff.1 hs) with rfl | hs
    · exact hi
    · exact H.out.lt s hs
  · intro x hx
    unfold cown at hx ⊢
    rcases List.mem_cons.1 hx with rfl | hx
    · exact .inl (by simp)
    rcases List.mem_cons.1 hx with rfl | hx
    · exact .inl (by simp)
    · rcases hmem x hx with h1 | h1
      · exact .inl (List.mem_cons_of_mem _ (List.mem_cons_of_mem _ h1))
      · exact .inr (Nat.le_trans HK1.out.size h1)

end Go.Proofs.YtcaikpfdhdbioaaDoor
