/- package clock: Tick. -/
import Derived.Test.YtcaikpfdhdbioaaDoorClock
import Derived.Test.YtcaikpfdhdbioaaDoorStill
namespace Go.Proofs.YtcaikpfdhdbioaaDoor
open Go Go.RowKit

theorem info_u64 : (Tryd.prog.info? 25).map (fun i => (i.zero, i.size, i.bytes)) = some (some (.int .u64 0), 1, 8) := by kernel_rfl

theorem ClockAt.tail {w w2 w3 : World} {cb hb mb bb base : Nat} {v v' : Value} {s : Th} {S : List Th} {last now : Nat} (h : ClockAt w cb hb mb bb base v (s :: S) last now) (hH : HeapAt w2 hb mb base v' S last) (hv : ∀ b, b ∈ v'.ownBlock.toList → b ∈ v.ownBlock.toList) (hK : Kept (hown hb mb v) w w2)
    {m : Nat} (hM : MapIs w3 .u64 bb m (fun y => if y = (s.x : Int) then none else byOf (s :: S) y)) (hm : m = S.length) (hK3 : Kept [bb] w2 w3) : ClockAt w3 cb hb mb bb base v' S last now := by
  have hcb := h.cb
  have hbb := h.bb
  have hids := h.ids
  rw [List.map_cons, List.nodup_cons] at hids
  refine ⟨(h.head.kept hK h.cfar).kept hK3 (by simpa using hcb.2.2.2), hH.kept hK3 (by simpa using fun e : hb = bb => hbb.2.1 e.symm) (by simpa using fun e : mb = bb => hbb.2.2 e.symm) (fun b hb1 hb2 => ?_), by rw [← hm]; exact hM.congr (fun a => (by_tail h.ids a).symm), hids.2, hcb, hbb, fun t ht => h.lt t (List.mem_cons_of_mem _ ht)⟩
  rw [List.mem_singleton.1 hb2] at hb1
  exact h.bfar (by unfold hown; exact List.mem_cons_of_mem _ (List.mem_cons_of_mem _ (hv _ hb1)))

theorem cown_sub {cb hb mb bb : Nat} {v v' : Value} (hv : ∀ b, b ∈ v'.ownBlock.toList → b ∈ v.ownBlock.toList) : ∀ x, x ∈ cown cb hb mb bb v' → x ∈ cown cb hb mb bb v := by
  intro x hx
  unfold cown hown at hx ⊢
  rcases List.mem_cons.1 hx with rfl | hx
  · simp
  rcases List.mem_cons.1 hx with rfl | hx
  · simp
  rcases List.mem_cons.1 hx with rfl | hx
  · simp
  rcases List.mem_cons.1 hx with rfl | hx
  · simp
  · exact List.mem_cons_of_mem _ (List.mem_cons_of_mem _ (List.mem_cons_of_mem _ (List.mem_cons_of_mem _ (hv x hx))))
theorem cown_hown {cb hb mb bb : Nat} {v : Value} : ∀ x, x ∈ hown hb mb v → x ∈ cown cb hb mb bb v := fun x hx => by unfold cown; exact List.mem_cons_of_mem _ (List.mem_cons_of_mem _ hx)

theorem drop_cons {A : List Th} {k : Nat} (h : k < A.length) : A.drop k = tat A k :: A.drop (k + 1) := by
  rw [List.drop_eq_getElem_cons h]
  congr 1
  have := tat_get h
  rw [List.getElem?_eq_getElem h] at this
  exact Option.some.inj this
theorem take_snocT {A : List Th} {k : Nat} (h : k < A.length) : (A.map numV).take (k + 1) = (A.map numV).take k ++ [.int .u64 (tat A k).x] := by
  rw [List.take_add_one, List.getElem?_map, tat_get h]
  simp [numV]

theorem ClockAt.kept {U : List Nat} {w w' : World} {cb hb mb bb base : Nat} {v : Value} {S : List Th} {last now : Nat} (h : ClockAt w cb hb mb bb base v S last now) (k : Kept U w w') (hU : ∀ x, x ∈ cown cb hb mb bb v → x ∉ U) : ClockAt w' cb hb mb bb base v S last now :=
  ⟨h.head.kept k (hU cb (by simp [cown])), h.heap.kept k (hU hb (by simp [cown, hown])) (hU mb (by simp [cown, hown])) (fun b hb' => hU b (cown_hown b (by unfold hown; exact List.mem_cons_of_mem _ (List.mem_cons_of_mem _ hb')))), h.by'.kept k (hU bb (by simp [cown])), h.ids, h.cb, h.bb, h.lt⟩
theorem ClockAt.keptN {w w' : World} {cb hb mb bb base : Nat} {v : Value} {S : List Th} {last now : Nat} (h : ClockAt w cb hb mb bb base v S last now) (k : Kept [] w w') : ClockAt w' cb hb mb bb base v S last now := h.kept k (fun _ _ => by simp)

/-- What holds at the head of Tick's loop. -/
structure TickI (w : World) (cb hb mb bb base : Nat) (v : Value) (A B : List Th) (last n1 : Nat) (wr : World) (k : Nat) (lv : Value) : Prop where
  le : k ≤ A.length
  clock : ∃ v', ClockAt wr cb hb mb bb base v' (A.drop k ++ B) last n1 ∧ ∀ b, b ∈ v'.ownBlock.toList → b ∈ v.ownBlock.toList
  row : wr.ownsRow w.heap.size 25 1 lv k ((A.map numV).take k)
  kept : Kept (cown cb hb mb bb v) w wr

set_option maxRecDepth 100000 in
set_option maxHeartbeats 4000000 in
theorem tick_ok {w : World} {cb : Nat} {T : List Nat} {A B : List Th} {last now : Nat} (h : ClockIs w cb T (A ++ B) last now) (hS : (A ++ B).length ≤ 100000) (hla : last ≤ 1000001) (hnow : now + 1 < 18446744073709551616) (hA : ∀ s, s ∈ A → s.d ≤ now + 1) (hB : ∀ s, s ∈ B → now + 1 < s.d) :
    Calls Tryd.prog 11 #[.pointer (some ⟨cb, 0, none⟩)] w fun e w' => ∃ v T', e = .returned v ∧ ClockIs w' cb T' B last (now + 1) ∧ (∀ x, x ∈ T' → x ∈ T) ∧ w'.ownsRow w.heap.size 25 1 v A.length (A.map numV) ∧ Kept T w w' := by
  have hlt := h.lt
  obtain ⟨hb, mb, bb, base, v, rfl, h⟩ := h
  have c0 := h.head.cell (o := 0) rfl
  have z0 := h.head.frozen 0
  obtain ⟨n1, hn1⟩ : ∃ n1, now + 1 = n1 := ⟨_, rfl⟩
  rw [hn1] at hA hB ⊢
  have hw1 : IntKind.u64.wrap ((now : Int) + 1) = (n1 : Int) := by rw [IntKind.wrap_u64]; omega
  have hw2 : (now : Int) + 1 = (n1 : Int) := by omega
  have hw3 : IntKind.u64.wrap (n1 : Int) = (n1 : Int) := by rw [IntKind.wrap_u64]; omega
  have hst : TickI w cb hb mb bb base v A B last n1 (w.setCell ⟨cb, 0, none⟩ (.int .u64 n1)) 0 (.slice none 0 0) := by
    have hk : Kept [cb] w (w.setCell ⟨cb, 0, none⟩ (.int .u64 n1)) := (Kept.refl _ _).setCell (.inl (by simp)) _
    have hcb := h.cb
    refine ⟨Nat.zero_le _, ⟨v, ⟨h.head.set 0 _, ?_, h.by'.kept hk (by simpa using fun e : bb = cb => hcb.2.2.2 e.symm), h.ids, h.cb, h.bb, h.lt⟩, fun _ h => h⟩, World.ownsRow_nil _ _ _ _, hk.mono (by simp [cown])⟩
    have hcf := h.cfar
    refine h.heap.kept hk (by simpa using fun e : hb = cb => hcb.2.1 e.symm) (by simpa using fun e : mb = cb => hcb.2.2.1 e.symm) (fun b hb1 hb2 => ?_)
    rw [List.mem_singleton.1 hb2] at hb1
    exact hcf (by unfold hown; exact List.mem_cons_of_mem _ (List.mem_cons_of_mem _ hb1))
  have hAl : A.length ≤ 100000 := by rw [List.length_append] at hS; omega
  have HST := hid hst
  have HA := hid hA
  have HB := hid hB
  have HLT := hid hlt
  have hcl := h.head.lt
  have hn1' : n1 < 18446744073709551616 := by omega
  have HN1 := hid hn1'
  clear h hst hA hB hlt hn1 hnow hn1'
  go_enter Tryd.func11, Tryd.ntmps11
  go_wp2_with fail
  clear hw1 hw2 hw3 c0 z0
  go_loopw [3] (fun s3 wr => ∃ k, TickI w cb hb mb bb base v A B last n1 wr k s3) (fun s3 _ => A.length - sliceLen s3)
  case atStart => exact ⟨0, HST.out⟩
  case round =>
    obtain ⟨k, hI⟩ := hrel
    have HI := hid hI
    obtain ⟨v', hC, hv⟩ := hI.clock
    obtain ⟨la, lc, hlv⟩ := own_form' hI.row
    subst hlv
    have hIle := hI.le
    have c0 := hC.head.cell (o := 0) rfl
    have c1 := hC.head.cell (o := 1) rfl
    have HC := hid hC
    have HV := hid hv
    clear hI hC hv HST
    go_wp2_with fail
    by_cases hk : k < A.length
    · have HC2 := HC.out
      rw [drop_cons hk] at HC2
      obtain ⟨s, hs⟩ : ∃ s, tat A k = s := ⟨_, rfl⟩
      have hsd : s.d ≤ n1 := by rw [← hs]; exact HA.out _ (tat_mem hk)
      have hsn := take_snocT hk
      rw [hs] at HC2 hsn
      have HSN := hid hsn
      have HCS := hid HC2
      have hlen : (A.drop (k + 1) ++ B).length + 1 ≤ 100000 := by
        have := hS
        simp at this ⊢
        omega
      have hlen2 := hid hlen
      have HPOP := hid (pop_some (HC2.heap.keptN ((Kept.refl [] wr).drew)) (by simpa using hlen) hla n1 hsd)
      have hsx := hid (wf_u64 (HC2.lt s (List.mem_cons_self ..)))
      have HBY := hid (by_some HC2.ids (List.mem_cons_self ..))
      clear HC2 hsn hs hsd hlen
      have hcf := HCS.out.cfar
      go_region_held3 (fun w' => w'.cell? ⟨cb, 0, none⟩ = some (.int .u64 n1) ∧ w'.cell? ⟨cb, 1, none⟩ = some (.pointer (some ⟨hb, 0, none⟩))) (first | exact ⟨c0, c1⟩ | exact ⟨hK1.cellSome c0 hcf, hK1.cellSome c1 hcf⟩) (first | (go_at_call 26; refine HPOP.out.mono ?_; rintro e w1 ⟨rfl, v1, hH1, hv1, hK1⟩))
      have hK1' := ((Kept.refl [] wr).drew.nil).trans hK1
      have c2 := (HCS.out.head.kept hK1' HCS.out.cfar).cell (o := 2) rfl
      have hM1 := HCS.out.by'.kept hK1' HCS.out.bfar
      have HM1 := hid hM1
      have HH1 := hid hH1
      have HV1 := hid hv1
      have HK1 := hid hK1'
      clear hM1 hH1 hv1 hK1 hK1' c0 c1
      go_wp2_with (first | (at_delete; go_must (refine wp_mapDel1 rfl _ _ 57 25 64 25 rfl Tryd.underlying57 Tryd.underlying25 rfl HM1.out hsx.out rfl HBY.out ?_)))
      intro w2 hM2 hK2
      have hC2 := HCS.out.tail HH1.out HV1.out HK1.out hM2 (by simp) hK2
      have hKr : Kept (cown cb hb mb bb v) wr w2 := (HK1.out.mono (T := cown cb hb mb bb v) (fun x hx => cown_sub HV.out x (cown_hown x hx))).trans (hK2.mono (by simp [cown]))
      have hrow2 : w2.ownsRow w.heap.size 25 1 (.slice la k lc) k ((A.map numV).take k) := own_kept HI.out.row hKr (fun b hb1 hb2 => by
        have := own_ge HI.out.row b hb1
        have := HLT.out b hb2
        omega)
      have hbase := Nat.le_trans HI.out.kept.size hKr.size
      have HROW := hid hrow2
      have HC2 := hid hC2
      have HKR := hid hKr
      clear hM2 hK2 hC2 hKr hrow2
      go_wp2_with (at_builtin; go_must (refine wp_app1 rfl _ _ 35 25 rfl Tryd.underlying35 info_u64 rfl (by decide) w.heap.size _ _ _ rfl (HROW.out.alloc _) w2.heap.size 1 [.int .u64 s.x] rfl rfl (Blk.newA _ _ rfl) (by simp [Value.oneCell']) (by omega) (by decide) (by simp; omega) ?_))
      intro g cap w3 hrow3 hg3 hK3
      rw [← HSN.out] at hrow3
      have hK3' := ((Kept.refl _ w2).alloc (.cells #[.int .u64 s.x] 25)).trans hK3
      have HROW3 := hid hrow3
      have HK3 := hid hK3'
      clear hrow3 hg3 hK3 hK3'
      go_wp2_with fail
      go_roundw
      case rel =>
        have hfar : ∀ b, b ∈ (Value.slice la k lc).ownBlock.toList → w.heap.size ≤ b := own_ge HROW.out
        have hlt2 := HLT.out
        have hCi : ClockIs w2 cb (cown cb hb mb bb v1) (A.drop (k + 1) ++ B) last n1 := ⟨hb, mb, bb, base, v1, rfl, HC2.out⟩
        have hn : ∀ x, x ∈ cown cb hb mb bb v1 → x ∉ (Value.slice la k lc).ownBlock.toList := fun x hx hx2 => by
          have := hfar x hx2
          have := hlt2 x (cown_sub HV.out x (cown_sub HV1.out x hx))
          omega
        exact ⟨k + 1, by omega, ⟨v1, HC2.out.kept HK3.out hn, fun b hb1 => HV.out b (HV1.out b hb1)⟩, HROW3.out, (HI.out.kept.trans HKR.out).trans' HK3.out (fun x hx => .inr (hfar x hx))⟩
      case measure => simp [sliceLen]; omega
    · have hke : k = A.length := by omega
      subst hke
      have HC2 := HC.out
      rw [List.drop_length, List.nil_append] at HC2
      have HCS := hid HC2
      have hlen : B.length ≤ 100000 := by rw [List.length_append] at hS; omega
      have HPOP := hid (pop_none (HC2.heap.keptN ((Kept.refl [] wr).drew)) hlen n1 HB.out)
      have hcf := HC2.cfar
      clear HC2 hlen
      go_region_held3 (fun w' => w'.cell? ⟨cb, 0, none⟩ = some (.int .u64 n1) ∧ w'.cell? ⟨cb, 1, none⟩ = some (.pointer (some ⟨hb, 0, none⟩))) (first | exact ⟨c0, c1⟩) (first | (go_at_call 26; refine HPOP.out.mono ?_; rintro e w1 ⟨rfl, rfl⟩))
      go_wp2_with fail
      go_ret
      have hrow := HI.out.row
      rw [List.take_of_length_le (by simp)] at hrow
      have hk : Kept [] wr wr.drew := (Kept.refl [] wr).drew
      exact ⟨_, _, rfl, ⟨hb, mb, bb, base, v', rfl, HCS.out.keptN hk⟩, cown_sub HV.out, own_keptN hrow hk, HI.out.kept.trans hk.nil⟩

end Go.Proofs.YtcaikpfdhdbioaaDoor
