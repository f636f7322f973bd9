/- package heap: New, Put. -/
import Derived.Test.YtcaikpfdhdbioaaDoorHeapD
import Derived.Deep.AppendLies
import Derived.Deep.RegionLaw
namespace Go.Proofs.YtcaikpfdhdbioaaDoor
open Go Go.RowKit

theorem own_up {w : World} {base : Nat} {e : TypeId} {size : Nat} {v : Value} {n : Nat} {xs : List Value} (h : w.ownsRow 0 e size v n xs) (hb : ∀ b, b ∈ v.ownBlock.toList → base ≤ b) : w.ownsRow base e size v n xs := by
  refine ⟨h.1, ?_⟩
  rcases h.2 with h2 | ⟨g, cap, cur, rfl, hg, r⟩
  · exact .inl h2
  · exact .inr ⟨g, cap, cur, rfl, hb g (by simp [Value.ownBlock]), r⟩
theorem own_take {w : World} {base : Nat} {e : TypeId} {size : Nat} {g n cap : Nat} {xs : List Value} (h : w.ownsRow base e size (.slice (some ⟨g, 0, none⟩) n cap) n xs) {m : Nat} (hm : m ≤ n) : w.ownsRow base e size (.slice (some ⟨g, 0, none⟩) m cap) m (xs.take (m * size)) := by
  have hms : m * size ≤ n * size := Nat.mul_le_mul_right size hm
  refine ⟨by rw [List.length_take, h.1]; omega, ?_⟩
  rcases h.2 with ⟨h2, _⟩ | ⟨g', cap', cur, h2, hg, hh, h3, h4, h5, h6⟩
  · cases h2
  · cases h2
    refine .inr ⟨g, cap, cur, rfl, hg, hh, by omega, h4, h5, ?_⟩
    rw [← h6, List.take_take, Nat.min_eq_left hms]

/-- The heap: S is what it holds, the earliest first. -/
structure HeapAt (w : World) (hb mb base : Nat) (v : Value) (S : List Th) (last : Nat) : Prop where
  ex : ∃ L f, HRaw w hb mb v L last f ∧ HeapL L ∧ MapAll f L ∧ L.Perm S
  sorted : S.Pairwise Ah
  nodup : (S.map (·.h)).Nodup
  less : ∀ s, s ∈ S → s.h ≤ last
  low : hb < base ∧ mb < base ∧ base ≤ w.heap.size
  row : ∀ b, b ∈ v.ownBlock.toList → base ≤ b

theorem HeapAt.kept {S' : List Nat} {w w' : World} {hb mb base : Nat} {v : Value} {S : List Th} {last : Nat} (h : HeapAt w hb mb base v S last) (k : Kept S' w w') (h1 : hb ∉ S') (h2 : mb ∉ S') (h3 : ∀ b, b ∈ v.ownBlock.toList → b ∉ S') : HeapAt w' hb mb base v S last := by
  obtain ⟨L, f, hr, r⟩ := h.ex
  exact ⟨⟨L, f, hr.kept k h1 h2 h3, r⟩, h.sorted, h.nodup, h.less, ⟨h.low.1, h.low.2.1, Nat.le_trans h.low.2.2 k.size⟩, h.row⟩
theorem HeapAt.keptN {w w' : World} {hb mb base : Nat} {v : Value} {S : List Th} {last : Nat} (h : HeapAt w hb mb base v S last) (k : Kept [] w w') : HeapAt w' hb mb base v S last := h.kept k (by simp) (by simp) (fun _ _ => by simp)

set_option maxRecDepth 100000 in
set_option maxHeartbeats 1000000 in
theorem newheap_ok (w : World) :
    Calls Tryd.prog 21 #[] w fun e w' => ∃ hb mb, e = .returned (.pointer (some ⟨hb, 0, none⟩)) ∧ w.heap.size ≤ hb ∧ w.heap.size ≤ mb ∧ HeapAt w' hb mb w'.heap.size (.slice none 0 0) [] 0 ∧ Kept [] w w' := by
  have hmm := @run_makeMap Tryd.prog
  go_enter Tryd.func21, Tryd.ntmps21
  go_wp2_with fail
  go_ret
  refine ⟨w.heap.size + 1, w.heap.size, ?_, by omega, by omega, ⟨⟨[], fun _ => none, ⟨?_, ⟨rfl, .inl ⟨rfl, rfl⟩⟩, ⟨0, (MapIs.new w .i64).keptN ((Kept.refl _ _).alloc _)⟩, by simp [Value.ownBlock], by simp [Value.ownBlock], by omega⟩, fun j hj => absurd hj (by simp), ⟨fun j hj => absurd hj (by simp), fun y hy => rfl⟩, .refl _⟩, List.Pairwise.nil, by simp, fun s hs => (by cases hs), ⟨by simp, by simp; omega, Nat.le_refl _⟩, by simp [Value.ownBlock]⟩, ((Kept.refl _ _).alloc _).alloc _⟩
  · simp
  · exact Blk.newA _ _ (by simp)

theorem HRaw.put {w w2 : World} {hb mb base : Nat} {v v' : Value} {L : List Th} {last l1 : Nat} {f : Int → Option Value} {t : Th} (h : HRaw w hb mb v L last f) (hk : Kept (hb :: v.ownBlock.toList) w w2) (hb2 : Blk w2 hb [v, .map (some mb), .int .i64 l1])
    (hW : w2.ownsRow base 84 3 v' (L.length + 1) (TV L ++ thV t)) (hl : hb < base ∧ mb < base) : HRaw (w2.setCell ⟨hb, 0, none⟩ v') hb mb v' (L ++ [t]) l1 f := by
  have hge := own_ge hW
  have hnb : hb ∉ v'.ownBlock.toList := fun hm => by have := hge _ hm; omega
  obtain ⟨n, hn⟩ := h.map
  refine ⟨hb2.set 0 _, ?_, ⟨n, (hn.kept hk ?_).set_ne _ _ _ h.hm⟩, hnb, fun hm => by have := hge _ hm; omega, h.hm⟩
  · rw [TV_snoc, List.length_append]
    exact own_set_ne (own_mono hW (Nat.zero_le _)) _ hnb
  · intro hm
    rcases List.mem_cons.1 hm with e | hm
    · exact h.hm e
    · exact h.mv hm
theorem nodup_put {L : List Th} {last : Nat} {t : Th} (hn : (L.map (·.h)).Nodup) (hl : ∀ s, s ∈ L → s.h ≤ last) (ht : t.h = last + 1) : ((L ++ [t]).map (·.h)).Nodup := by
  rw [List.map_append, List.nodup_append]
  refine ⟨hn, by simp, fun a ha b hb => ?_⟩
  obtain ⟨s, hs, rfl⟩ := List.mem_map.1 ha
  simp at hb
  subst hb
  have := hl s hs
  omega
theorem map_put {f : Int → Option Value} {L : List Th} (h : MapAll f L) (t : Th) : MapHole f (L ++ [t]) L.length := by
  have hl : (L ++ [t]).length = L.length + 1 := by simp
  refine ⟨fun j hj e => ?_, fun y hy => h.2 y fun j hj => ?_⟩
  · rw [tat_put' (by omega)]
    exact h.1 j (by omega)
  · have := hy j (by omega)
    rwa [tat_put' hj] at this

theorem info_thing : (Tryd.prog.info? 84).map (fun i => (i.zero, i.size, i.bytes)) = some (some (.agg #[.int .u64 0, .int .u64 0, .int .i64 0]), 3, 24) := by kernel_rfl

set_option maxRecDepth 100000 in
set_option maxHeartbeats 2000000 in
theorem put_ok {w : World} {hb mb base : Nat} {v : Value} {S : List Th} {last : Nat} (h : HeapAt w hb mb base v S last) (hS : S.length ≤ 100000) (hla : last ≤ 1000000) (d x : Nat) :
    Calls Tryd.prog 22 #[.pointer (some ⟨hb, 0, none⟩), .int .u64 d, .int .u64 x] w fun e w' => e = .returned (.int .i64 ((last + 1 : Nat) : Int)) ∧ ∃ v', HeapAt w' hb mb base v' (insT ⟨d, x, last + 1⟩ S) (last + 1) ∧ (∀ b, b ∈ v'.ownBlock.toList → b ∈ v.ownBlock.toList ∨ w.heap.size ≤ b) ∧ Kept (hown hb mb v) w w' := by
  obtain ⟨L, f, hr, hH, hM, hp⟩ := h.ex
  obtain ⟨n, hn⟩ : ∃ n, L.length = n := ⟨_, rfl⟩
  have hnS : n ≤ 100000 := by rw [← hn, hp.length_eq]; exact hS
  have hrow := own_up hr.rows h.row
  rw [hn] at hrow
  obtain ⟨av, cv, rfl⟩ := own_form' hrow
  have c0 := hr.head.cell (o := 0) rfl
  have c2 := hr.head.cell (o := 2) rfl
  have z0 := hr.head.frozen 0
  have z2 := hr.head.frozen 2
  obtain ⟨l1, hl1⟩ : ∃ l1, last + 1 = l1 := ⟨_, rfl⟩
  have hl1I : (last : Int) + 1 = (l1 : Int) := by omega
  have hl1b : l1 ≤ 1000001 := by omega
  have hbl := hr.head.lt
  have H := hid h
  have HR := hid hr
  have HROW := hid hrow
  have HL1 := hid hl1
  have HN := hid hn
  have HH := hid hH
  have HM := hid hM
  have HP := hid hp
  rw [hl1]
  clear h hr hrow hl1 hn hH hM hp hS
  go_enter Tryd.func22, Tryd.ntmps22
  go_wp2_with fail
  obtain ⟨ii, hi0, hz0, hz1, hz2⟩ := info_parts info_thing
  have HI0 := hid hi0
  have HZ0 := hid hz0
  have HZ1 := hid hz1
  have HZ2 := hid hz2
  clear hi0 hz0 hz1 hz2
  obtain ⟨w1, hw1⟩ : ∃ w1, w.setCell ⟨hb, 2, none⟩ (.int .i64 l1) = w1 := ⟨_, rfl⟩
  have hK1 : Kept [hb] w w1 := by rw [← hw1]; exact (Kept.refl _ _).setCell (.inl (by simp)) _
  have hB1 : Blk w1 hb [.slice av n cv, .map (some mb), .int .i64 l1] := by rw [← hw1]; exact HR.out.head.set 2 _
  have hbase1 : base ≤ w1.heap.size := Nat.le_trans H.out.low.2.2 hK1.size
  have HROW1 := hid (own_kept HROW.out hK1 (fun b hb1 hb2 => by
    rw [List.mem_singleton.1 hb2] at hb1
    exact HR.out.hv hb1))
  rw [hw1]
  have hbl1 := hB1.lt
  have c0 := hB1.cell (o := 0) rfl
  have c2 := hB1.cell (o := 2) rfl
  have z0 := hB1.frozen 0
  have HB1 := hid hB1
  have HK1 := hid hK1
  have HC := hid (fun (W W2 : World) (hW : Kept [] w1 W) (hg : W.grownBy W2 (Value.slice av n cv).ownBlock) => (show W2.cell? ⟨hb, 0, none⟩ = some (.slice av n cv) ∧ W2.frozen? ⟨hb, 0, none⟩ = false from by
    have hk2 : Kept (Value.slice av n cv).ownBlock.toList w1 W2 := (hW.nil).grown hg (fun k e => .inl (by rw [e]; simp))
    have hb2 := HB1.out.kept hk2 HR.out.hv
    exact ⟨hb2.cell (o := 0) rfl, hb2.frozen 0⟩))
  clear hw1 hK1 hB1 z2
  have HTOP := hid (fun (g cap : Nat) (W w2 : World) (hW : Kept [] w1 W) (hg : W.grownBy w2 (Value.slice av n cv).ownBlock) (hW2 : w2.ownsRow base 84 3 (.slice (some ⟨g, 0, none⟩) (n + 1) cap) (n + 1) (TV L ++ [.int .u64 d, .int .u64 x, .int .i64 l1])) (hat : (Value.slice av n cv).ownBlock = some g ∨ g = W.heap.size) =>
    (show HRaw (w2.setCell ⟨hb, 0, none⟩ (.slice (some ⟨g, 0, none⟩) (n + 1) cap)) hb mb (.slice (some ⟨g, 0, none⟩) (n + 1) cap) (L ++ [⟨d, x, l1⟩]) l1 f ∧ base ≤ g ∧ (g ∈ (Value.slice av n cv).ownBlock.toList ∨ w.heap.size ≤ g) ∧ Kept (hown hb mb (.slice av n cv)) w (w2.setCell ⟨hb, 0, none⟩ (.slice (some ⟨g, 0, none⟩) (n + 1) cap)) from by
      have hk2 : Kept (Value.slice av n cv).ownBlock.toList w1 w2 := (hW.nil).grown hg (fun k e => .inl (by rw [e]; simp))
      have hk3 : Kept (hb :: (Value.slice av n cv).ownBlock.toList) w w2 := (HK1.out.mono (by simp)).trans (hk2.mono (fun x hx => List.mem_cons_of_mem _ hx))
      refine ⟨HR.out.put (base := base) hk3 (HB1.out.kept hk2 HR.out.hv) (by rw [HN.out]; exact hW2) ⟨H.out.low.1, H.out.low.2.1⟩, own_ge hW2 g (by simp [Value.ownBlock]), ?_, ?_⟩
      · rcases hat with h1 | h1
        · exact .inl (by rw [h1]; simp)
        · exact .inr (by rw [h1]; exact Nat.le_trans HK1.out.size hW.size)
      refine (hk3.mono fun x hx => ?_).setCell (.inl (by simp [hown])) _
      unfold hown
      rcases List.mem_cons.1 hx with rfl | hx
      · simp
      · exact List.mem_cons_of_mem _ (List.mem_cons_of_mem _ hx)))
  go_cut [6] (fun s6 wx => s6 = .int .i64 0 ∧ ∃ g cap, HRaw wx hb mb (.slice (some ⟨g, 0, none⟩) (n + 1) cap) (L ++ [⟨d, x, l1⟩]) l1 f ∧ base ≤ g ∧ (g ∈ (Value.slice av n cv).ownBlock.toList ∨ w.heap.size ≤ g) ∧ Kept (hown hb mb (.slice av n cv)) w wx)
  case first =>
   go_region_law (refine step_append_lies _ rfl (.tmp 18) (.tmp 26) 80 rfl base 84 ii (.agg #[.int .u64 0, .int .u64 0, .int .i64 0]) 3 24 Tryd.underlying80 HI0.out HZ0.out HZ1.out HZ2.out rfl (by decide) (.slice av n cv) n (TV L) (by simp [Act.eval]) (own_keptN HROW1.out (((Kept.refl [] w1).alloc _).drew)) ⟨w1.heap.size, 0, none⟩ 1 1 [.int .u64 d, .int .u64 x, .int .i64 l1] (by simp [Act.eval]) rfl (fun j u hu => by rw [Addr.add_lit, Nat.zero_add]; exact (Blk.newA (w := w1) #[.int .u64 d, .int .u64 x, .int .i64 l1] 84 rfl).cell hu) (by simp [Value.oneCell']) (by decide) (by unfold maxLen; omega) (by omega) (by simp; omega) _ rfl ?_; intro g cap w2 hW2 hg2 hat hlt2; obtain ⟨e0, e1⟩ := HC.out _ _ (((Kept.refl [] w1).alloc _).drew) hg2)
   all_goals
    go_wp2_with fail
    go_meet
    exact ⟨rfl, _, _, HTOP.out _ _ _ _ (((Kept.refl [] w1).alloc _).drew) hg2 hW2 hat⟩
  case rest =>
    obtain ⟨rfl, g, cap, hR3, hg3, hgo, hK3⟩ := hcut
    have HGO := hid hgo
    clear hgo
    have c0' := hR3.head.cell (o := 0) rfl
    have HR3 := hid hR3
    have HK3 := hid hK3
    have hlen : (L ++ [(⟨d, x, l1⟩ : Th)]).length = n + 1 := by rw [List.length_append, HN.out]; rfl
    have hless : ∀ s, s ∈ L → s.h ≤ last := fun s hs => H.out.less s (HP.out.mem_iff.1 hs)
    have hndL : (L.map (·.h)).Nodup := (HP.out.map _).nodup_iff.2 H.out.nodup
    have hnd := nodup_put (t := (⟨d, x, l1⟩ : Th)) hndL hless HL1.out.symm
    have HND := hid hnd
    have hhp := hole_put HH.out (⟨d, x, l1⟩ : Th)
    have hmp := map_put HM.out (⟨d, x, l1⟩ : Th)
    rw [HN.out] at hhp hmp
    have HHP := hid hhp
    have hup := hid (up_ok (v := .slice (some ⟨g, 0, none⟩) (n + 1) cap) (i0 := n) hR3 (by omega) (by omega) hhp.1 hmp hnd (fun s hs => by
      rcases List.mem_append.1 hs with hs | hs
      · have := hless s hs; omega
      · have : s = ⟨d, x, l1⟩ := by simpa using hs
        rw [this]
        show l1 ≤ _
        omega))
    have hn1 : (n : Int) + 1 - 1 = (n : Int) := by omega
    clear hR3 hK3 hlen hless hndL hnd hhp hmp c0 c2 z0
    go_wp2_with fail
    refine hup.out.mono ?_
    rintro e w4 ⟨rfl, L', i', f', hR4, hp4, hi4, hti, hdn, hma, hkd, hK4⟩
    have c2' := hR4.head.cell (o := 2) rfl
    have HR4 := hid hR4
    have HK4 := hid hK4
    have HDN := hid hdn
    have HMA := hid hma
    have HKD := hid hkd
    have HP4 := hid hp4
    clear hR4 hK4 hdn hma hkd hp4 hi4 hti c0'
    go_wp2_with fail
    go_ret
    have hrow' : ∀ b, b ∈ (Value.slice (some ⟨g, 0, none⟩) (n + 1) cap).ownBlock.toList → base ≤ b := by simp [Value.ownBlock]; exact hg3
    have hbs := H.out.low.2.2
    refine ⟨rfl, .slice (some ⟨g, 0, none⟩) (n + 1) cap, ?_, ?_, ?_⟩
    · refine ⟨⟨L', f', HR4.out, heap_of HDN.out ?_, HMA.out, ?_⟩, ?_, ?_, ?_, ⟨H.out.low.1, H.out.low.2.1, Nat.le_trans hbs (Nat.le_trans HK3.out.size HK4.out.size)⟩, hrow'⟩
      · rcases HKD.out with h1 | ⟨rfl, rfl⟩
        · exact h1
        · exact HHP.out.2
      · exact (HP4.out.trans List.perm_append_comm).trans ((HP.out.cons _).trans (insT_perm _ _).symm)
      · exact insT_sorted _ _ H.out.sorted (fun s hs => by have := H.out.less s hs; show s.h ≠ l1; have := HL1.out; omega)
      · have h1 : (insT ⟨d, x, l1⟩ S).Perm (L ++ [⟨d, x, l1⟩]) := ((insT_perm _ _).trans (HP.out.symm.cons _)).trans (List.perm_append_comm (l₁ := [(⟨d, x, l1⟩ : Th)]) (l₂ := L))
        exact (h1.map _).nodup_iff.2 HND.out
      · intro s hs
        have h0 := HL1.out
        rcases List.mem_cons.1 ((insT_perm _ _).mem_iff.1 hs) with rfl | hs
        · exact Nat.le_refl _
        · have := H.out.less s hs
          omega
    · intro b hb1
      obtain rfl : b = g := by simp [Value.ownBlock] at hb1; omega
      exact HGO.out
    · refine HK3.out.trans' HK4.out fun b hb1 => ?_
      rcases List.mem_cons.1 hb1 with rfl | hb1
      · exact .inl (by simp [hown])
      rcases List.mem_cons.1 hb1 with rfl | hb1
      · exact .inl (by simp [hown])
      · obtain rfl : b = g := by simp [Value.ownBlock] at hb1; omega
        rcases HGO.out with h1 | h1
        · exact .inl (by unfold hown; exact List.mem_cons_of_mem _ (List.mem_cons_of_mem _ h1))
        · exact .inr h1

end Go.Proofs.YtcaikpfdhdbioaaDoor
