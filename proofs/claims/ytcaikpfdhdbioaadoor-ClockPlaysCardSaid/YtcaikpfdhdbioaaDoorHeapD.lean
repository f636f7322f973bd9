/- package heap: down. -/
import Derived.Test.YtcaikpfdhdbioaaDoorHeapU
import Derived.Deep.DeepCutAuto
import Derived.Deep.CutBlock
namespace Go.Proofs.YtcaikpfdhdbioaaDoor
open Go Go.RowKit

/-- The earlier one of a place's children. -/
def Best (M : List Th) (n i c : Nat) : Prop := c < n ∧ 0 < c ∧ (c - 1) / 2 = i ∧ ∀ j, j < n → 0 < j → (j - 1) / 2 = i → ¬ Ah (tat M j) (tat M c)
theorem best_one {M : List Th} {n i : Nat} (h : 2 * i + 1 < n) (h2 : ¬ 2 * i + 1 + 1 < n) : Best M n i (2 * i + 1) := by
  refine ⟨h, by omega, by omega, fun j hj h0 e => ?_⟩
  obtain rfl : j = 2 * i + 1 := by omega
  unfold Ah; omega
theorem best_left {M : List Th} {n i : Nat} (h : 2 * i + 1 < n) (ha : ¬ Ah (tat M (2 * i + 1 + 1)) (tat M (2 * i + 1))) : Best M n i (2 * i + 1) := by
  refine ⟨h, by omega, by omega, fun j hj h0 e => ?_⟩
  rcases (show j = 2 * i + 1 ∨ j = 2 * i + 1 + 1 by omega) with rfl | rfl
  · unfold Ah; omega
  · exact ha
theorem best_right {M : List Th} {n i : Nat} (h : 2 * i + 1 + 1 < n) (ha : Ah (tat M (2 * i + 1 + 1)) (tat M (2 * i + 1))) : Best M n i (2 * i + 1 + 1) := by
  refine ⟨h, by omega, by omega, fun j hj h0 e => ?_⟩
  rcases (show j = 2 * i + 1 ∨ j = 2 * i + 1 + 1 by omega) with rfl | rfl
  · unfold Ah at *; omega
  · unfold Ah; omega

/-- What holds while one goes down. -/
structure DnI (w : World) (hb mb : Nat) (v : Value) (L : List Th) (last tb : Nat) (t : Th) (wr : World) (i : Nat) (M : List Th) (fm : Int → Option Value) : Prop where
  raw : HRaw wr hb mb v M last fm
  len : M.length = L.length
  lt : i < L.length
  perm : (M.set i t).Perm L
  dn : Dn (M.set i t) i
  map : MapHole fm (M.set i t) i
  blk : Blk wr tb (thV t)
  kept : Kept (hown hb mb v) w wr

/-- What down leaves. -/
def DnOut (w : World) (hb mb : Nat) (v : Value) (L : List Th) (last : Nat) (w' : World) : Prop :=
  ∃ L' f', HRaw w' hb mb v L' last f' ∧ L'.Perm L ∧ HeapL L' ∧ MapAll f' L' ∧ Kept (hown hb mb v) w w'

theorem DnI.step {w : World} {hb mb : Nat} {v : Value} {L : List Th} {last tb : Nat} {t : Th} {wr : World} {i : Nat} {M : List Th} {fm : Int → Option Value} (h : DnI w hb mb v L last tb t wr i M fm) (hnd : (L.map (·.h)).Nodup) (htb : tb ∉ hown hb mb v)
    {c : Nat} (hbst : Best M L.length i c) (ha : Ah (tat M c) t) {w' : World} (hr : HRaw w' hb mb v (M.set i (tat M c)) last (upd fm (tat M c).h i)) (hk : Kept (hown hb mb v) wr w') :
    DnI w hb mb v L last tb t w' c (M.set i (tat M c)) (upd fm (tat M c).h i) := by
  obtain ⟨hc1, hc2, hc3, hc4⟩ := hbst
  have hlt := h.lt
  have hlen := h.len
  have hci : c ≠ i := by omega
  have hiM : i < M.length := by omega
  have hV : (M.set i t).length = L.length := by simp [hlen]
  have e1 : tat (M.set i t) i = t := by rw [tat_set _ _ _ _ hiM, if_pos rfl]
  have e2 : ∀ j, j ≠ i → tat (M.set i t) j = tat M j := fun j hj => by rw [tat_set _ _ _ _ hiM, if_neg hj]
  have hdn := dn_down (V := M.set i t) (i := i) (k := c) (by omega) hc2 hc3 h.dn (fun j hj h0 e => by rw [e2 j (by omega), e2 c hci]; exact hc4 j (by omega) h0 e) (by rw [e1, e2 c hci]; exact ha)
  rw [swp_of t hiM hci] at hdn
  have hinj := inj_of ((h.perm.map (·.h)).nodup_iff.2 hnd)
  have hm := map_swp h.map hinj (by omega) (show c < _ by omega) hci
  rw [swp_of t hiM hci, e2 c hci] at hm
  have hpm := swp_perm (M.set i t) i c (by omega) (by omega)
  rw [swp_of t hiM hci] at hpm
  exact ⟨hr, by simp [hlen], by omega, hpm.trans h.perm, hdn, hm, h.blk.kept hk htb, h.kept.trans hk⟩

theorem DnI.done {w : World} {hb mb : Nat} {v : Value} {L : List Th} {last tb : Nat} {t : Th} {wr : World} {i : Nat} {M : List Th} {fm : Int → Option Value} (h : DnI w hb mb v L last tb t wr i M fm) (hnd : (L.map (·.h)).Nodup)
    (hs : L.length ≤ 2 * i + 1 ∨ ∃ c, Best M L.length i c ∧ ¬ Ah (tat M c) t) {w' : World} (hr : HRaw w' hb mb v (M.set i t) last (upd fm t.h i)) (hk : Kept (hown hb mb v) wr w') : DnOut w hb mb v L last w' := by
  have hlt := h.lt
  have hlen := h.len
  have hiM : i < M.length := by omega
  have hV : (M.set i t).length = L.length := by simp [hlen]
  have e1 : tat (M.set i t) i = t := by rw [tat_set _ _ _ _ hiM, if_pos rfl]
  have e2 : ∀ j, j ≠ i → tat (M.set i t) j = tat M j := fun j hj => by rw [tat_set _ _ _ _ hiM, if_neg hj]
  have hinj := inj_of ((h.perm.map (·.h)).nodup_iff.2 hnd)
  have hm := map_end h.map hinj (by simpa using hiM)
  rw [e1] at hm
  refine ⟨_, _, hr, h.perm, heap_of h.dn ?_, hm, h.kept.trans hk⟩
  rcases hs with hs | ⟨c, ⟨hc1, hc2, hc3, hc4⟩, hn⟩
  · exact kids_none (by omega)
  · exact kids_stop (k := c) (fun j hj h0 e => by rw [e2 j (by omega), e2 c (by omega)]; exact hc4 j (by omega) h0 e) (by rw [e1, e2 c (by omega)]; exact hn)

set_option maxRecDepth 100000 in
set_option maxHeartbeats 4000000 in
theorem down_ok {w : World} {hb mb : Nat} {v : Value} {L : List Th} {last : Nat} {f : Int → Option Value} (h : HRaw w hb mb v L last f) (hl : L.length ≤ 1000000) {i0 : Nat} (hi : i0 < L.length) (hH : Dn L i0) (hM : MapHole f L i0) (hnd : (L.map (·.h)).Nodup) (hh : ∀ s, s ∈ L → s.h ≤ 9223372036854775807) :
    Calls Tryd.prog 38 #[.pointer (some ⟨hb, 0, none⟩), .int .i64 i0] w fun e w' => e = .returned (.tuple #[]) ∧ DnOut w hb mb v L last w' := by
  obtain ⟨g, cap, hv⟩ := h.form (by omega)
  obtain ⟨n, hn⟩ : ∃ n, L.length = n := ⟨_, rfl⟩
  rw [hn] at hv hi hl
  subst hv
  obtain ⟨d0, d1, d2⟩ := h.cells hn hi
  have c0 := h.head.cell (o := 0) rfl
  have hgl : g < w.heap.size := by
    have := h.rows
    rw [hn] at this
    exact own_lt this
  have hbl := h.head.lt
  have hml : mb < w.heap.size := by
    obtain ⟨_, hm⟩ := h.map
    exact hm.lt
  have hi0 : (0 : Int) ≤ (i0 : Int) := by omega
  have hi1 : (i0 : Int) < (n : Int) := by omega
  obtain ⟨t, ht⟩ : ∃ t, tat L i0 = t := ⟨_, rfl⟩
  rw [ht] at d0 d1 d2
  have hst := hid (show DnI w hb mb (.slice (some ⟨g, 0, none⟩) n cap) L last w.heap.size t (w.alloc (.cells #[.int .u64 t.d, .int .u64 t.x, .int .i64 t.h] 84)) i0 L f from by
    have e : L.set i0 t = L := by rw [← ht]; exact set_self (by omega)
    refine ⟨h.keptN ((Kept.refl _ _).alloc _), rfl, by omega, by rw [e], by rw [e]; exact hH, by rw [e]; exact hM, Blk.newA _ _ rfl, (Kept.refl _ _).alloc _⟩)
  have HN := hid hn
  have HND := hid hnd
  have HHH := hid hh
  have htb := hid (show w.heap.size ∉ hown hb mb (.slice (some ⟨g, 0, none⟩) n cap) by
    simp [hown, Value.ownBlock]
    omega)
  have hth := hid (show t.h ≤ 9223372036854775807 by rw [← ht]; exact hh _ (tat_mem (by omega)))
  clear h hn ht hnd hh hH hM
  go_enter Tryd.func38, Tryd.ntmps38
  go_wp2_with fail
  go_loopw [1] (fun s1 wr => ∃ (i : Nat) (M : List Th) (fm : Int → Option Value), s1 = .int .i64 i ∧ DnI w hb mb (.slice (some ⟨g, 0, none⟩) n cap) L last w.heap.size t wr i M fm) (fun s1 _ => n - (intOf s1).toNat)
  case atStart => exact ⟨i0, L, f, rfl, hst.out⟩
  case round =>
    obtain ⟨i, M, fm, rfl, hU⟩ := hrel
    have HU := hid hU
    have hlt : i < n := by have := hU.lt; rw [HN.out] at this; exact this
    have hMn : M.length = n := by rw [hU.len]; exact HN.out
    have c0 := hU.raw.head.cell (o := 0) rfl
    have b0 := hU.blk.cell (o := 0) rfl
    have b1 := hU.blk.cell (o := 1) rfl
    have b2 := hU.blk.cell (o := 2) rfl
    have HLAY := hid (fun (W : World) (hW : Kept [] wr W) (x : Th) (hx : x.h ≤ 9223372036854775807) => lay_ok (hU.raw.keptN hW) (i := i) (by omega) x hx)
    have HCELL := hid (fun (j : Nat) (hj : j < n) => hU.raw.cells hMn hj)
    have HHB := hid (fun (j : Nat) (hj : j < n) (hji : j ≠ i) => (show (tat M j).h ≤ 9223372036854775807 by
      have e : tat (M.set i t) j = tat M j := by rw [tat_set _ _ _ _ (by omega), if_neg hji]
      rw [← e]
      exact HHH.out _ (hU.perm.mem_iff.1 (tat_mem (by rw [List.length_set]; omega)))))
    obtain ⟨k, hk⟩ : ∃ k, 2 * i + 1 = k := ⟨_, rfl⟩
    have hk1 : 2 * (i : Int) + 1 = (k : Int) := by omega
    have hki : k ≤ 3000000 := by omega
    have HK0 := hid hk
    clear hU hMn hk
    by_cases hkn : k < n
    · obtain ⟨c1, hc1⟩ : ∃ c1, k + 1 = c1 := ⟨_, rfl⟩
      have hc1I : (k : Int) + 1 = (c1 : Int) := by omega
      have HC1 := hid hc1
      clear hc1
      go_upto_region 3 with fail
      go_cut [50] (fun s50 wx => ∃ bb : Bool, s50 = .bool bb ∧ Best M n i (if bb then c1 else k) ∧ Kept [] wr wx)
      case first =>
        obtain ⟨d0, d1, d2⟩ := HCELL.out k hkn
        obtain ⟨bk, hbk⟩ : ∃ b, tat M k = b := ⟨_, rfl⟩
        rw [hbk] at d0 d1 d2
        have HBK := hid hbk
        clear hbk
        have hk0 : (0 : Int) ≤ (k : Int) := by omega
        have hkI : (k : Int) < (n : Int) := by omega
        have hw1 : IntKind.i64.wrap (c1 : Int) = (c1 : Int) := IntWalk.i64_in _ ⟨by omega, by omega⟩
        by_cases hcn : c1 < n
        · obtain ⟨e0, e1, e2⟩ := HCELL.out c1 hcn
          obtain ⟨bc, hbc⟩ : ∃ b, tat M c1 = b := ⟨_, rfl⟩
          rw [hbc] at e0 e1 e2
          have HBC := hid hbc
          clear hbc
          have hc0 : (0 : Int) ≤ (c1 : Int) := by omega
          have hcI : (c1 : Int) < (n : Int) := by omega
          have hg : decide (c1 < n) = true := decide_eq_true hcn
          go_wp2_with fail
          go_still_tail 24, (by kernel_rfl)
          change wpList _ _ _ _ _ wr.drew
          obtain ⟨wq, hwq⟩ : ∃ wq, wr.drew = wq := ⟨_, rfl⟩
          have HKq := hid (show Kept [] wr wq by rw [← hwq]; exact (Kept.refl [] wr).drew)
          rw [hwq]
          clear hwq hw1
          go_wp2_with fail
          refine (ahead_ok bc bk _).mono ?_
          rintro e w1 ⟨rfl, hK1⟩
          have HKa := hid (HKq.out.trans hK1)
          clear hK1
          by_cases ha : Ah bc bk
          · have HA := hid ha
            rw [ahB_true ha]
            clear ha
            go_wp2_with fail
            go_meet
            refine ⟨true, rfl, ?_, HKa.out⟩
            rw [if_pos rfl]
            have h1 := HK0.out
            have h2 := HC1.out
            subst h1
            subst h2
            exact best_right hcn (by rw [HBC.out, HBK.out]; exact HA.out)
          · have HA := hid ha
            rw [ahB_false ha]
            clear ha
            go_wp2_with fail
            go_meet
            refine ⟨false, rfl, ?_, HKa.out⟩
            rw [if_neg Bool.false_ne_true]
            have h1 := HK0.out
            have h2 := HC1.out
            subst h1
            subst h2
            exact best_left hkn (by rw [HBC.out, HBK.out]; exact HA.out)
        · have hg : decide (c1 < n) = false := decide_eq_false hcn
          go_wp2_with fail
          go_quiet (fail)
          rename_i nq
          have HKq := hid ((Kept.refl [] wr).drewN nq)
          clear hw1
          go_wp2_with fail
          go_meet
          refine ⟨false, rfl, ?_, HKq.out⟩
          rw [if_neg Bool.false_ne_true]
          have h1 := HK0.out
          have h2 := HC1.out
          subst h1
          subst h2
          exact best_one hkn hcn
      case rest =>
        obtain ⟨bb, rfl, hbest0, hKx⟩ := hcut
        have HBEST0 := hid hbest0
        have HKX := hid hKx
        clear hbest0 hKx
        go_upto_if 50 with fail
        go_cut [5] (fun s5 wy => ∃ c : Nat, s5 = .int .i64 c ∧ Best M n i c ∧ Kept [] wr wy)
        case first =>
          cases bb
          · go_wp2_with fail
            go_meet
            exact ⟨k, by go_num, by simpa using HBEST0.out, HKX.out⟩
          · go_wp2_with fail
            go_meet
            exact ⟨c1, by go_num, by simpa using HBEST0.out, HKX.out⟩
        case rest =>
        obtain ⟨c, rfl, hbest, hKx⟩ := hcut
        obtain ⟨hc1', hc2', hc3', -⟩ := id hbest
        clear HBEST0 HKX
        obtain ⟨d0, d1, d2⟩ := HCELL.out c hc1'
        have hic : i < c := by omega
        have hhb := hid (HHB.out c hc1' (Nat.ne_of_gt hic))
        obtain ⟨b, hb'⟩ : ∃ b, tat M c = b := ⟨_, rfl⟩
        rw [hb'] at d0 d1 d2 hhb
        have HB := hid hb'
        have HBEST := hid hbest
        have HKX := hid hKx
        have c0 := hKx.cellSome c0 (by simp)
        have b0 := hKx.cellSome b0 (by simp)
        have b1 := hKx.cellSome b1 (by simp)
        have b2 := hKx.cellSome b2 (by simp)
        have d0 := hKx.cellSome d0 (by simp)
        have d1 := hKx.cellSome d1 (by simp)
        have d2 := hKx.cellSome d2 (by simp)
        have hc0 : (0 : Int) ≤ (c : Int) := by omega
        have hcI : (c : Int) < (n : Int) := by omega
        clear hbest hKx hb' hc2' hc3'
        go_wp2_with fail
        go_still_tail 8, (by kernel_rfl)
        change wpList _ _ _ _ _ wc.drew
        obtain ⟨wq, hwq⟩ : ∃ wq, wc.drew = wq := ⟨_, rfl⟩
        have HKq := hid (show Kept [] wr wq by rw [← hwq]; exact HKX.out.drew)
        rw [hwq]
        have hKq2 : Kept [] wc wq := by rw [← hwq]; exact (Kept.refl [] wc).drew
        have c0 := hKq2.cellSome c0 (by simp)
        have d0 := hKq2.cellSome d0 (by simp)
        have d1 := hKq2.cellSome d1 (by simp)
        have d2 := hKq2.cellSome d2 (by simp)
        have b0 := hKq2.cellSome b0 (by simp)
        have b1 := hKq2.cellSome b1 (by simp)
        have b2 := hKq2.cellSome b2 (by simp)
        clear hwq hKq2
        go_wp2_with fail
        refine (ahead_ok b t _).mono ?_
        rintro e w1 ⟨rfl, hK1⟩
        have c0 := hK1.cellSome c0 (by simp)
        have b0 := hK1.cellSome b0 (by simp)
        have b1 := hK1.cellSome b1 (by simp)
        have b2 := hK1.cellSome b2 (by simp)
        have d0 := hK1.cellSome d0 (by simp)
        have d1 := hK1.cellSome d1 (by simp)
        have d2 := hK1.cellSome d2 (by simp)
        have HKa := hid (HKq.out.trans hK1)
        clear hK1
        by_cases ha : Ah b t
        · have HA := hid ha
          rw [ahB_true ha]
          clear ha
          go_wp2_with fail
          refine (HLAY.out _ HKa.out b hhb.out).mono ?_
          rintro e w2 ⟨rfl, hR2, hK2⟩
          have hS := HU.out.step HND.out htb.out (c := c) (by rw [HN.out]; exact HBEST.out) (by rw [HB.out]; exact HA.out) (by rw [HB.out]; exact hR2) (HKa.out.nil.trans hK2)
          rw [HB.out] at hS
          have HS := hid hS
          clear hR2 hK2 hS
          go_wp2_with fail
          go_roundw
          case rel => exact ⟨c, _, _, by go_num, HS.out⟩
          case measure => simp [intOf]; omega
        · have HA := hid ha
          rw [ahB_false ha]
          clear ha
          go_wp2_with fail
          refine (HLAY.out _ HKa.out t hth.out).mono ?_
          rintro e w2 ⟨rfl, hR2, hK2⟩
          have HR2 := hid hR2
          have HK2 := hid hK2
          clear hR2 hK2
          go_wp2_with fail
          go_end0
          exact ⟨rfl, HU.out.done HND.out (.inr ⟨c, by rw [HN.out]; exact HBEST.out, by rw [HB.out]; exact HA.out⟩) HR2.out (HKa.out.nil.trans HK2.out)⟩
    · have hkn' : ¬ (k : Int) < (n : Int) := by omega
      clear hkn
      go_wp2_with fail
      refine (HLAY.out _ (Kept.refl _ _) t hth.out).mono ?_
      rintro e w2 ⟨rfl, hR2, hK2⟩
      have HR2 := hid hR2
      have HK2 := hid hK2
      clear hR2 hK2
      go_wp2_with fail
      go_end0
      exact ⟨rfl, HU.out.done HND.out (.inl (by have := HK0.out; rw [HN.out]; omega)) HR2.out HK2.out⟩

end Go.Proofs.YtcaikpfdhdbioaaDoor
