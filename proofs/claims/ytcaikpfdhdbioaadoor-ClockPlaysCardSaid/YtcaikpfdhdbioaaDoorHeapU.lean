/- package heap: up. -/
import Derived.Test.YtcaikpfdhdbioaaDoorHeap
namespace Go.Proofs.YtcaikpfdhdbioaaDoor
open Go Go.RowKit

theorem HRaw.cells {w : World} {hb mb g n cap : Nat} {L : List Th} {last : Nat} {f : Int → Option Value} (h : HRaw w hb mb (.slice (some ⟨g, 0, none⟩) n cap) L last f) (hn : L.length = n) {j : Nat} (hj : j < n) :
    w.cell? ⟨g, j * 3, none⟩ = some (.int .u64 (tat L j).d) ∧ w.cell? ⟨g, j * 3 + 1, none⟩ = some (.int .u64 (tat L j).x) ∧ w.cell? ⟨g, j * 3 + 2, none⟩ = some (.int .i64 (tat L j).h) := by
  have h3 := h.rows
  rw [hn] at h3
  obtain ⟨q0, q1, q2⟩ := TV_get0 (tat_get (V := L) (i := j) (by omega))
  exact ⟨own_cell h3 q0, own_cell h3 q1, own_cell h3 q2⟩
theorem HRaw.form {w : World} {hb mb : Nat} {v : Value} {L : List Th} {last : Nat} {f : Int → Option Value} (h : HRaw w hb mb v L last f) (hl : 0 < L.length) : ∃ g cap, v = .slice (some ⟨g, 0, none⟩) L.length cap := by
  obtain ⟨m, hm⟩ : ∃ m, L.length = m + 1 := ⟨L.length - 1, by omega⟩
  have h3 := h.rows
  rw [hm] at h3
  obtain ⟨g, cap, e, -⟩ := own_form h3
  exact ⟨g, cap, by rw [hm]; exact e⟩
theorem swp_of {M : List Th} {i p : Nat} (t : Th) (hi : i < M.length) (hp : p ≠ i) : swp (M.set i t) i p = (M.set i (tat M p)).set p t := by
  unfold swp
  rw [tat_set _ _ _ _ hi, tat_set _ _ _ _ hi, if_neg hp, if_pos rfl, List.set_set]

/-- What holds while one goes up. -/
structure UpI (w : World) (hb mb : Nat) (v : Value) (L : List Th) (last tb : Nat) (t : Th) (i0 : Nat) (wr : World) (i : Nat) (M : List Th) (fm : Int → Option Value) : Prop where
  raw : HRaw wr hb mb v M last fm
  len : M.length = L.length
  lt : i < L.length
  perm : (M.set i t).Perm L
  hole : Hole (M.set i t) i
  map : MapHole fm (M.set i t) i
  kids : Kids (M.set i t) i ∨ (M.set i t = L ∧ i = i0)
  blk : Blk wr tb (thV t)
  kept : Kept (hown hb mb v) w wr

/-- What up leaves. -/
def UpOut (w : World) (hb mb : Nat) (v : Value) (L : List Th) (last i0 : Nat) (w' : World) : Prop :=
  ∃ L' i' f', HRaw w' hb mb v L' last f' ∧ L'.Perm L ∧ i' < L.length ∧ tat L' i' = tat L i0 ∧ Dn L' i' ∧ MapAll f' L' ∧ (Kids L' i' ∨ (L' = L ∧ i' = i0)) ∧ Kept (hown hb mb v) w w'

theorem UpI.step {w : World} {hb mb : Nat} {v : Value} {L : List Th} {last tb : Nat} {t : Th} {i0 : Nat} {wr : World} {i : Nat} {M : List Th} {fm : Int → Option Value} (h : UpI w hb mb v L last tb t i0 wr i M fm) (hnd : (L.map (·.h)).Nodup) (htb : tb ∉ hown hb mb v)
    (h0 : 0 < i) (ha : Ah t (tat M ((i - 1) / 2))) {w' : World} (hr : HRaw w' hb mb v (M.set i (tat M ((i - 1) / 2))) last (upd fm (tat M ((i - 1) / 2)).h i)) (hk : Kept (hown hb mb v) wr w') :
    UpI w hb mb v L last tb t i0 w' ((i - 1) / 2) (M.set i (tat M ((i - 1) / 2))) (upd fm (tat M ((i - 1) / 2)).h i) := by
  obtain ⟨p, hp⟩ : ∃ p, (i - 1) / 2 = p := ⟨_, rfl⟩
  rw [hp] at ha hr ⊢
  have hlt := h.lt
  have hlen := h.len
  have hpi : p ≠ i := by omega
  have hiM : i < M.length := by omega
  have hV : (M.set i t).length = L.length := by simp [hlen]
  have e1 : tat (M.set i t) i = t := by rw [tat_set _ _ _ _ hiM, if_pos rfl]
  have e2 : tat (M.set i t) p = tat M p := by rw [tat_set _ _ _ _ hiM, if_neg hpi]
  have hup := hole_up (V := M.set i t) (by omega) h0 h.hole (by rw [hp, e1, e2]; exact ha)
  rw [hp, swp_of t hiM hpi] at hup
  have hinj := inj_of ((h.perm.map (·.h)).nodup_iff.2 hnd)
  have hm := map_swp h.map hinj (by omega) (show p < _ by omega) hpi
  rw [swp_of t hiM hpi, e2] at hm
  have hpm := swp_perm (M.set i t) i p (by omega) (by omega)
  rw [swp_of t hiM hpi] at hpm
  exact ⟨hr, by simp [hlen], by omega, hpm.trans h.perm, hup.1, hm, .inl hup.2, h.blk.kept hk htb, h.kept.trans hk⟩

theorem UpI.done {w : World} {hb mb : Nat} {v : Value} {L : List Th} {last tb : Nat} {i0 : Nat} {wr : World} {i : Nat} {M : List Th} {fm : Int → Option Value} (h : UpI w hb mb v L last tb (tat L i0) i0 wr i M fm) (hnd : (L.map (·.h)).Nodup)
    (hs : i = 0 ∨ ¬ Ah (tat L i0) (tat M ((i - 1) / 2))) {w' : World} (hr : HRaw w' hb mb v (M.set i (tat L i0)) last (upd fm (tat L i0).h i)) (hk : Kept (hown hb mb v) wr w') : UpOut w hb mb v L last i0 w' := by
  have hlt := h.lt
  have hlen := h.len
  have hiM : i < M.length := by omega
  have e1 : tat (M.set i (tat L i0)) i = tat L i0 := by rw [tat_set _ _ _ _ hiM, if_pos rfl]
  have hinj := inj_of ((h.perm.map (·.h)).nodup_iff.2 hnd)
  have hm := map_end h.map hinj (by simpa using hiM)
  rw [e1] at hm
  refine ⟨_, i, _, hr, h.perm, hlt, e1, hole_stop h.hole ?_, hm, h.kids, h.kept.trans hk⟩
  by_cases h0 : i = 0
  · exact .inl h0
  · right
    rw [e1, tat_set _ _ _ _ hiM, if_neg (by omega)]
    rcases hs with hs | hs
    · exact absurd hs h0
    · exact hs

set_option maxRecDepth 100000 in
set_option maxHeartbeats 2000000 in
theorem up_ok {w : World} {hb mb : Nat} {v : Value} {L : List Th} {last : Nat} {f : Int → Option Value} (h : HRaw w hb mb v L last f) (hl : L.length ≤ 1000000) {i0 : Nat} (hi : i0 < L.length) (hH : Hole L i0) (hM : MapHole f L i0) (hnd : (L.map (·.h)).Nodup) (hh : ∀ s, s ∈ L → s.h ≤ 9223372036854775807) :
    Calls Tryd.prog 31 #[.pointer (some ⟨hb, 0, none⟩), .int .i64 i0] w fun e w' => e = .returned (.tuple #[]) ∧ UpOut w hb mb v L last i0 w' := by
  obtain ⟨g, cap, hv⟩ := h.form (by omega)
  obtain ⟨n, hn⟩ : ∃ n, L.length = n := ⟨_, rfl⟩
  rw [hn] at hv hi hl
  subst hv
  obtain ⟨d0, d1, d2⟩ := h.cells hn hi
  have c0 := h.head.cell (o := 0) rfl
  have hgl : g < w.heap.size := by
    have := h.rows
    rw [hn] at this
    exact own_lt this
  have hbl := h.head.lt
  have hml : mb < w.heap.size := by
    obtain ⟨_, hm⟩ := h.map
    exact hm.lt
  have hi0 : (0 : Int) ≤ (i0 : Int) := by omega
  have hi1 : (i0 : Int) < (n : Int) := by omega
  obtain ⟨t, ht⟩ : ∃ t, tat L i0 = t := ⟨_, rfl⟩
  rw [ht] at d0 d1 d2
  have hst := hid (show UpI w hb mb (.slice (some ⟨g, 0, none⟩) n cap) L last w.heap.size t i0 (w.alloc (.cells #[.int .u64 t.d, .int .u64 t.x, .int .i64 t.h] 84)) i0 L f from by
    have e : L.set i0 t = L := by rw [← ht]; exact set_self (by omega)
    refine ⟨h.keptN ((Kept.refl _ _).alloc _), rfl, by omega, by rw [e], by rw [e]; exact hH, by rw [e]; exact hM, .inr ⟨e, rfl⟩, Blk.newA _ _ rfl, (Kept.refl _ _).alloc _⟩)
  have HN := hid hn
  have HT := hid ht
  have HND := hid hnd
  have HHH := hid hh
  have htb := hid (show w.heap.size ∉ hown hb mb (.slice (some ⟨g, 0, none⟩) n cap) by
    simp [hown, Value.ownBlock]
    omega)
  have hth := hid (show t.h ≤ 9223372036854775807 by rw [← ht]; exact hh _ (tat_mem (by omega)))
  clear h hn ht hnd hh hH hM
  go_enter Tryd.func31, Tryd.ntmps31
  go_wp2_with fail
  go_loopw [1] (fun s1 wr => ∃ (i : Nat) (M : List Th) (fm : Int → Option Value), s1 = .int .i64 i ∧ UpI w hb mb (.slice (some ⟨g, 0, none⟩) n cap) L last w.heap.size t i0 wr i M fm) (fun s1 _ => (intOf s1).toNat)
  case atStart => exact ⟨i0, L, f, rfl, hst.out⟩
  case round =>
    obtain ⟨i, M, fm, rfl, hU⟩ := hrel
    have HU := hid hU
    have hlt : i < n := by have := hU.lt; rw [HN.out] at this; exact this
    have hMn : M.length = n := by rw [hU.len]; exact HN.out
    have c0 := hU.raw.head.cell (o := 0) rfl
    have b0 := hU.blk.cell (o := 0) rfl
    have b1 := hU.blk.cell (o := 1) rfl
    have b2 := hU.blk.cell (o := 2) rfl
    have HLAY := hid (fun (W : World) (hW : Kept [] wr W) (x : Th) (hx : x.h ≤ 9223372036854775807) => lay_ok (hU.raw.keptN hW) (i := i) (by omega) x hx)
    by_cases h0 : i = 0
    · have hg : decide (0 < i) = false := decide_eq_false (by omega)
      have HZ := hid h0
      clear hU hMn h0
      go_wp2_with fail
      go_quiet (fail)
      rename_i nq
      obtain ⟨wq, hwq⟩ : ∃ wq, wr.drewN nq = wq := ⟨_, rfl⟩
      have hKq : Kept [] wr wq := by rw [← hwq]; exact (Kept.refl [] wr).drewN nq
      rw [hwq]
      have b0 := hKq.cellSome b0 (by simp)
      have b1 := hKq.cellSome b1 (by simp)
      have b2 := hKq.cellSome b2 (by simp)
      have HKq := hid hKq
      clear hKq hwq c0
      go_wp2_with fail
      refine (HLAY.out _ HKq.out t hth.out).mono ?_
      rintro e w2 ⟨rfl, hR2, hK2⟩
      have HR2 := hid hR2
      have HK2 := hid hK2
      clear hR2 hK2
      go_wp2_with fail
      go_end0
      refine ⟨rfl, ?_⟩
      obtain rfl := HT.out
      exact HU.out.done HND.out (.inl HZ.out) HR2.out (HKq.out.nil.trans HK2.out)
    · obtain ⟨k, hk⟩ : ∃ k, i = k + 1 := ⟨i - 1, by omega⟩
      obtain ⟨p, hp⟩ : ∃ p, (i - 1) / 2 = p := ⟨_, rfl⟩
      have hg : decide (0 < i) = true := decide_eq_true (by omega)
      have hk1 : (i : Int) - 1 = (k : Int) := by omega
      have hk2 : (k : Int).tdiv 2 = (p : Int) := by rw [Int.tdiv_eq_ediv_of_nonneg (by omega)]; omega
      have hk3 : (k : Int) / 2 = (p : Int) := by omega
      have hkn : k < 1000000 := by omega
      have hpn : p < n := by omega
      have hpi : p < i := by omega
      have hp0 : (0 : Int) ≤ (p : Int) := by omega
      have hp1 : (p : Int) < (n : Int) := by omega
      obtain ⟨d0, d1, d2⟩ := hU.raw.cells hMn hpn
      have HP := hid hp
      have hkk := hid hk
      have HMN := hid hMn
      obtain ⟨b, hb'⟩ : ∃ b, tat M p = b := ⟨_, rfl⟩
      rw [hb'] at d0 d1 d2
      have HB := hid hb'
      have hbh := hid (show b.h ≤ 9223372036854775807 by
        rw [← hb']
        have e : tat (M.set i t) p = tat M p := by rw [tat_set _ _ _ _ (by omega), if_neg (by omega)]
        rw [← e]
        exact HHH.out _ (hU.perm.mem_iff.1 (tat_mem (by rw [List.length_set]; omega))))
      have hbl' := hU.kept.size
      clear hU hp hk hMn hb'
      go_wp2_with fail
      have hw1 : IntKind.i64.wrap (k : Int) = (k : Int) := IntWalk.i64_in _ ⟨by omega, by omega⟩
      have hw2 : IntKind.i64.wrap (p : Int) = (p : Int) := IntWalk.i64_in _ ⟨by omega, by omega⟩
      go_still_tail 13, (by kernel_rfl)
      clear hw1 hw2
      change wpList _ _ _ _ _ wr.drew
      obtain ⟨wq, hwq⟩ : ∃ wq, wr.drew = wq := ⟨_, rfl⟩
      have hKq : Kept [] wr wq := by rw [← hwq]; exact (Kept.refl [] wr).drew
      rw [hwq]
      have HKq := hid hKq
      clear hKq hwq
      go_wp2_with fail
      refine (ahead_ok t b _).mono ?_
      rintro e w1 ⟨rfl, hK1⟩
      have hKa := HKq.out.trans hK1
      have c0 := hKa.cellSome c0 (by simp)
      have b0 := hKa.cellSome b0 (by simp)
      have b1 := hKa.cellSome b1 (by simp)
      have b2 := hKa.cellSome b2 (by simp)
      have d0 := hKa.cellSome d0 (by simp)
      have d1 := hKa.cellSome d1 (by simp)
      have d2 := hKa.cellSome d2 (by simp)
      have HKa := hid hKa
      clear hKa hK1
      by_cases ha : Ah t b
      · have HA := hid ha
        rw [ahB_true ha]
        clear ha
        go_wp2_with fail
        refine (HLAY.out _ HKa.out b hbh.out).mono ?_
        rintro e w2 ⟨rfl, hR2, hK2⟩
        have hS := HU.out.step HND.out htb.out (by omega) (by rw [HP.out, HB.out]; exact HA.out) (by rw [HP.out, HB.out]; exact hR2) (HKa.out.nil.trans hK2)
        rw [HP.out, HB.out] at hS
        have HS := hid hS
        clear hR2 hK2 hS
        go_wp2_with fail
        go_roundw
        case rel => exact ⟨p, _, _, by go_num, HS.out⟩
        case measure => simp [intOf]; omega
      · have HA := hid ha
        rw [ahB_false ha]
        clear ha
        go_wp2_with fail
        refine (HLAY.out _ HKa.out t hth.out).mono ?_
        rintro e w2 ⟨rfl, hR2, hK2⟩
        have HR2 := hid hR2
        have HK2 := hid hK2
        clear hR2 hK2
        go_wp2_with fail
        go_end0
        refine ⟨rfl, ?_⟩
        obtain rfl := HT.out
        exact HU.out.done HND.out (.inr (by rw [HP.out, HB.out]; exact HA.out)) HR2.out (HKa.out.nil.trans HK2.out)

end Go.Proofs.YtcaikpfdhdbioaaDoor
