/- package waitq: Take, Move, Has: contracts. -/
import Derived.Test.YtenahekdhepnfaaDoorWaitF
namespace Go.Proofs.YtenahekdhepnfaaDoor
open Go Go.RowKit

theorem Kept.drawn {S : List Nat} {w w' : World} (h : ∃ m, w' = w.drewN m) : Kept S w w' := by
  obtain ⟨m, rfl⟩ := h
  exact (Kept.refl _ _).drewN m
theorem SlpBlk.c0 {w : World} {s : Slp} (h : SlpBlk w s) : w.cell? ⟨s.blk, 0, none⟩ = some (.int .u64 s.id) := by
  obtain ⟨x, y, h⟩ := h
  exact h.cell rfl
theorem WaitsAt.slp {w : World} {qb lb mb n : Nat} {Q : List Slp} (h : WaitsAt w qb lb mb n Q) {s : Slp} (hs : s ∈ Q) : SlpBlk w s := by
  obtain ⟨i, hi⟩ := bks_of (n := n) hs
  exact ⟨_, _, h.lists.each _ _ _ hi⟩

theorem has_ok {w : World} {qb lb mb n : Nat} {Q : List Slp} (h : WaitsAt w qb lb mb n Q) (addr mask : Nat) (hm : mask < 18446744073709551616) :
    Calls Tryd.prog 32 #[.pointer (some ⟨qb, 0, none⟩), .int .u64 addr, .int .u64 mask] w fun e w' => e = .returned (.bool (Q.find? (fits addr mask false)).isSome) ∧ Kept [] w w' := by
  have HF := hid (first_ok h addr mask false hm)
  clear h
  cases hq : Q.find? (fits addr mask false) with
  | none =>
    rw [hq] at HF
    clear hq
    go_enter Tryd.func32, Tryd.ntmps32
    go_wp2_with fail
    refine HF.out.mono ?_
    rintro e w' ⟨rfl, hw⟩
    have HW := hid (Kept.drawn (S := []) hw)
    simp only [lnk.eq_1]
    clear hw
    go_wp2_with fail
    go_ret
    exact ⟨rfl, HW.out⟩
  | some s =>
    rw [hq] at HF
    clear hq
    go_enter Tryd.func32, Tryd.ntmps32
    go_wp2_with fail
    refine HF.out.mono ?_
    rintro e w' ⟨rfl, hw⟩
    have HW := hid (Kept.drawn (S := []) hw)
    simp only [lnk.eq_2]
    clear hw
    go_wp2_with fail
    go_ret
    exact ⟨rfl, HW.out⟩

theorem take_none {w : World} {qb lb mb n : Nat} {Q : List Slp} (h : WaitsAt w qb lb mb n Q) (addr mask : Nat) (hm : mask < 18446744073709551616) (hq : Q.find? (fits addr mask false) = none) :
    Calls Tryd.prog 24 #[.pointer (some ⟨qb, 0, none⟩), .int .u64 addr, .int .u64 mask] w fun e w' => e = .returned (.tuple #[.int .u64 0, .bool false]) ∧ Kept [] w w' := by
  have HF := hid (first_ok h addr mask false hm)
  rw [hq] at HF
  clear h hq
  go_enter Tryd.func24, Tryd.ntmps24
  go_wp2_with fail
  refine HF.out.mono ?_
  rintro e w' ⟨rfl, hw⟩
  have HW := hid (Kept.drawn (S := []) hw)
  simp only [lnk.eq_1]
  clear hw
  go_wp2_with fail
  go_ret2
  exact ⟨rfl, HW.out⟩

set_option maxRecDepth 100000 in
set_option maxHeartbeats 2000000 in
theorem take_some {w : World} {qb lb mb n : Nat} {Q : List Slp} (h : WaitsAt w qb lb mb n Q) (addr mask : Nat) (hm : mask < 18446744073709551616) {s : Slp} (hq : Q.find? (fits addr mask false) = some s) :
    Calls Tryd.prog 24 #[.pointer (some ⟨qb, 0, none⟩), .int .u64 addr, .int .u64 mask] w fun e w' => e = .returned (.tuple #[.int .u64 s.id, .bool true]) ∧ WaitsAt w' qb lb mb n (rem Q s.id) ∧ Kept (owned lb mb Q) w w' := by
  have HF := hid (first_ok h addr mask false hm)
  rw [hq] at HF
  have hs := hid (List.mem_of_find?_eq_some hq)
  have H := hid h
  clear h hq
  go_enter Tryd.func24, Tryd.ntmps24
  go_wp2_with fail
  refine HF.out.mono ?_
  rintro e w1 ⟨rfl, hw⟩
  have HW := hid (Kept.drawn (S := []) hw)
  have H1 := hid (H.out.keptN HW.out)
  have d0 := (H1.out.slp hs.out).c0
  simp only [lnk.eq_2]
  clear hw
  go_wp2_with fail
  go_region_held3 (fun w' => w'.cell? ⟨s.blk, 0, none⟩ = some (.int .u64 s.id)) (first | exact d0 | exact hS2.c0) (first | (go_at_call 17; refine (drop_some (H1.out.keptN ((Kept.refl [] _).drew)) hs.out).mono ?_; rintro e w2 ⟨rfl, hW2, hS2, hK2⟩))
  have HW2 := hid hW2
  have HK2 := hid (((Kept.refl (owned lb mb Q) w1).drew).trans hK2)
  clear hW2 hS2 hK2
  go_wp2_with fail
  go_ret2
  exact ⟨rfl, HW2.out, HW.out.nil.trans HK2.out⟩

theorem move_none {w : World} {qb lb mb n : Nat} {Q : List Slp} (h : WaitsAt w qb lb mb n Q) (from' to : Nat) (hq : Q.find? (fits from' 0 true) = none) :
    Calls Tryd.prog 25 #[.pointer (some ⟨qb, 0, none⟩), .int .u64 from', .int .u64 to] w fun e w' => e = .returned (.tuple #[.int .u64 0, .bool false]) ∧ Kept [] w w' := by
  have HF := hid (first_ok h from' 0 true (by omega))
  rw [hq] at HF
  clear h hq
  go_enter Tryd.func25, Tryd.ntmps25
  go_wp2_with fail
  refine HF.out.mono ?_
  rintro e w' ⟨rfl, hw⟩
  have HW := hid (Kept.drawn (S := []) hw)
  simp only [lnk.eq_1]
  clear hw
  go_wp2_with fail
  go_ret2
  exact ⟨rfl, HW.out⟩

set_option maxRecDepth 100000 in
set_option maxHeartbeats 2000000 in
theorem move_some {w : World} {qb lb mb n : Nat} {Q : List Slp} (h : WaitsAt w qb lb mb n Q) (from' to : Nat) {s : Slp} (hq : Q.find? (fits from' 0 true) = some s) :
    Calls Tryd.prog 25 #[.pointer (some ⟨qb, 0, none⟩), .int .u64 from', .int .u64 to] w fun e w' => e = .returned (.tuple #[.int .u64 s.id, .bool true]) ∧ WaitsAt w' qb lb mb n (rem Q s.id ++ [{ s with addr := to }]) ∧ Kept (owned lb mb Q) w w' := by
  have HF := hid (first_ok h from' 0 true (by omega))
  rw [hq] at HF
  have hs := hid (List.mem_of_find?_eq_some hq)
  have H := hid h
  clear h hq
  go_enter Tryd.func25, Tryd.ntmps25
  go_wp2_with fail
  refine HF.out.mono ?_
  rintro e w1 ⟨rfl, hw⟩
  have HW := hid (Kept.drawn (S := []) hw)
  have H1 := hid (H.out.keptN HW.out)
  obtain ⟨i, hi⟩ := bks_of (n := n) hs.out
  have HI := hid hi
  have HU := hid (unlink_ok H1.out.lists s _ i hi rfl (bktN_lt s.addr H1.out.lists.pos))
  simp only [lnk.eq_2]
  clear hw hi
  go_wp2_with fail
  refine HU.out.mono ?_
  rintro e w2 ⟨rfl, hL2, hS2, hK2⟩
  obtain ⟨x2, y2, hB2⟩ := hS2
  have e1 := hB2.cell (o := 1) rfl
  have f1 := hB2.frozen 1
  have hB3 : Blk (w2.setCell ⟨s.blk, 1, none⟩ (.int .u64 to)) s.blk [.int .u64 s.id, .int .u64 to, .int .u64 s.mask, x2, y2] := hB2.set 1 _
  have hfs := H.out.lists.far _ _ _ HI.out
  have hnot : ∀ (k j : Nat) (t : Slp), (outOf (bks Q n) (bktN s.addr n) i k)[j]? = some t → t.blk ≠ s.blk := by
    intro k j t ht e
    have h1 := H.out.lists.inj _ _ _ _ _ _ (outOf_get ht) HI.out e
    obtain ⟨rfl, h2⟩ := h1
    unfold was at h2
    split at h2
    · omega
    · rename_i h3
      exact h3 ⟨rfl, by omega⟩
  have hL3 := hL2.kept ((Kept.refl [s.blk] w2).setCell (p := ⟨s.blk, 1, none⟩) (.inl (by simp)) (.int .u64 to)) (by simpa using hfs.1.symm) (by simpa using hfs.2.symm) (fun k j t ht => by simpa using hnot k j t ht)
  have HLK := hid (link_ok hL3 { s with addr := to } ⟨_, _, hB3⟩ hnot hfs.1 hfs.2 (bktN to n) rfl (bktN_lt to H.out.lists.pos))
  have HK2 := hid hK2
  have HNOT := hid hnot
  clear hL2 hK2 hB2 hB3 hL3 hnot hfs
  go_wp2_with fail
  refine HLK.out.mono ?_
  rintro e w4 ⟨rfl, hL4, hK4⟩
  have hS4 : SlpBlk w4 { s with addr := to } := by
    have := hL4.each (bktN to n) (outOf (bks Q n) (bktN s.addr n) i (bktN to n)).length { s with addr := to } (by rw [addTo_at, List.getElem?_append_right (Nat.le_refl _)]; simp)
    exact ⟨_, _, this⟩
  have d0 : w4.cell? ⟨s.blk, 0, none⟩ = some (.int .u64 s.id) := hS4.c0
  have HL4 := hid hL4
  have HK4 := hid hK4
  clear hL4 hK4 hS4 e1 f1
  go_wp2_with fail
  go_ret2
  have hsm : s.blk ∈ owned lb mb Q := by
    unfold owned
    exact List.mem_cons_of_mem _ (List.mem_cons_of_mem _ (List.mem_map.2 ⟨s, hs.out, rfl⟩))
  have hKK : Kept (owned lb mb Q) w w4 := by
    refine ((HW.out.nil.trans (HK2.out.mono (fun x hx => bks_owned hx))).setCell (p := ⟨s.blk, 1, none⟩) (.inl hsm) (.int .u64 to)).trans (HK4.out.mono ?_)
    intro x hx
    rcases List.mem_cons.1 hx with rfl | hx
    · simp [owned]
    rcases List.mem_cons.1 hx with rfl | hx
    · exact hsm
    · obtain ⟨t, ht, rfl⟩ := List.mem_map.1 hx
      obtain ⟨j, hj⟩ := List.getElem?_of_mem ht
      unfold owned
      exact List.mem_cons_of_mem _ (List.mem_cons_of_mem _ (List.mem_map.2 ⟨t, (bks_mem (outOf_get hj)).1, rfl⟩))
  have hmnot : mb ∉ lb :: (bks Q n (bktN s.addr n)).map (·.blk) := by
    simp only [List.mem_cons, not_or]
    refine ⟨H.out.ml, fun hm => ?_⟩
    obtain ⟨t, ht, e⟩ := List.mem_map.1 hm
    exact H.out.mfar t (List.mem_filter.1 ht).1 e
  have hmnot4 : mb ∉ lb :: s.blk :: (outOf (bks Q n) (bktN s.addr n) i (bktN to n)).map (·.blk) := by
    simp only [List.mem_cons, not_or]
    refine ⟨H.out.ml, (H.out.mfar s hs.out).symm, fun hm => ?_⟩
    obtain ⟨t, ht, e⟩ := List.mem_map.1 hm
    obtain ⟨j, hj⟩ := List.getElem?_of_mem ht
    exact H.out.mfar t (bks_mem (outOf_get hj)).1 e
  have hrem : ∀ t, t ∈ rem Q s.id → t ∈ Q ∧ t.id ≠ s.id := fun t ht => by
    have := List.mem_filter.1 ht
    exact ⟨this.1, by simpa using this.2⟩
  refine ⟨rfl, ⟨?_, ?_, ?_, H.out.mq, H.out.ml, ?_, ?_⟩, hKK⟩
  · rw [bks_put, bks_rem H.out.ids HI.out]
    exact HL4.out
  · have hm4 := ((H1.out.map.kept HK2.out hmnot).set_ne (b' := s.blk) 1 none (.int .u64 to) (H.out.mfar s hs.out).symm).kept HK4.out hmnot4
    obtain ⟨j, hj⟩ := List.getElem?_of_mem hs.out
    have hlen : (rem Q s.id ++ [{ s with addr := to }]).length = Q.length := by
      rw [List.length_append]
      unfold rem
      rw [erase_filter Q j s hj H.out.ids, List.length_eraseIdx_of_lt (List.getElem?_eq_some_iff.1 hj).1]
      have := (List.getElem?_eq_some_iff.1 hj).1
      simp
      omega
    rw [hlen]
    refine hm4.congr (fun a => ?_)
    rw [byId_put (rem Q s.id) { s with addr := to } (fun t ht => (hrem t ht).2) a, byId_rem]
    by_cases e : a = (s.id : Int)
    · rw [if_pos e, e]
      unfold byId
      rw [find_id H.out.ids hs.out]
      rfl
    · rw [if_neg e, if_neg e]
  · rw [List.map_append]
    refine List.nodup_append.2 ⟨List.Nodup.sublist (List.filter_sublist.map _) H.out.ids, by simp, ?_⟩
    intro x hx y hy
    obtain ⟨t, ht, rfl⟩ := List.mem_map.1 hx
    simp at hy
    subst hy
    exact (hrem t ht).2
  · intro t ht
    rcases List.mem_append.1 ht with h | h
    · exact H.out.mfar t (hrem t h).1
    · rw [List.mem_singleton.1 h]
      exact H.out.mfar s hs.out
  · intro t ht
    rcases List.mem_append.1 ht with h | h
    · exact H.out.lt t (hrem t h).1
    · rw [List.mem_singleton.1 h]
      exact H.out.lt s hs.out

end Go.Proofs.YtenahekdhepnfaaDoor
