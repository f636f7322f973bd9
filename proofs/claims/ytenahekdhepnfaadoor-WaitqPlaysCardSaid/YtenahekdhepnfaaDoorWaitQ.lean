/- package waitq: New, Put, first, Drop, Len: contracts. -/
import Derived.Test.YtenahekdhepnfaaDoorWaitU
import Derived.Test.YtenahekdhepnfaaDoorMap
import Derived.Carry
import Derived.Deep.DeepMust
namespace Go.Proofs.YtenahekdhepnfaaDoor
open Go Go.RowKit

def bks (Q : List Slp) (n k : Nat) : List Slp := Q.filter fun s => bktN s.addr n == k
def ptrOf (s : Slp) : Value := .pointer (some ⟨s.blk, 0, none⟩)
def byId (Q : List Slp) (x : Int) : Option Value := (Q.find? fun s => (s.id : Int) == x).map ptrOf
def rem (Q : List Slp) (id : Nat) : List Slp := Q.filter fun s => s.id != id

theorem bks_mem {Q : List Slp} {n k i : Nat} {s : Slp} (h : (bks Q n k)[i]? = some s) : s ∈ Q ∧ bktN s.addr n = k := by
  have hm := List.mem_of_getElem? h
  unfold bks at hm
  rw [List.mem_filter] at hm
  exact ⟨hm.1, by simpa using hm.2⟩
theorem bks_of {Q : List Slp} {n : Nat} {s : Slp} (h : s ∈ Q) : ∃ i : Nat, (bks Q n (bktN s.addr n))[i]? = some s :=
  List.getElem?_of_mem (List.mem_filter.2 ⟨h, by simp⟩)
theorem bks_put (Q : List Slp) (n : Nat) (s : Slp) : bks (Q ++ [s]) n = addTo (bks Q n) (bktN s.addr n) s := by
  funext k
  unfold bks addTo
  rw [List.filter_append]
  by_cases e : k = bktN s.addr n
  · rw [if_pos e, List.filter_cons_of_pos (by simp [e])]
    rfl
  · rw [if_neg e, List.filter_cons_of_neg (by simp; exact fun h => e h.symm)]
    simp
theorem uniq {Q : List Slp} (hn : (Q.map (·.id)).Nodup) {s t : Slp} (hs : s ∈ Q) (ht : t ∈ Q) (e : s.id = t.id) : s = t := by
  induction Q with
  | nil => cases hs
  | cons x Q ih =>
    rw [List.map_cons, List.nodup_cons] at hn
    rcases List.mem_cons.1 hs with h1 | h1
    · rcases List.mem_cons.1 ht with h2 | h2
      · exact h1.trans h2.symm
      · exact absurd (List.mem_map.2 ⟨t, h2, by rw [← e, h1]⟩) hn.1
    · rcases List.mem_cons.1 ht with h2 | h2
      · exact absurd (List.mem_map.2 ⟨s, h1, by rw [e, h2]⟩) hn.1
      · exact ih hn.2 h1 h2
theorem bks_rem {Q : List Slp} {n i : Nat} {s : Slp} (hn : (Q.map (·.id)).Nodup) (hs : (bks Q n (bktN s.addr n))[i]? = some s) : bks (rem Q s.id) n = outOf (bks Q n) (bktN s.addr n) i := by
  funext k
  have hsub : ((bks Q n (bktN s.addr n)).map (·.id)).Nodup := List.Nodup.sublist (List.filter_sublist.map _) hn
  unfold outOf
  by_cases e : k = bktN s.addr n
  · rw [if_pos e, e, ← erase_filter _ i s hs hsub]
    unfold bks rem
    rw [List.filter_filter, List.filter_filter]
    congr 1
    funext t
    rw [Bool.and_comm]
  · rw [if_neg e]
    unfold bks rem
    rw [List.filter_filter]
    apply List.filter_congr
    intro t ht
    by_cases e2 : t.id = s.id
    · have := uniq hn ht (bks_mem hs).1 e2
      subst this
      have : (bktN t.addr n == k) = false := by simp; exact fun h => e h.symm
      rw [this]; rfl
    · have : (t.id != s.id) = true := by simpa using e2
      rw [this, Bool.and_true]
theorem find_id {Q : List Slp} (hn : (Q.map (·.id)).Nodup) {s : Slp} (hs : s ∈ Q) : (Q.find? fun t => (t.id : Int) == (s.id : Int)) = some s := by
  cases h : (Q.find? fun t => (t.id : Int) == (s.id : Int)) with
  | none =>
    have := List.find?_eq_none.1 h s hs
    simp at this
  | some t =>
    have h1 := List.find?_some h
    simp at h1
    have h2 := List.mem_of_find?_eq_some h
    rw [uniq hn h2 hs (by omega)]
theorem byId_put (Q : List Slp) (s : Slp) (hno : ∀ t, t ∈ Q → t.id ≠ s.id) (x : Int) : byId (Q ++ [s]) x = if x = (s.id : Int) then some (ptrOf s) else byId Q x := by
  unfold byId
  rw [List.find?_append]
  by_cases e : x = (s.id : Int)
  · subst e
    rw [if_pos rfl]
    have : (Q.find? fun t => (t.id : Int) == (s.id : Int)) = none := by
      rw [List.find?_eq_none]
      intro t ht
      have := hno t ht
      simp
      omega
    rw [this]
    simp
  · rw [if_neg e]
    have : ([s].find? fun t => (t.id : Int) == x) = none := by simp; exact fun h => e h.symm
    rw [this]
    simp
theorem byId_rem (Q : List Slp) (id : Nat) (x : Int) : byId (rem Q id) x = if x = (id : Int) then none else byId Q x := by
  unfold byId rem
  rw [List.find?_filter]
  by_cases e : x = (id : Int)
  · subst e
    rw [if_pos rfl]
    rw [List.find?_eq_none.2]
    · rfl
    · intro t _
      simp
      omega
  · rw [if_neg e]
    congr 1
    apply congrArg (fun p => Q.find? p)
    funext t
    by_cases e2 : (t.id : Int) = x
    · have : t.id ≠ id := fun h => e (by rw [← e2, h])
      simp [e2, this]
    · simp [e2]

/-- The queues: who is there, in the order in which they came. -/
structure WaitsAt (w : World) (qb lb mb n : Nat) (Q : List Slp) : Prop where
  lists : Lists w qb lb mb n (bks Q n)
  map : MapIs w .u64 mb Q.length (byId Q)
  ids : (Q.map (·.id)).Nodup
  mq : mb ≠ qb
  ml : mb ≠ lb
  mfar : ∀ s, s ∈ Q → s.blk ≠ mb
  lt : ∀ s, s ∈ Q → s.id < 18446744073709551616 ∧ s.mask < 18446744073709551616
def owned (lb mb : Nat) (Q : List Slp) : List Nat := lb :: mb :: Q.map (·.blk)

theorem WaitsAt.kept {S : List Nat} {w w' : World} {qb lb mb n : Nat} {Q : List Slp} (h : WaitsAt w qb lb mb n Q) (k : Kept S w w') (h1 : qb ∉ S) (h2 : ∀ x, x ∈ owned lb mb Q → x ∉ S) : WaitsAt w' qb lb mb n Q :=
  ⟨h.lists.kept k h1 (h2 lb (by simp [owned])) (fun a i s hs => h2 s.blk (by
    unfold owned
    exact List.mem_cons_of_mem _ (List.mem_cons_of_mem _ (List.mem_map.2 ⟨s, (bks_mem hs).1, rfl⟩)))), h.map.kept k (h2 mb (by simp [owned])), h.ids, h.mq, h.ml, h.mfar, h.lt⟩
theorem WaitsAt.keptN {w w' : World} {qb lb mb n : Nat} {Q : List Slp} (h : WaitsAt w qb lb mb n Q) (k : Kept [] w w') : WaitsAt w' qb lb mb n Q := h.kept k (by simp) (fun _ _ => by simp)
theorem WaitsAt.owned_lt {w : World} {qb lb mb n : Nat} {Q : List Slp} (h : WaitsAt w qb lb mb n Q) : ∀ x, x ∈ owned lb mb Q → x < w.heap.size := by
  intro x hx
  unfold owned at hx
  rcases List.mem_cons.1 hx with rfl | hx
  · exact h.lists.rows.lt
  rcases List.mem_cons.1 hx with rfl | hx
  · exact h.map.lt
  · obtain ⟨s, hs, rfl⟩ := List.mem_map.1 hx
    obtain ⟨i, hi⟩ := bks_of (n := n) hs
    exact (h.lists.each _ _ _ hi).lt

theorem info_queue : (Tryd.prog.info? 73).map (fun i => (i.zero, i.size, i.bytes)) = some (some (.agg #[.pointer none, .pointer none]), 2, 16) := by kernel_rfl
theorem zero_slp (w : World) : (zeroValue 71).run Tryd.prog w = .ok (.pointer none) w := by kernel_rfl

set_option maxRecDepth 100000 in
set_option maxHeartbeats 1000000 in
theorem new_ok (n : Nat) (h1 : 1 ≤ n) (h2 : n ≤ 64) (w : World) :
    Calls Tryd.prog 6 #[.int .i64 n] w fun e w' => ∃ qb lb mb, e = .returned (.tuple #[.pointer (some ⟨qb, 0, none⟩), .nilIface]) ∧ w.heap.size ≤ qb ∧ (∀ x, x ∈ owned lb mb [] → w.heap.size ≤ x) ∧ WaitsAt w' qb lb mb n [] ∧ Kept [] w w' := by
  have hmk := mk_rows Tryd.underlying56 info_queue (fun _ => .pointer none) rfl n (by omega) (by omega)
  have hmm := @run_makeMap Tryd.prog
  go_enter Tryd.func6, Tryd.ntmps6
  go_wp2_with fail
  go_ret2
  have hmb : MapIs ((w.alloc (.cells (rowsOf 2 (fun _ _ => .pointer none) n).toArray 73)).alloc (.map #[] 0)) .u64 (w.heap.size + 1) 0 (fun _ => none) := MapIs.new' (by simp)
  refine ⟨w.heap.size + 2, w.heap.size, w.heap.size + 1, rfl, by omega, ?_, ⟨⟨Blk.newA _ _ (by simp), ?_, fun k i s h => by simp [bks] at h, fun k i s _ _ _ h => by simp [bks] at h, fun k i s h => by simp [bks] at h, by omega, h1, h2⟩, ?_, by simp, by omega, by omega, fun s h => by simp at h, fun s h => by simp at h⟩, (((Kept.refl _ _).alloc _).alloc _).alloc _⟩
  · intro x hx
    simp [owned] at hx
    omega
  · refine Blk.eq (((Blk.new _ _ _).alloc _).alloc _) (rowsOf_congr ?_)
    intro p j hp hj
    rcases (show j = 0 ∨ j = 1 by omega) with rfl | rfl
    · simp [ends, bks, lnk]
    · simp [ends, bks, lnk, prv]
  · exact (hmb.keptN ((Kept.refl _ _).alloc _)).congr (fun a => by simp [byId])

theorem wf_id {i : Nat} (h : i < 18446744073709551616) : (Lit.int .u64 (i : Int)).wf = true := by
  simp [Lit.wf, IntKind.min, IntKind.max, IntKind.signed, IntKind.bits]
  omega

set_option maxRecDepth 100000 in
set_option maxHeartbeats 2000000 in
theorem put_ok {w : World} {qb lb mb n : Nat} {Q : List Slp} (h : WaitsAt w qb lb mb n Q) (id addr mask : Nat) (h0 : id ≠ 0) (hi : id < 18446744073709551616) (hm : mask < 18446744073709551616) (hno : ∀ t, t ∈ Q → t.id ≠ id) :
    Calls Tryd.prog 15 #[.pointer (some ⟨qb, 0, none⟩), .int .u64 id, .int .u64 addr, .int .u64 mask] w fun e w' => ∃ sb, e = .returned .nilIface ∧ w.heap.size ≤ sb ∧ WaitsAt w' qb lb mb n (Q ++ [⟨id, addr, mask, sb⟩]) ∧ Kept (owned lb mb Q) w w' := by
  have c1 := h.lists.head.cell (o := 1) rfl
  have hid0 : ((id : Int) == 0) = false := by simp; exact h0
  have hby : byId Q (id : Int) = none := by
    unfold byId
    rw [List.find?_eq_none.2]
    · rfl
    · intro t ht
      have := hno t ht
      simp
      omega
  have H := hid h
  have HBY := hid hby
  have HNO := hid hno
  have hwf := hid (wf_id hi)
  have hqlt := h.lists.head.lt
  clear h hby hno
  go_enter Tryd.func15, Tryd.ntmps15
  go_wp2_with (first | (at_lookup; go_must (refine wp_mapGet0 rfl _ _ 57 36 71 rfl Tryd.underlying57 Tryd.underlying36 (zero_slp _) rfl H.out.map hwf.out rfl HBY.out ?_)) | (at_mapUpdate; go_must (refine wp_mapSet0 rfl _ _ _ 57 36 71 rfl Tryd.underlying57 Tryd.underlying36 rfl (H.out.map.keptN ((Kept.refl _ _).alloc _)) hwf.out rfl rfl HBY.out ?_)))
  intro w2 hM2 hK2
  have hB1 := Blk.newA (w := w) #[.int .u64 id, .int .u64 addr, .int .u64 mask, .pointer none, .pointer none] 75 rfl
  have hmb := H.out.map.lt
  have hB2 := hB1.kept hK2 (by simp; omega)
  have hK2' : Kept [mb] w w2 := (((Kept.refl [mb] w).alloc _).trans hK2)
  have hL2 := H.out.lists.kept hK2' (by simpa using fun e : qb = mb => H.out.mq e.symm) (by simpa using fun e : lb = mb => H.out.ml e.symm) (fun k i s hs => by simpa using H.out.mfar s (bks_mem hs).1)
  have hbn := bktN_lt addr H.out.lists.pos
  have hold : ∀ t, t ∈ Q → t.blk < w.heap.size := fun t ht => H.out.owned_lt t.blk (by unfold owned; exact List.mem_cons_of_mem _ (List.mem_cons_of_mem _ (List.mem_map.2 ⟨t, ht, rfl⟩)))
  have hllt := H.out.lists.rows.lt
  have HLK := hid (link_ok hL2 ⟨id, addr, mask, w.heap.size⟩ ⟨_, _, hB2⟩ (fun k i t ht e => by have := hold t (bks_mem ht).1; simp at e; omega) (by simp; omega) (by simp; omega) (bktN addr n) rfl hbn)
  have HM2 := hid hM2
  have HK2 := hid hK2'
  have HOLD := hid hold
  clear hB1 hB2 hK2 hK2' hL2 hM2 hold c1
  go_wp2_with fail
  refine HLK.out.mono ?_
  rintro e w3 ⟨rfl, hL3, hK3⟩
  have HL3 := hid hL3
  have HK3 := hid hK3
  clear hL3 hK3
  go_wp2_with fail
  go_ret
  refine ⟨w.heap.size, rfl, Nat.le_refl _, ⟨by rw [bks_put]; exact HL3.out, ?_, ?_, H.out.mq, H.out.ml, ?_, ?_⟩, ?_⟩
  · have := HM2.out.kept HK3.out (by
      simp only [List.mem_cons, not_or]
      refine ⟨H.out.ml, by omega, fun hm => ?_⟩
      obtain ⟨t, ht, e⟩ := List.mem_map.1 hm
      exact H.out.mfar t (List.mem_filter.1 ht).1 e)
    rw [List.length_append]
    exact this.congr (fun a => (byId_put Q ⟨id, addr, mask, w.heap.size⟩ HNO.out a).symm)
  · rw [List.map_append]
    refine List.nodup_append.2 ⟨H.out.ids, by simp, ?_⟩
    intro x hx y hy
    obtain ⟨t, ht, rfl⟩ := List.mem_map.1 hx
    simp at hy
    subst hy
    exact HNO.out t ht
  · intro s hs
    rcases List.mem_append.1 hs with h | h
    · exact H.out.mfar s h
    · rw [List.mem_singleton.1 h]
      simp
      omega
  · intro s hs
    rcases List.mem_append.1 hs with h | h
    · exact H.out.lt s h
    · rw [List.mem_singleton.1 h]
      exact ⟨hi, hm⟩
  · refine (HK2.out.mono (T := owned lb mb Q) (by simp [owned])).trans' HK3.out ?_
    intro x hx
    rcases List.mem_cons.1 hx with rfl | hx
    · exact .inl (by simp [owned])
    rcases List.mem_cons.1 hx with rfl | hx
    · exact .inr (Nat.le_refl _)
    · obtain ⟨t, ht, rfl⟩ := List.mem_map.1 hx
      exact .inl (by unfold owned; exact List.mem_cons_of_mem _ (List.mem_cons_of_mem _ (List.mem_map.2 ⟨t, (List.mem_filter.1 ht).1, rfl⟩)))

theorem len_ok {w : World} {qb lb mb n : Nat} {Q : List Slp} (h : WaitsAt w qb lb mb n Q) :
    Calls Tryd.prog 10 #[.pointer (some ⟨qb, 0, none⟩)] w fun e w' => e = .returned (.int .i64 Q.length) ∧ w = w' := by
  have c1 := h.lists.head.cell (o := 1) rfl
  have HM := hid h.map
  clear h
  go_enter Tryd.func10, Tryd.ntmps10
  go_wp2_with (at_len; go_must (refine wp_mapLen rfl _ 57 36 71 rfl Tryd.underlying57 rfl HM.out ?_))
  go_ret
  exact ⟨rfl, rfl⟩

/-- Those that are left. -/
theorem WaitsAt.less {w : World} {qb lb mb n : Nat} {Q : List Slp} (h : WaitsAt w qb lb mb n Q) {s : Slp} (hs : s ∈ Q) {w' : World} (hl : ∀ i, (bks Q n (bktN s.addr n))[i]? = some s → Lists w' qb lb mb n (outOf (bks Q n) (bktN s.addr n) i)) (hm : MapIs w' .u64 mb (Q.length - 1) (fun y => if y = (s.id : Int) then none else byId Q y)) : WaitsAt w' qb lb mb n (rem Q s.id) := by
  obtain ⟨i, hi⟩ := bks_of (n := n) hs
  have hsub : ∀ t, t ∈ rem Q s.id → t ∈ Q := fun t ht => (List.mem_filter.1 ht).1
  refine ⟨by rw [bks_rem h.ids hi]; exact hl i hi, ?_, List.Nodup.sublist (List.filter_sublist.map _) h.ids, h.mq, h.ml, fun t ht => h.mfar t (hsub t ht), fun t ht => h.lt t (hsub t ht)⟩
  obtain ⟨j, hj⟩ := List.getElem?_of_mem hs
  have hlen : (rem Q s.id).length = Q.length - 1 := by
    unfold rem
    rw [erase_filter Q j s hj h.ids, List.length_eraseIdx_of_lt (List.getElem?_eq_some_iff.1 hj).1]
  rw [hlen]
  exact hm.congr (fun a => (byId_rem Q s.id a).symm)

theorem rem_owned {lb mb : Nat} {Q : List Slp} {id x : Nat} (h : x ∈ owned lb mb (rem Q id)) : x ∈ owned lb mb Q := by
  unfold owned at h ⊢
  rcases List.mem_cons.1 h with rfl | h
  · simp
  rcases List.mem_cons.1 h with rfl | h
  · simp
  · obtain ⟨t, ht, rfl⟩ := List.mem_map.1 h
    exact List.mem_cons_of_mem _ (List.mem_cons_of_mem _ (List.mem_map.2 ⟨t, (List.mem_filter.1 ht).1, rfl⟩))
theorem bks_owned {lb mb n k x : Nat} {Q : List Slp} (h : x ∈ lb :: (bks Q n k).map (·.blk)) : x ∈ owned lb mb Q := by
  unfold owned
  rcases List.mem_cons.1 h with rfl | h
  · simp
  · obtain ⟨t, ht, rfl⟩ := List.mem_map.1 h
    exact List.mem_cons_of_mem _ (List.mem_cons_of_mem _ (List.mem_map.2 ⟨t, (List.mem_filter.1 ht).1, rfl⟩))

theorem SlpBlk.kept {S : List Nat} {w w' : World} {s : Slp} (h : SlpBlk w s) (k : Kept S w w') (hs : s.blk ∉ S) : SlpBlk w' s := by
  obtain ⟨x, y, h⟩ := h
  exact ⟨x, y, h.kept k hs⟩

set_option maxRecDepth 100000 in
set_option maxHeartbeats 1000000 in
theorem drop_some {w : World} {qb lb mb n : Nat} {Q : List Slp} (h : WaitsAt w qb lb mb n Q) {s : Slp} (hs : s ∈ Q) :
    Calls Tryd.prog 17 #[.pointer (some ⟨qb, 0, none⟩), .int .u64 s.id] w fun e w' => e = .returned (.bool true) ∧ WaitsAt w' qb lb mb n (rem Q s.id) ∧ SlpBlk w' s ∧ Kept (owned lb mb Q) w w' := by
  have c1 := h.lists.head.cell (o := 1) rfl
  have hby : byId Q (s.id : Int) = some (.pointer (some ⟨s.blk, 0, none⟩)) := by
    unfold byId
    rw [find_id h.ids hs]
    rfl
  obtain ⟨i, hi⟩ := bks_of (n := n) hs
  have H := hid h
  have HBY := hid hby
  have hwf := hid (wf_id (h.lt s hs).1)
  have HU := hid (unlink_ok h.lists s _ i hi rfl (bktN_lt s.addr h.lists.pos))
  have HSM := hid hs
  have HI := hid hi
  clear h hby hs hi
  go_enter Tryd.func17, Tryd.ntmps17
  go_wp2_with (first | (at_lookup; go_must (refine wp_mapGet1 rfl _ _ 57 36 71 rfl Tryd.underlying57 Tryd.underlying36 (zero_slp _) rfl H.out.map hwf.out rfl HBY.out ?_)))
  refine HU.out.mono ?_
  rintro e w2 ⟨rfl, hL2, hS2, hK2⟩
  have hM2 := H.out.map.kept hK2 (by
    simp only [List.mem_cons, not_or]
    refine ⟨H.out.ml, fun hm => ?_⟩
    obtain ⟨t, ht, e⟩ := List.mem_map.1 hm
    exact H.out.mfar t (List.mem_filter.1 ht).1 e)
  have c1' := hL2.head.cell (o := 1) rfl
  have HL2 := hid hL2
  have HS2 := hid hS2
  have HK2 := hid hK2
  have HM2 := hid hM2
  clear hL2 hS2 hK2 hM2 c1
  go_wp2_with (first | (at_delete; go_must (refine wp_mapDel1 rfl _ _ 57 36 71 36 rfl Tryd.underlying57 Tryd.underlying36 rfl HM2.out hwf.out rfl HBY.out ?_)))
  intro w3 hM3 hK3
  have HM3 := hid hM3
  have HK3 := hid hK3
  clear hM3 hK3
  go_wp2_with fail
  go_ret
  have hml := H.out.ml
  have hmq := H.out.mq
  refine ⟨rfl, H.out.less HSM.out (fun j hj => ?_) HM3.out, HS2.out.kept HK3.out (by simpa using H.out.mfar s HSM.out), (HK2.out.mono (fun x hx => bks_owned hx)).trans (HK3.out.mono (by simp [owned]))⟩
  obtain ⟨-, rfl⟩ := H.out.lists.inj _ _ _ _ _ _ hj HI.out rfl
  exact HL2.out.kept HK3.out (by simpa using fun e : qb = mb => hmq e.symm) (by simpa using fun e : lb = mb => hml e.symm) (fun k i t ht => by simpa using H.out.mfar t (bks_mem (outOf_get ht)).1)

set_option maxRecDepth 100000 in
set_option maxHeartbeats 1000000 in
theorem drop_none {w : World} {qb lb mb n : Nat} {Q : List Slp} (h : WaitsAt w qb lb mb n Q) {id : Nat} (hi : id < 18446744073709551616) (hno : ∀ t, t ∈ Q → t.id ≠ id) :
    Calls Tryd.prog 17 #[.pointer (some ⟨qb, 0, none⟩), .int .u64 id] w fun e w' => e = .returned (.bool false) ∧ w = w' := by
  have c1 := h.lists.head.cell (o := 1) rfl
  have hby : byId Q (id : Int) = none := by
    unfold byId
    rw [List.find?_eq_none.2]
    · rfl
    · intro t ht
      have := hno t ht
      simp
      omega
  have H := hid h
  have HBY := hid hby
  have hwf := hid (wf_id hi)
  clear h hby hno
  go_enter Tryd.func17, Tryd.ntmps17
  go_wp2_with (first | (at_lookup; go_must (refine wp_mapGet0 rfl _ _ 57 36 71 rfl Tryd.underlying57 Tryd.underlying36 (zero_slp _) rfl H.out.map hwf.out rfl HBY.out ?_)))
  go_ret
  exact ⟨rfl, rfl⟩

end Go.Proofs.YtenahekdhepnfaaDoor
