/- The contracts of package ring: New, at, Put, Take. -/
import Derived.Test.YtccfkpopjapmnaaDoorSame
import Derived.RegionTactic
import Derived.BigRegion
import Derived.IntWalk
namespace Go.Proofs.YtccfkpopjapmnaaDoor
open Go Go.RowKit

def sRing : ByteArray := ⟨#[114, 105, 110, 103]⟩
def ringCells (C : Nat → Int) (M : Nat) : List Value := rowsOf 1 (fun p _ => .int .u64 (C p)) M

/-- A ring at block b: cells in block bl, room for M, the first at place fr; those that are there: L. -/
structure RingAt (w : World) (b bl M fr : Nat) (L : List Int) : Prop where
  head : Blk w b [.slice (some ⟨bl, 0, none⟩) M M, .int .i64 fr, .int .i64 L.length]
  cells : ∃ C : Nat → Int, Blk w bl (ringCells C M) ∧ ∀ i x, L[i]? = some x → C ((fr + i) % M) = x
  frm : fr < M
  len : L.length ≤ M
  small : M ≤ 4096
  ne : b ≠ bl

theorem RingAt.kept {S : List Nat} {w w' : World} {b bl M fr : Nat} {L : List Int} (h : RingAt w b bl M fr L) (k : Kept S w w') (h1 : b ∉ S) (h2 : bl ∉ S) : RingAt w' b bl M fr L := by
  obtain ⟨C, hC, hL⟩ := h.cells
  exact ⟨h.head.kept k h1, ⟨C, hC.kept k h2, hL⟩, h.frm, h.len, h.small, h.ne⟩
theorem RingAt.keptN {w w' : World} {b bl M fr : Nat} {L : List Int} (h : RingAt w b bl M fr L) (k : Kept [] w w') : RingAt w' b bl M fr L := h.kept k (by simp) (by simp)
theorem RingAt.c0 {w : World} {b bl M fr : Nat} {L : List Int} (h : RingAt w b bl M fr L) : w.cell? ⟨b, 0, none⟩ = some (.slice (some ⟨bl, 0, none⟩) M M) := h.head.cell rfl
theorem RingAt.c1 {w : World} {b bl M fr : Nat} {L : List Int} (h : RingAt w b bl M fr L) : w.cell? ⟨b, 1, none⟩ = some (.int .i64 fr) := h.head.cell rfl
theorem RingAt.c2 {w : World} {b bl M fr : Nat} {L : List Int} (h : RingAt w b bl M fr L) : w.cell? ⟨b, 2, none⟩ = some (.int .i64 L.length) := h.head.cell rfl
theorem ringCells_get (C : Nat → Int) {M p : Nat} (hp : p < M) : (ringCells C M)[p]? = some (.int .u64 (C p)) := by
  have := rowsOf_get (fun p (_ : Nat) => Value.int .u64 (C p)) hp (show 0 < 1 by omega)
  simpa [ringCells] using this
theorem ringCells_set (C : Nat → Int) {M p : Nat} (v : Int) (hp : p < M) : (ringCells C M).set p (.int .u64 v) = ringCells (fun q => if q = p then v else C q) M := by
  have := rowsOf_set (fun p (_ : Nat) => Value.int .u64 (C p)) (.int .u64 v) hp (show 0 < 1 by omega)
  rw [Nat.mul_one, Nat.add_zero] at this
  rw [ringCells, this]
  apply rowsOf_congr
  intro q j hq hj
  obtain rfl : j = 0 := by omega
  by_cases e : q = p <;> simp [e]
theorem RingAt.cell {w : World} {b bl M fr : Nat} {L : List Int} (h : RingAt w b bl M fr L) {i : Nat} {x : Int} (hx : L[i]? = some x) : w.cell? ⟨bl, (fr + i) % M, none⟩ = some (.int .u64 x) := by
  obtain ⟨C, hC, hL⟩ := h.cells
  rw [hC.cell (ringCells_get C (Nat.mod_lt _ (by have := h.frm; omega))), hL i x hx]
theorem RingAt.any {w : World} {b bl M fr : Nat} {L : List Int} (h : RingAt w b bl M fr L) (i : Nat) : ∃ x, w.cell? ⟨bl, (fr + i) % M, none⟩ = some (.int .u64 x) := by
  obtain ⟨C, hC, hL⟩ := h.cells
  exact ⟨_, hC.cell (ringCells_get C (Nat.mod_lt _ (by have := h.frm; omega)))⟩
theorem RingAt.froz {w : World} {b bl M fr : Nat} {L : List Int} (h : RingAt w b bl M fr L) (i : Nat) : w.frozen? ⟨bl, i, none⟩ = false := by
  obtain ⟨C, hC, hL⟩ := h.cells
  exact hC.frozen _

theorem ring_mod {fr i j M : Nat} (hi : i < M) (hj : j < M) (hf : fr < M) (h : (fr + i) % M = (fr + j) % M) : i = j := by
  have e1 : ∀ k, k < M → (fr + k) % M = if fr + k < M then fr + k else fr + k - M := by
    intro k hk
    split
    · exact Nat.mod_eq_of_lt (by assumption)
    · rw [Nat.mod_eq_sub_mod (by omega), Nat.mod_eq_of_lt (by omega)]
  rw [e1 i hi, e1 j hj] at h
  split at h <;> split at h <;> omega

/-- A cell is set. -/
theorem RingAt.set {w : World} {b bl M fr : Nat} {L : List Int} (h : RingAt w b bl M fr L) {i : Nat} (hi : i < M) (v : Int) : RingAt (w.setCell ⟨bl, (fr + i) % M, none⟩ (.int .u64 v)) b bl M fr (L.set i v) := by
  obtain ⟨C, hC, hL⟩ := h.cells
  have hm : (fr + i) % M < M := Nat.mod_lt _ (by omega)
  refine ⟨?_, ⟨fun q => if q = (fr + i) % M then v else C q, ?_, ?_⟩, h.frm, by rw [List.length_set]; exact h.len, h.small, h.ne⟩
  · rw [List.length_set]; exact h.head.set_ne _ _ _ h.ne
  · exact (hC.set _ _).eq (ringCells_set C v hm)
  · intro j x hx
    have hjl : j < L.length := by have := (List.getElem?_eq_some_iff.1 hx).1; simpa using this
    by_cases e : j = i
    · subst e
      rw [List.getElem?_set_self hjl] at hx
      simp at hx
      simp [hx]
    · rw [List.getElem?_set_ne (fun e' => e e'.symm)] at hx
      have hne : (fr + j) % M ≠ (fr + i) % M := fun e' => e (ring_mod (by have := h.len; omega) hi h.frm e')
      simp only [hne, if_false]
      exact hL j x hx

/-- One more at the end: its cell is set already. -/
theorem RingAt.push {w : World} {b bl M fr : Nat} {L : List Int} (h : RingAt w b bl M fr L) (hlt : L.length < M) (v : Int) :
    RingAt ((w.setCell ⟨bl, (fr + L.length) % M, none⟩ (.int .u64 v)).setCell ⟨b, 2, none⟩ (.int .i64 (L.length + 1))) b bl M fr (L ++ [v]) := by
  have h1 := h.set hlt v
  rw [List.set_eq_of_length_le (Nat.le_refl _)] at h1
  obtain ⟨C, hC, hL⟩ := h1.cells
  have hb : ((w.setCell ⟨bl, (fr + L.length) % M, none⟩ (.int .u64 v)).cell? ⟨bl, (fr + L.length) % M, none⟩) = some (.int .u64 v) := by
    obtain ⟨x, hx⟩ := h.any L.length
    exact World.cell?_setCell_same _ _ _ hx
  refine ⟨?_, ⟨C, hC.set_ne _ _ _ h.ne.symm, ?_⟩, h.frm, by simp; omega, h.small, h.ne⟩
  · have := h1.head.set 2 (.int .i64 (L.length + 1))
    refine this.eq ?_
    simp
  · intro j x hx
    rw [List.getElem?_append] at hx
    split at hx
    · exact hL j x hx
    · have hj : j - L.length < 1 := by
        have := (List.getElem?_eq_some_iff.1 hx).1
        simpa using this
      have e : j = L.length := by omega
      subst e
      simp at hx
      subst hx
      rw [hC.cell (ringCells_get C (Nat.mod_lt _ (by have := h.frm; omega)))] at hb
      cases hb
      rfl

/-- The first one goes. -/
theorem RingAt.pop {w : World} {b bl M fr : Nat} {x : Int} {L : List Int} (h : RingAt w b bl M fr (x :: L)) :
    RingAt ((w.setCell ⟨b, 1, none⟩ (.int .i64 ((fr + 1) % M : Nat))).setCell ⟨b, 2, none⟩ (.int .i64 L.length)) b bl M ((fr + 1) % M) L := by
  obtain ⟨C, hC, hL⟩ := h.cells
  have hlen := h.len
  simp at hlen
  refine ⟨((h.head.set 1 _).set 2 _).eq (by simp), ⟨C, (hC.set_ne _ _ _ h.ne.symm).set_ne _ _ _ h.ne.symm, ?_⟩, Nat.mod_lt _ (by omega), by omega, h.small, h.ne⟩
  intro j y hy
  have := hL (j + 1) y (by simpa using hy)
  rw [← this, Nat.mod_add_mod, show fr + 1 + j = fr + (j + 1) by omega]

/-- The last one goes. -/
theorem RingAt.less {w : World} {b bl M fr n : Nat} {L : List Int} (h : RingAt w b bl M fr L) (hn : L.length = n + 1) :
    RingAt (w.setCell ⟨b, 2, none⟩ (.int .i64 n)) b bl M fr (L.take n) := by
  obtain ⟨C, hC, hL⟩ := h.cells
  have hlen := h.len
  have e : (L.take n).length = n := by rw [List.length_take]; omega
  refine ⟨((h.head.set 2 _)).eq (by simp [hn]), ⟨C, hC.set_ne _ _ _ h.ne.symm, ?_⟩, h.frm, by omega, h.small, h.ne⟩
  intro j y hy
  rw [List.getElem?_take] at hy
  split at hy
  · exact hL j y hy
  · cases hy

theorem info_u64 : (Tryd.prog.info? 34).map (fun i => (i.zero, i.size, i.bytes)) = some (some (.int .u64 0), 1, 8) := by kernel_rfl

theorem new_ok (M : Nat) (h1 : 1 ≤ M) (h2 : M ≤ 4096) (w : World) :
    Calls Tryd.prog 7 #[.int .i64 M] w fun e w' => ∃ b bl, e = .returned (.tuple #[.pointer (some ⟨b, 0, none⟩), .nilIface]) ∧ w.heap.size ≤ b ∧ w.heap.size ≤ bl ∧ RingAt w' b bl M 0 [] ∧ Kept [] w w' := by
  have hmk := mk_rows Tryd.underlying49 info_u64 (fun _ => .int .u64 0) rfl M (by omega) (by omega)
  go_enter Tryd.func7, Tryd.ntmps7
  go_wp2
  go_ret2
  exact ⟨w.heap.size + 1, w.heap.size, rfl, by omega, by omega, ⟨Blk.newA _ _ (by simp), ⟨fun _ => 0, (Blk.new _ _ _).alloc _, fun i x h => by simp at h⟩, by omega, Nat.zero_le _, h2, by omega⟩, ((Kept.refl _ _).alloc _).alloc _⟩

theorem new_bad (M : Int) (h : M < 1 ∨ 4096 < M) (w : World) :
    Calls Tryd.prog 7 #[.int .i64 M] w fun e w' => ∃ v, e = .returned (.tuple #[.pointer none, v]) ∧ ErrOut sRing 0 1 w v w' := by
  rcases h with h | h
  all_goals
    go_enter Tryd.func7, Tryd.ntmps7
    go_wp2_with fail
    go_ret2
    exact ⟨_, rfl, _, rfl, Nat.le_refl _, Blk.newA _ _ rfl, (Kept.refl _ _).alloc _⟩

set_option maxRecDepth 100000 in
set_option maxHeartbeats 1000000 in
theorem at_ok {w : World} {b bl M fr : Nat} {L : List Int} (h : RingAt w b bl M fr L) (i : Nat) (hi : i < M) :
    Calls Tryd.prog 25 #[.pointer (some ⟨b, 0, none⟩), .int .i64 i] w fun e w' => e = .returned (.pointer (some ⟨bl, (fr + i) % M, none⟩)) ∧ ∃ m, w' = w.drewN m := by
  have c0 := h.c0
  have c1 := h.c1
  have hM := h.small
  have hf := h.frm
  have hs : IntKind.i64.wrap ((fr : Int) + (i : Int)) = (fr : Int) + i := IntWalk.i64_in _ ⟨by omega, by omega⟩
  obtain ⟨q, hq⟩ : ∃ q, (fr + i) % M = q := ⟨_, rfl⟩
  have hql : q < M := by rw [← hq]; exact Nat.mod_lt _ (by omega)
  have hr : ((fr : Int) + (i : Int)).tmod (M : Int) = (q : Int) := by
    rw [Int.tmod_eq_emod_of_nonneg (by omega), ← hq, Int.natCast_emod, Int.natCast_add]
  rw [hq]
  have hq0 : (0 : Int) ≤ q := by omega
  have hq1 : (q : Int) < (M : Int) := by omega
  have hM0 : (M : Int) ≠ 0 := by omega
  have HQ := hid hq
  clear h hq
  go_enter Tryd.func25, Tryd.ntmps25
  go_wp2_with fail
  go_quiet (fail)
  go_wp2_with fail
  go_ret
  exact ⟨rfl, _, rfl⟩

/-- What 'at' leaves. -/
theorem Kept.drawn {S : List Nat} {w w' : World} (h : ∃ m, w' = w.drewN m) : Kept S w w' := by
  obtain ⟨m, rfl⟩ := h
  exact (Kept.refl _ _).drewN m

set_option maxRecDepth 100000 in
set_option maxHeartbeats 1000000 in
theorem put_full {w : World} {b bl M fr : Nat} {L : List Int} (h : RingAt w b bl M fr L) (hl : L.length = M) (v : Int) :
    Calls Tryd.prog 12 #[.pointer (some ⟨b, 0, none⟩), .int .u64 v] w fun e w' => ∃ v, e = .returned v ∧ ErrOut sRing 0 3 w v w' := by
  have c0 := h.c0
  have c2 := h.c2
  rw [hl] at c2
  have HL := hid hl
  have H := hid h
  clear h hl
  go_enter Tryd.func12, Tryd.ntmps12
  go_wp2_with fail
  go_quiet (fail)
  rename_i nq
  go_wp2_with fail
  go_ret
  exact ⟨_, rfl, _, rfl, Nat.le_refl _, Blk.newA _ _ rfl, ((Kept.refl _ _).drewN nq).alloc _⟩

set_option maxRecDepth 100000 in
set_option maxHeartbeats 1000000 in
theorem put_ok {w : World} {b bl M fr : Nat} {L : List Int} (h : RingAt w b bl M fr L) (hl : L.length < M) (v : Int) :
    Calls Tryd.prog 12 #[.pointer (some ⟨b, 0, none⟩), .int .u64 v] w fun e w' => e = .returned .nilIface ∧ RingAt w' b bl M fr (L ++ [v]) ∧ Kept [b, bl] w w' := by
  have c0 := h.c0
  have c2 := h.c2
  have hM := h.small
  have hne := h.ne
  obtain ⟨n, hn⟩ : ∃ n, L.length = n := ⟨_, rfl⟩
  rw [hn] at c2 hl
  have hln : ((n : Int) == (M : Int)) = false := by simp; omega
  have HN := hid hn
  have H := hid h
  clear h hn
  go_enter Tryd.func12, Tryd.ntmps12
  go_wp2_with fail
  go_quiet (fail)
  rename_i nq
  go_wp2_with fail
  have H1 := hid (H.out.keptN ((Kept.refl _ _).drewN nq))
  refine (at_ok H1.out n hl).mono ?_
  rintro e w2 ⟨rfl, hm⟩
  have HK := hid (Kept.drawn (S := []) hm)
  have H2 := hid (H1.out.keptN HK.out)
  have c2' := H2.out.c2
  rw [HN.out] at c2'
  obtain ⟨x, hx⟩ := H2.out.any n
  have z1 := H2.out.froz ((fr + n) % M)
  have z2 := H2.out.head.frozen 2
  have hp := hid (H2.out.push (by rw [HN.out]; exact hl) v)
  rw [HN.out] at hp
  clear hm c0 c2
  go_wp2_with fail
  go_ret
  exact ⟨rfl, hp.out, ((((Kept.refl [b, bl] w).drewN nq).trans HK.out.nil).setCell (.inl (by simp)) _).setCell (.inl (by simp)) _⟩

theorem take_none {w : World} {b bl M fr : Nat} (h : RingAt w b bl M fr []) :
    Calls Tryd.prog 13 #[.pointer (some ⟨b, 0, none⟩)] w fun e w' => e = .returned (.tuple #[.int .u64 0, .bool false]) ∧ w = w' := by
  have c2 := h.c2
  rw [List.length_nil] at c2
  have H := hid h
  clear h
  go_enter Tryd.func13, Tryd.ntmps13
  go_wp2_with fail
  go_ret2
  exact ⟨rfl, rfl⟩

set_option maxRecDepth 100000 in
set_option maxHeartbeats 1000000 in
theorem take_some {w : World} {b bl M fr : Nat} {x : Int} {L : List Int} (h : RingAt w b bl M fr (x :: L)) :
    Calls Tryd.prog 13 #[.pointer (some ⟨b, 0, none⟩)] w fun e w' => e = .returned (.tuple #[.int .u64 x, .bool true]) ∧ RingAt w' b bl M ((fr + 1) % M) L ∧ Kept [b] w w' := by
  have c2 := h.c2
  have hM := h.small
  have hne := h.ne
  have hlen := h.len
  have hfr := h.frm
  rw [List.length_cons] at c2 hlen
  obtain ⟨n, hn⟩ : ∃ n, L.length = n := ⟨_, rfl⟩
  rw [hn] at c2 hlen
  have hln : (((n + 1 : Nat) : Int) == 0) = false := by simp; omega
  have HN := hid hn
  have H := hid h
  clear h hn
  go_enter Tryd.func13, Tryd.ntmps13
  go_wp2_with fail
  refine (at_ok H.out 0 (by omega)).mono ?_
  rintro e w2 ⟨rfl, hm⟩
  have HK := hid (Kept.drawn (S := []) hm)
  have H2 := hid (H.out.keptN HK.out)
  have c0' := H2.out.c0
  have c1' := H2.out.c1
  have c2' := H2.out.c2
  rw [List.length_cons, HN.out] at c2'
  have d0 : w2.cell? ⟨bl, fr % M, none⟩ = some (.int .u64 x) := H2.out.cell (i := 0) rfl
  have z1 := H2.out.head.frozen 1
  have z2 := H2.out.head.frozen 2
  have hp := hid H2.out.pop
  rw [HN.out] at hp
  obtain ⟨q, hq⟩ : ∃ q, (fr + 1) % M = q := ⟨_, rfl⟩
  have hr : ((fr : Int) + 1).tmod (M : Int) = (q : Int) := by
    rw [Int.tmod_eq_emod_of_nonneg (by omega), ← hq, Int.natCast_emod, Int.natCast_add]; rfl
  have hs : IntKind.i64.wrap ((fr : Int) + 1) = (fr : Int) + 1 := IntWalk.i64_in _ ⟨by omega, by omega⟩
  rw [hq] at hp
  have hM0 : (M : Int) ≠ 0 := by omega
  have HQ := hid hq
  clear hm c2 hq
  go_wp2_with fail
  go_region
  go_wp2_with fail
  go_ret2
  rw [HQ.out]
  have hk : Kept [b] w ((w2.setCell ⟨b, 1, none⟩ (.int .i64 q)).setCell ⟨b, 2, none⟩ (.int .i64 n)) := (HK.out.nil.setCell (.inl (by simp)) _).setCell (.inl (by simp)) _
  exact ⟨rfl, hp.out.keptN ⟨rfl, rfl, rfl, Nat.le_refl _, fun _ _ _ => rfl⟩, hk.trans ⟨rfl, rfl, rfl, Nat.le_refl _, fun _ _ _ => rfl⟩⟩

end Go.Proofs.YtccfkpopjapmnaaDoor
