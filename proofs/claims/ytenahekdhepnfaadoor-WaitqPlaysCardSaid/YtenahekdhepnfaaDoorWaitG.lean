/- package waitq: what Put refuses. -/
import Derived.Test.YtenahekdhepnfaaDoorWaitE
namespace Go.Proofs.YtenahekdhepnfaaDoor
open Go Go.RowKit

set_option maxRecDepth 100000 in
set_option maxHeartbeats 1000000 in
theorem put_zero {w : World} {qb lb mb n : Nat} {Q : List Slp} (_ : WaitsAt w qb lb mb n Q) (id : Nat) (hi : id = 0) (addr mask : Int) :
    Calls Tryd.prog 15 #[.pointer (some ⟨qb, 0, none⟩), .int .u64 id, .int .u64 addr, .int .u64 mask] w fun e w' => ∃ v, e = .returned v ∧ ErrOut sWaitq 0 1 w v w' := by
  subst hi
  go_enter Tryd.func15, Tryd.ntmps15
  go_wp2_with fail
  refine (qfail_ok 1 _).mono ?_
  rintro e w1 ⟨v, rfl, hE⟩
  have HE := hid hE
  clear hE
  go_wp2_with fail
  go_ret
  exact ⟨v, rfl, HE.out⟩
set_option maxRecDepth 100000 in
set_option maxHeartbeats 1000000 in
theorem put_twice {w : World} {qb lb mb n : Nat} {Q : List Slp} (h : WaitsAt w qb lb mb n Q) {s : Slp} (hs : s ∈ Q) (h0 : s.id ≠ 0) (iv : Int) (e : iv = s.id) (addr mask : Int) :
    Calls Tryd.prog 15 #[.pointer (some ⟨qb, 0, none⟩), .int .u64 iv, .int .u64 addr, .int .u64 mask] w fun e w' => ∃ v, e = .returned v ∧ ErrOut sWaitq 0 8 w v w' := by
  subst e
  have c1 := h.lists.head.cell (o := 1) rfl
  have hid0 : ((s.id : Int) == 0) = false := by simp; exact h0
  have hby : byId Q (s.id : Int) = some (.pointer (some ⟨s.blk, 0, none⟩)) := by
    unfold byId
    rw [find_id h.ids hs]
    rfl
  have H := hid h
  have HBY := hid hby
  have hwf := hid (wf_id (h.lt s hs).1)
  clear h hby hs
  go_enter Tryd.func15, Tryd.ntmps15
  go_wp2_with (first | (at_lookup; go_must (refine wp_mapGet1 rfl _ _ 57 36 71 rfl Tryd.underlying57 Tryd.underlying36 (zero_slp _) rfl H.out.map hwf.out rfl HBY.out ?_)))
  refine (qfail_ok 8 _).mono ?_
  rintro e w1 ⟨v, rfl, hE⟩
  have HE := hid hE
  clear hE
  go_wp2_with fail
  go_ret
  exact ⟨v, rfl, HE.out⟩

end Go.Proofs.YtenahekdhepnfaaDoor
