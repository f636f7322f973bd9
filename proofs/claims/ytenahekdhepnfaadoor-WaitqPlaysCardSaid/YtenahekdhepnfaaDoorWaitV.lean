/- package waitq: Where: contract. -/
import Derived.Test.YtenahekdhepnfaaDoorWaitT
namespace Go.Proofs.YtenahekdhepnfaaDoor
open Go Go.RowKit

theorem results_four {P : Program} {fn : Func} {t u v x : Tmp} (h : fn.results = #[.tmp t, .tmp u, .tmp v, .tmp x]) (tmps : Array Value) (w : World) :
    (results fn tmps).run P w = .ok (.tuple #[tmps.getD t undef, tmps.getD u undef, tmps.getD v undef, tmps.getD x undef]) w := by
  simp [results, h]

set_option maxRecDepth 100000 in
set_option maxHeartbeats 1000000 in
theorem where_some {w : World} {qb lb mb n : Nat} {Q : List Slp} (h : WaitsAt w qb lb mb n Q) {s : Slp} (hs : s ∈ Q) :
    Calls Tryd.prog 13 #[.pointer (some ⟨qb, 0, none⟩), .int .u64 s.id] w fun e w' => e = .returned (.tuple #[.int .u64 s.addr, .int .u64 s.mask, .int .i64 (bktN s.addr n), .bool true]) ∧ Kept [] w w' := by
  have c1 := h.lists.head.cell (o := 1) rfl
  have hby : byId Q (s.id : Int) = some (.pointer (some ⟨s.blk, 0, none⟩)) := by
    unfold byId
    rw [find_id h.ids hs]
    rfl
  obtain ⟨x, y, hB⟩ := h.slp hs
  have s1 := hB.cell (o := 1) rfl
  have s2 := hB.cell (o := 2) rfl
  have H := hid h
  have HBY := hid hby
  have hwf := hid (wf_id (h.lt s hs).1)
  have HQ := hid (fun (W : World) (hW : Blk W qb [.slice (some ⟨lb, 0, none⟩) n n, .map (some mb)]) => qbucket_ok hW h.lists.pos h.lists.small s.addr)
  clear h hby hs hB
  go_enter Tryd.func13, Tryd.ntmps13
  go_wp2_with (first | (at_lookup; go_must (refine wp_mapGet1 rfl _ _ 57 36 71 rfl Tryd.underlying57 Tryd.underlying36 (zero_slp _) rfl H.out.map hwf.out rfl HBY.out ?_)))
  go_quiet ((go_at_call 26; refine Calls.quiet_of_same ((HQ.out _ ?_).mono fun _ _ h => ⟨h.1, h.2.symm⟩); exact H.out.lists.head))
  rename_i nq
  go_wp2_with fail
  refine bodyPost_ret (results_four rfl _ _) rfl ?_
  exact ⟨rfl, (Kept.refl _ _).drewN nq⟩

set_option maxRecDepth 100000 in
set_option maxHeartbeats 1000000 in
theorem where_none {w : World} {qb lb mb n : Nat} {Q : List Slp} (h : WaitsAt w qb lb mb n Q) {id : Nat} (hi : id < 18446744073709551616) (hno : ∀ t, t ∈ Q → t.id ≠ id) :
    Calls Tryd.prog 13 #[.pointer (some ⟨qb, 0, none⟩), .int .u64 id] w fun e w' => e = .returned (.tuple #[.int .u64 0, .int .u64 0, .int .i64 0, .bool false]) ∧ w = w' := by
  have c1 := h.lists.head.cell (o := 1) rfl
  have hby : byId Q (id : Int) = none := by
    unfold byId
    rw [List.find?_eq_none.2]
    · rfl
    · intro t ht
      have := hno t ht
      simp
      omega
  have H := hid h
  have HBY := hid hby
  have hwf := hid (wf_id hi)
  clear h hby hno
  go_enter Tryd.func13, Tryd.ntmps13
  go_wp2_with (first | (at_lookup; go_must (refine wp_mapGet0 rfl _ _ 57 36 71 rfl Tryd.underlying57 Tryd.underlying36 (zero_slp _) rfl H.out.map hwf.out rfl HBY.out ?_)))
  refine bodyPost_ret (results_four rfl _ _) rfl ?_
  exact ⟨rfl, rfl⟩

end Go.Proofs.YtenahekdhepnfaaDoor
