/- The document's queues (distaffref09): Bucket: contract. -/
import Derived.Test.YtenahekdhepnfaaDoorWaitS
import Derived.Test.YtenahekdhepnfaaDoorApp
namespace Go.Proofs.YtenahekdhepnfaaDoor
open Go Go.RowKit

/-- Those of bucket b, in order. -/
def inB (Q : List Slp) (n : Nat) (b : Int) : List Slp := Q.filter fun s => (bktN s.addr n : Int) == b
theorem inB_nat (Q : List Slp) (n b : Nat) : inB Q n b = bks Q n b := by
  unfold inB bks
  congr 1
  funext s
  rw [Bool.eq_iff_iff]
  simp only [beq_iff_eq]
  omega
theorem inB_bad (Q : List Slp) (n : Nat) (hn : 1 ≤ n) (b : Int) (hb : b < 0 ∨ (n : Int) ≤ b) : inB Q n b = [] := by
  unfold inB
  rw [List.filter_eq_nil_iff]
  intro s _
  have := bktN_lt s.addr hn
  simp
  omega
theorem idsOf_snoc (L : List Slp) (s : Slp) : idsOf (L ++ [s]) = idsOf L ++ [(s.id : Int)] := by simp [idsOf]

set_option maxRecDepth 100000 in
set_option maxHeartbeats 4000000 in
theorem rbuck_ok {w : World} {rb : Nat} {U : List Nat} {Q : List Slp} {n : Nat} (h : RQIs w rb U Q n) (hQ : Q.length ≤ 100000) (hn1 : 1 ≤ n) (hn2 : n ≤ 64) (b : Int) :
    Calls Tryd.prog 37 #[.pointer (some ⟨rb, 0, none⟩), .int .i64 b] w fun e w' => ∃ v, e = .returned v ∧ w'.ownsRow w.heap.size 36 1 v (inB Q n b).length (GV (idsOf (inB Q n b))) ∧ Kept [] w w' := by
  obtain ⟨v, rfl, h⟩ := h
  obtain ⟨m, hm⟩ : ∃ m, Q.length = m := ⟨_, rfl⟩
  have hrow := h.row
  rw [hm] at hQ hrow
  obtain ⟨av, cv, rfl⟩ := own_form' hrow
  have c0 := h.head.cell (o := 0) rfl
  have c1 := h.head.cell (o := 1) rfl
  have hlt := h.head.lt
  have H := hid h
  have HM := hid hm
  have HC0 := hid c0
  have HC1 := hid c1
  have HB := hid (fun (a : Nat) W => rbucket_ok a n hn1 (by omega) W)
  have HALL := hid (show inB Q n b = inB (Q.take m) n b by rw [List.take_of_length_le (by omega)])
  have HLE := hid (fun k => show (inB (Q.take k) n b).length ≤ m from Nat.le_trans (List.length_filter_le _ _) (by rw [List.length_take]; omega))
  clear h hm hrow c0 c1
  go_enter Tryd.func37, Tryd.ntmps37
  go_wp2_with fail
  go_loopw [5, 6] (fun v s6 wr => ∃ k : Nat, k ≤ m ∧ s6 = .int .i64 k ∧ wr.ownsRow w.heap.size 36 1 v (inB (Q.take k) n b).length (GV (idsOf (inB (Q.take k) n b))) ∧ Kept [] w wr) (fun _ s6 _ => m - (intOf s6).toNat)
  case atStart => exact ⟨0, Nat.zero_le _, rfl, ⟨rfl, .inl ⟨rfl, rfl⟩⟩, Kept.refl _ _⟩
  case round =>
    obtain ⟨k, hk, rfl, hv, hK⟩ := hrel
    have HV := hid hv
    have HK := hid hK
    have c0 := hK.cellSome HC0.out (by simp)
    have c1 := hK.cellSome HC1.out (by simp)
    have hszk := hK.size
    clear hv hK
    by_cases hkm : k < m
    · obtain ⟨s, hs⟩ : ∃ s, Q[k]? = some s := ⟨_, List.getElem?_eq_getElem (by rw [HM.out]; exact hkm)⟩
      obtain ⟨g, rfl, d0, d1, -⟩ := H.out.cells HM.out hs
      have d0 := HK.out.cellSome d0 (by simp)
      have d1 := HK.out.cellSome d1 (by simp)
      have htk : Q.take (k + 1) = Q.take k ++ [s] := by rw [List.take_add_one, hs]; rfl
      by_cases e : (bktN s.addr n : Int) = b
      · have hb : (((bktN s.addr n : Nat) : Int) == b) = true := by simpa using e
        have HS := hid (show inB (Q.take (k + 1)) n b = inB (Q.take k) n b ++ [s] by rw [htk]; simp [inB, e])
        have hLE := HLE.out k
        obtain ⟨l, hl⟩ : ∃ l, (inB (Q.take k) n b).length = l := ⟨_, rfl⟩
        have HL := hid hl
        have HV' := hid HV.out
        rw [hl] at HV' hLE
        clear hs htk e hl HV
        go_wp2_with fail
        go_quiet ((go_at_call 48; exact Calls.quiet_of_same ((HB.out _ _).mono fun _ _ h => ⟨h.1, h.2.symm⟩)))
        rename_i nq
        have HVd := hid (own_keptN HV'.out ((Kept.refl [] wr).drewN nq))
        go_wp2_with (at_builtin; go_must (refine wp_app1 rfl _ _ 33 36 rfl Tryd.underlying33 info_u64 rfl (Nat.lt_succ_self 0) w.heap.size u5 l (GV (idsOf (inB (Q.take k) n b))) rfl ?c1 wr.heap.size 1 [.int .u64 s.id] rfl rfl (Blk.newA _ _ rfl) ?c2 ?c3 (Nat.le_of_ble_eq_true rfl) ?c4 ?_))
        case c1 => exact own_keptN HVd.out ((Kept.refl _ _).alloc _)
        case c2 => simp [Value.oneCell']
        case c3 => omega
        case c4 => simp; omega
        intro gg cap' w3 hW hgg hK
        have HW3 := hid hW
        have HK3 := hid (HK.out.trans' ((((Kept.refl _ wr).drewN nq).alloc (.cells #[.int .u64 s.id] 36)).trans hK) (fun x hx => .inr (own_ge HV'.out x hx)))
        clear hW hK hgg
        go_wp2_with fail
        go_roundw
        case rel =>
          refine ⟨k + 1, by omega, by go_num, ?_, HK3.out⟩
          rw [HS.out, idsOf_snoc, GV_snoc, List.length_append, HL.out]
          exact HW3.out
        case measure => simp [intOf]; omega
      · have hb : (((bktN s.addr n : Nat) : Int) == b) = false := by simpa using e
        have HS := hid (show inB (Q.take (k + 1)) n b = inB (Q.take k) n b by rw [htk]; simp [inB, e])
        clear hs htk e
        go_wp2_with fail
        go_quiet ((go_at_call 48; exact Calls.quiet_of_same ((HB.out _ _).mono fun _ _ h => ⟨h.1, h.2.symm⟩)))
        rename_i nq
        go_wp2_with fail
        go_roundw
        case rel => exact ⟨k + 1, by omega, by go_num, by rw [HS.out]; exact own_keptN HV.out ((Kept.refl [] wr).drewN nq), HK.out.drewN nq⟩
        case measure => simp [intOf]; omega
    · obtain rfl : k = m := by omega
      go_wp2_with fail
      go_ret
      refine ⟨_, rfl, ?_, HK.out⟩
      rw [HALL.out]
      exact HV.out

end Go.Proofs.YtenahekdhepnfaaDoor
