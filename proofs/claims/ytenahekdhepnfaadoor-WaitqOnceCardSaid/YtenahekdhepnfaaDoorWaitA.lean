/- package waitq: the law WaitqOnce. -/
import Derived.Test.YtenahekdhepnfaaDoorWaitG
import Derived.Test.YtenahekdhepnfaaDoorSpoil
import Derived.Test.YtenahekdhepnfaaDoorOpen
namespace Go.Proofs.YtenahekdhepnfaaDoor
open Go Go.RowKit

/-- How often an id was met when so many buckets, and so many of the next one, were told. -/
def met (Q : List Slp) (b i x : Nat) : Nat := Q.countP (fun s => s.id == x && decide (bktN s.addr 4 < b)) + ((bks Q 4 b).take i).countP (fun s => s.id == x)
theorem met_zero (Q : List Slp) (x : Nat) : met Q 0 0 x = 0 := by
  unfold met
  rw [List.take_zero]
  simp
theorem met_succ {Q : List Slp} {b i : Nat} {s : Slp} (h : (bks Q 4 b)[i]? = some s) (x : Nat) : met Q b (i + 1) x = met Q b i x + if x = s.id then 1 else 0 := by
  unfold met
  rw [List.take_add_one, h, List.countP_append]
  by_cases e : x = s.id
  · subst e
    simp
    omega
  · rw [if_neg e]
    have : ¬ s.id = x := fun h => e h.symm
    simp [this]
theorem countP_part (Q : List Slp) (b x : Nat) : Q.countP (fun s => s.id == x && decide (bktN s.addr 4 < b)) + (bks Q 4 b).countP (fun s => s.id == x) = Q.countP (fun s => s.id == x && decide (bktN s.addr 4 < b + 1)) := by
  unfold bks
  induction Q with
  | nil => rfl
  | cons s Q ih =>
    by_cases e1 : bktN s.addr 4 = b
    · rw [List.filter_cons_of_pos (by simpa using e1), List.countP_cons, List.countP_cons, List.countP_cons]
      have h1 : ¬ bktN s.addr 4 < b := by omega
      have h2 : bktN s.addr 4 < b + 1 := by omega
      by_cases e2 : s.id = x <;> simp [h1, h2, e2] at ih ⊢ <;> omega
    · rw [List.filter_cons_of_neg (by simpa using e1), List.countP_cons, List.countP_cons]
      by_cases h1 : bktN s.addr 4 < b
      · have h2 : bktN s.addr 4 < b + 1 := by omega
        by_cases e2 : s.id = x <;> simp [h1, h2, e2] at ih ⊢ <;> omega
      · have h2 : ¬ bktN s.addr 4 < b + 1 := by omega
        by_cases e2 : s.id = x <;> simp [h1, h2, e2] at ih ⊢ <;> omega
theorem met_next (Q : List Slp) (b x : Nat) : met Q b (bks Q 4 b).length x = met Q (b + 1) 0 x := by
  unfold met
  rw [List.take_length, countP_part, List.take_zero]
  simp
theorem met_end {Q : List Slp} (hn : (Q.map (·.id)).Nodup) {s : Slp} (hs : s ∈ Q) : met Q 4 0 s.id = 1 := by
  unfold met
  rw [List.take_zero, List.countP_nil, Nat.add_zero]
  have : Q.countP (fun t => t.id == s.id && decide (bktN t.addr 4 < 4)) = (Q.map (·.id)).count s.id := by
    rw [List.count, List.countP_map]
    apply List.countP_congr
    intro t _
    have := bktN_lt t.addr (show 1 ≤ 4 by decide)
    simp [this]
  rw [this]
  exact List.Nodup.count hn |>.trans (if_pos (List.mem_map.2 ⟨s, hs, rfl⟩))
theorem met_le (Q : List Slp) (b i x : Nat) : met Q b i x ≤ Q.length + Q.length := by
  unfold met
  have h1 : Q.countP (fun s => s.id == x && decide (bktN s.addr 4 < b)) ≤ Q.length := List.countP_le_length
  have h2 : ((bks Q 4 b).take i).countP (fun s => s.id == x) ≤ ((bks Q 4 b).take i).length := List.countP_le_length
  have h3 : ((bks Q 4 b).take i).length ≤ (bks Q 4 b).length := by rw [List.length_take]; omega
  have h4 : (bks Q 4 b).length ≤ Q.length := List.length_filter_le _ _
  omega
/-- The counts, as they lie. -/
def metV (Q : List Slp) (b i m : Nat) : List Value := (List.range m).map fun x => .int .i64 (met Q b i x)
theorem metV_get (Q : List Slp) (b i : Nat) {m x : Nat} (hx : x < m) : (metV Q b i m)[x]? = some (.int .i64 (met Q b i x)) := by simp [metV, hx]
theorem metV_set {Q : List Slp} {b i m : Nat} {s : Slp} (h : (bks Q 4 b)[i]? = some s) : (metV Q b i m).set s.id (.int .i64 ((met Q b i s.id : Int) + 1)) = metV Q b (i + 1) m := by
  apply List.ext_getElem?
  intro x
  rw [List.getElem?_set]
  unfold metV
  by_cases e : s.id = x
  · subst e
    by_cases hm : s.id < m
    · rw [if_pos rfl]
      simp [hm, met_succ h]
    · rw [if_pos rfl]
      simp [hm]
  · rw [if_neg e]
    by_cases hm : x < m
    · have : ¬ x = s.id := fun h => e h.symm
      simp [hm, met_succ h, this]
    · simp [hm]
theorem metV_next (Q : List Slp) (b m : Nat) : metV Q b (bks Q 4 b).length m = metV Q (b + 1) 0 m := by
  unfold metV
  apply List.map_congr_left
  intro x _
  rw [met_next]
theorem info_int : (Tryd.prog.info? 3).map (fun i => (i.zero, i.size, i.bytes)) = some (some (.int .i64 0), 1, 8) := by kernel_rfl
theorem metV_zero (Q : List Slp) (m : Nat) : rowsOf 1 (fun _ _ => .int .i64 0) m = metV Q 0 0 m := by
  apply List.ext_getElem?
  intro x
  unfold metV rowsOf
  by_cases hm : x < m
  · simp [hm, met_zero]
  · simp [hm]

set_option maxRecDepth 100000 in
set_option maxHeartbeats 8000000 in
theorem once_law (aA : Option Addr) (len cA : Nat) (gA : Nat → Nat → Int) (drop again : Int) (w : World) (hg : Laid w) (hA : IntRows w aA len [.u64] gA) (d0 : -9223372036854775808 ≤ drop) (d1 : drop ≤ 9223372036854775807) (a0 : 0 ≤ again) (a1 : again ≤ 18446744073709551615) :
    Calls Tryd.prog 4 #[.slice aA len cA, .int .i64 drop, .int .u64 again] w fun e w' => e = .returned (.bool true) ∧ Kept [] w w' := by
  obtain ⟨ag, rfl⟩ : ∃ x : Nat, again = (x : Int) := ⟨again.toNat, by omega⟩
  have HG := hid hg
  have hlen : len ≤ 9223372036854775807 := by have := hA.small; unfold maxLen at this; omega
  by_cases hl : 40 < len ∨ len = 0
  · clear hg hA d0 d1 a0 a1
    rcases hl with hl | hl
    · have h1 : (40 : Int) < (len : Int) := by omega
      go_enter Tryd.func4, Tryd.ntmps4
      go_wp2_with fail
      refine (awake_ok _).mono ?_
      rintro e w1 ⟨rfl, hK⟩
      have HK := hid hK
      clear hK
      go_wp2_with fail
      go_ret
      exact ⟨rfl, HK.out⟩
    · subst hl
      go_enter Tryd.func4, Tryd.ntmps4
      go_wp2_with fail
      refine (awake_ok _).mono ?_
      rintro e w1 ⟨rfl, hK⟩
      have HK := hid hK
      clear hK
      go_wp2_with fail
      go_ret
      exact ⟨rfl, HK.out⟩
  · have hl1 : len ≤ 40 := by omega
    have hl2 : 1 ≤ len := by omega
    have HFL := hid (filled_ok aA none len cA 0 0 gA (fun _ _ => 0) w hA ⟨fun i hi => by omega, fun i j k hi => by omega, by unfold maxLen; omega⟩ (by omega))
    have HWI := hid (within_ok drop len (by omega) d0 d1 (by omega))
    obtain ⟨dd, hdd⟩ : ∃ dd : Nat, drop % (len : Int) = (dd : Int) := ⟨(drop % (len : Int)).toNat, by have := Int.emod_nonneg drop (show (len : Int) ≠ 0 by omega); omega⟩
    have hddl : dd < len := by have := Int.emod_lt_of_pos drop (show (0 : Int) < (len : Int) by omega); omega
    rw [hdd] at HWI
    have AG := hid (show ag < 18446744073709551616 by omega)
    have hz : ((len : Int) == 0) = false := by simp; omega
    have hmk : ∀ w : World, (Instr.makeSlice 38 (.int .i64 ((len : Int) + 1)) (.int .i64 ((len : Int) + 1))).run Tryd.prog w = .ok (.slice (some ⟨w.heap.size, 0, none⟩) (len + 1) (len + 1)) (w.alloc (.cells (rowsOf 1 (fun _ _ => .int .i64 0) (len + 1)).toArray 3)) := fun w => by
      have := mk_rows Tryd.underlying38 info_int (fun _ => .int .i64 0) rfl (len + 1) (by omega) (by omega) w
      rwa [show ((len + 1 : Nat) : Int) = (len : Int) + 1 from by omega] at this
    have h40 : decide ((40 : Int) < (len : Int)) = false := by simp; omega
    clear hg hA d0 d1 a0 a1 hl hdd
    go_enter Tryd.func4, Tryd.ntmps4
    go_wp2_with fail
    refine HFL.out.mono ?_
    rintro e w1 ⟨qb, lb, mb, Q, rfl, hW, hF, hqb, hO, hK⟩
    have HW := hid hW
    have HF := hid hF
    have HO := hid hO
    have HK1 := hid hK
    have hQl := hid hF.len
    clear hW hF hO hK
    go_wp2_with fail
    obtain ⟨kb, hkb⟩ : ∃ kb, w1.heap.size = kb := ⟨_, rfl⟩
    have hK2 : Kept [] w1 (w1.alloc (.cells (rowsOf 1 (fun _ _ => .int .i64 0) (len + 1)).toArray 3)) := (Kept.refl _ _).alloc _
    have HB2 := hid (show Blk (w1.alloc (.cells (rowsOf 1 (fun _ _ => .int .i64 0) (len + 1)).toArray 3)) kb (metV Q 0 0 (len + 1)) by rw [← metV_zero]; exact Blk.newA _ _ hkb.symm)
    have hkq : qb < kb := by rw [← hkb]; exact HW.out.lists.head.lt
    have HKO := hid (fun x (hx : x ∈ owned lb mb Q) => (show x < kb by rw [← hkb]; exact HW.out.owned_lt x hx))
    have hkw : w.heap.size ≤ kb := by rw [← hkb]; exact HK1.out.size
    have HK2 := hid (HK1.out.trans hK2)
    have HW2 := hid (HW.out.keptN hK2)
    rw [hkb]
    clear hmk hkb hK2
    go_loopw [9] (fun s9 wr => ∃ b : Nat, b ≤ 4 ∧ s9 = .int .i64 b ∧ WaitsAt wr qb lb mb 4 Q ∧ Blk wr kb (metV Q b 0 (len + 1)) ∧ Kept [] w wr) (fun s9 _ => 4 - (intOf s9).toNat)
    case atStart => exact ⟨0, by omega, rfl, HW2.out, HB2.out, HK2.out⟩
    case round =>
      obtain ⟨b, hb, rfl, hWr, hBr, hKr⟩ := hrel
      have HWr := hid hWr
      have HBr := hid hBr
      have HKr := hid hKr
      clear hWr hBr hKr
      by_cases hb4 : b < 4
      · go_wp2_with fail
        refine (tell_ok HWr.out b hb4 (by rw [hQl.out]; omega)).mono ?_
        rintro e w3 ⟨v, rfl, hR3, hK3⟩
        have hll : (bks Q 4 b).length ≤ len := by rw [← hQl.out]; exact List.length_filter_le _ _
        obtain ⟨l, hl⟩ : ∃ l, bks Q 4 b = l := ⟨_, rfl⟩
        have HL := hid hl
        rw [hl] at hR3 hll
        obtain ⟨a3, c3, rfl⟩ := own_form' hR3
        have HR3 := hid hR3
        have hkbl := HBr.out.lt
        have HW3 := hid (HWr.out.keptN hK3)
        have HB3 := hid (HBr.out.keptN hK3)
        have HK3 := hid (HKr.out.trans hK3)
        have HNK := hid (show kb ∉ (Value.slice a3 l.length c3).ownBlock.toList from fun hm => by have := own_ge hR3 kb hm; omega)
        have HFAR := hid (fun x (hm : x ∈ (Value.slice a3 l.length c3).ownBlock.toList) => own_ge hR3 x hm)
        have hqr := HWr.out.lists.head.lt
        have HOR := hid (fun x (hx : x ∈ owned lb mb Q) => HWr.out.owned_lt x hx)
        have hwr3 := HKr.out.size
        clear hl hR3 hK3
        obtain ⟨wo, rfl⟩ : ∃ wo : World, wo = wr := ⟨_, rfl⟩
        go_wp2_with fail
        go_loopw [11] (fun s11 wx => ∃ i : Nat, i ≤ l.length ∧ s11 = .int .i64 i ∧ WaitsAt wx qb lb mb 4 Q ∧ Blk wx kb (metV Q b i (len + 1)) ∧ wx.ownsRow wo.heap.size 36 1 (.slice a3 l.length c3) l.length (GV (idsOf l)) ∧ Kept [] w wx) (fun s11 _ => l.length - (intOf s11).toNat)
        case atStart => exact ⟨0, Nat.zero_le _, rfl, HW3.out, HB3.out, HR3.out, HK3.out⟩
        case round =>
          obtain ⟨i, hi, rfl, hWx, hBx, hRx, hKx⟩ := hrel
          have HWx := hid hWx
          have HBx := hid hBx
          have HRx := hid hRx
          have HKx := hid hKx
          clear hWx hBx hRx hKx
          by_cases hil : i < l.length
          · obtain ⟨s, hs⟩ : ∃ s, l[i]? = some s := ⟨_, List.getElem?_eq_getElem hil⟩
            have hsb : (bks Q 4 b)[i]? = some s := by rw [HL.out]; exact hs
            obtain ⟨hsQ, hbk⟩ := bks_mem hsb
            obtain ⟨j, hj⟩ := List.getElem?_of_mem hsQ
            have hsid := (HF.out.at' j s hj).1
            have hjl := (List.getElem?_eq_some_iff.1 hj).1
            rw [hQl.out] at hjl
            obtain ⟨m, hm⟩ : ∃ m, l.length = m + 1 := ⟨l.length - 1, by omega⟩
            obtain ⟨g, rfl, hx⟩ : ∃ g, a3 = some ⟨g, 0, none⟩ ∧ wr.cell? ⟨g, i, none⟩ = some (.int .u64 s.id) := by
              have hr := HRx.out
              have hr2 := hr
              rw [hm] at hr2
              obtain ⟨g, cap, e, -⟩ := own_form hr2
              cases e
              exact ⟨g, rfl, own_cell hr (by simp [GV, idsOf, hs])⟩
            have HWH := hid (where_some HWx.out hsQ)
            rw [hbk] at HWH
            have hc := HBx.out.cell (o := s.id) (metV_get Q b i (by omega))
            have hz := HBx.out.frozen s.id
            have hmle := met_le Q b i s.id
            rw [hQl.out] at hmle
            have hsetm := hid (metV_set (m := len + 1) hsb)
            obtain ⟨c, hcm⟩ : ∃ c, met Q b i s.id = c := ⟨_, rfl⟩
            rw [hcm] at hc hmle hsetm
            obtain ⟨x, hxx⟩ : ∃ x, s.id = x := ⟨_, rfl⟩
            rw [hxx] at hx HWH hc hz hsetm hsid
            have hx1 : ¬ (x : Int) < 1 := by omega
            have hx2 : ¬ (len : Int) < (x : Int) := by omega
            have hx3 : (x : Int) < (len : Int) + 1 := by omega
            have hbb : ((b : Int) != (b : Int)) = false := by simp
            clear hs hsb hbk hj hsid hm hxx hcm hsQ
            go_wp2_with fail
            refine HWH.out.mono ?_
            rintro e w4 ⟨rfl, hK4⟩
            have hx := hK4.cellSome hx (by simp)
            have hc := hK4.cellSome hc (by simp)
            have hz := (HBx.out.keptN hK4).frozen x
            have HK4 := hid hK4
            clear hK4
            go_wp2_with fail
            go_roundw
            case rel =>
              have hk5 : Kept [kb] w4 (w4.setCell ⟨kb, x, none⟩ (.int .i64 ((c : Int) + 1))) := (Kept.refl _ _).setCell (.inl (by simp)) _
              refine ⟨i + 1, by omega, by go_num, (HWx.out.keptN HK4.out).kept hk5 (by simp; omega) (fun y hy hm => ?_), ?_, own_kept (own_keptN HRx.out HK4.out) hk5 (fun y hy hm => ?_), (HKx.out.trans HK4.out).setCell (.inr hkw) _⟩
              · have := HKO.out y hy
                simp at hm
                omega
              · rw [← hsetm.out]
                exact (HBx.out.keptN HK4.out).set x _
              · rw [List.mem_singleton.1 hm] at hy
                exact HNK.out hy
            case measure => simp [intOf]; omega
          · obtain rfl : i = l.length := by omega
            have HSP := hid (spoil_ok HRx.out)
            go_wp2_with fail
            refine HSP.out.mono ?_
            rintro e w4 ⟨rfl, hK4⟩
            have HK4 := hid hK4
            clear hK4
            go_wp2_with fail
            go_roundw
            case rel =>
              refine ⟨b + 1, by omega, by go_num, HWx.out.kept HK4.out (fun hm => ?_) (fun y hy hm => ?_), ?_, HKx.out.trans' HK4.out (fun y hy => .inr ?_)⟩
              · have := HFAR.out qb hm; omega
              · have := HFAR.out y hm
                have := HOR.out y hy
                omega
              · rw [← metV_next, HL.out]
                exact HBx.out.kept HK4.out HNK.out
              · have := HFAR.out y hy; omega
            case measure => simp [intOf]; omega
      · have hbe : b = 4 := by omega
        rw [hbe] at HBr
        have hbI : ¬ (b : Int) < 4 := by omega
        clear hb hb4 hbe
        go_wp2_with fail
        go_loopw [16] (fun s16 wx => ∃ i : Nat, 1 ≤ i ∧ i ≤ len + 1 ∧ s16 = .int .i64 i ∧ WaitsAt wx qb lb mb 4 Q ∧ Blk wx kb (metV Q 4 0 (len + 1)) ∧ Kept [] w wx) (fun s16 _ => len + 1 - (intOf s16).toNat)
        case atStart => exact ⟨1, Nat.le_refl _, by omega, rfl, HWr.out, HBr.out, HKr.out⟩
        case round =>
          obtain ⟨i, hi1, hi2, rfl, hWx, hBx, hKx⟩ := hrel
          have HWx := hid hWx
          have HBx := hid hBx
          have HKx := hid hKx
          clear hWx hBx hKx
          by_cases hil : i < len + 1
          · obtain ⟨j, hj⟩ : ∃ j, i = j + 1 := ⟨i - 1, by omega⟩
            obtain ⟨s, hs⟩ : ∃ s, Q[j]? = some s := ⟨_, List.getElem?_eq_getElem (by rw [hQl.out]; omega)⟩
            have hsQ := List.mem_of_getElem? hs
            have hsid := (HF.out.at' j s hs).1
            have hme := met_end HWx.out.ids hsQ
            rw [hsid, ← hj] at hme
            have hc := HBx.out.cell (o := i) (metV_get Q 4 0 (by omega))
            rw [hme] at hc
            have HP := hid (put_twice HWx.out hsQ (by omega) (i : Int) (by omega) (ag : Int) 1)
            have h11 : (((1 : Nat) : Int) != 1) = false := by decide
            have h11' : ((1 : Int) != 1) = false := by decide
            have hc : wr.cell? ⟨kb, i, none⟩ = some (.int .i64 1) := hc
            clear hs hsQ hsid hme hj
            go_wp2_with fail
            refine HP.out.mono ?_
            rintro e w4 ⟨v, rfl, be, rfl, hbe, hB4, hK4⟩
            have HB4 := hid hB4
            have HK4 := hid hK4
            clear hB4 hK4
            go_wp2_with fail
            refine (no_ok _ _ _ _).mono ?_
            rintro e w5 ⟨fb, rfl, hF5, hfb, hK5⟩
            have HF5 := hid hF5
            have HK5 := hid (HK4.out.trans hK5)
            have HB5 := hid (HB4.out.keptN hK5)
            clear hF5 hK5
            go_wp2_with fail
            refine (same_hit be fb sWaitq 0 8 (by decide) (by decide) _ (HG.out.keptN (HKx.out.trans HK5.out)) HB5.out HF5.out).mono ?_
            rintro e w6 ⟨rfl, hK6⟩
            have HK6 := hid (HK5.out.trans hK6)
            clear hK6
            go_wp2_with fail
            go_roundw
            case rel => exact ⟨i + 1, by omega, by omega, by go_num, HWx.out.keptN HK6.out, HBx.out.keptN HK6.out, HKx.out.trans HK6.out⟩
            case measure => simp [intOf]; omega
          · obtain rfl : i = len + 1 := by omega
            obtain ⟨s, hs⟩ : ∃ s, Q[dd]? = some s := ⟨_, List.getElem?_eq_getElem (by rw [hQl.out]; exact hddl)⟩
            have hsQ := List.mem_of_getElem? hs
            have hsid := (HF.out.at' dd s hs).1
            obtain ⟨x, hx⟩ : ∃ x : Nat, dd + 1 = x := ⟨_, rfl⟩
            have hxI : 1 + (dd : Int) = (x : Int) := by omega
            have hxw : IntKind.u64.wrap (x : Int) = (x : Int) := by rw [IntKind.wrap_u64]; omega
            rw [hx] at hsid
            have HDS := hid (drop_some HWx.out hsQ)
            rw [hsid] at HDS
            have hxb : x < 18446744073709551616 := by omega
            have hno : ∀ t, t ∈ rem Q x → t.id ≠ x := fun t ht => by
              have := (List.mem_filter.1 ht).2
              simpa using this
            have hrl : (rem Q x).length + 1 = len := by
              have := erase_filter Q dd s hs HWx.out.ids
              rw [hsid] at this
              unfold rem
              rw [this, List.length_eraseIdx_of_lt (by rw [hQl.out]; exact hddl), hQl.out]
              omega
            obtain ⟨m, hm⟩ : ∃ m, (rem Q x).length = m := ⟨_, rfl⟩
            have hmI : (len : Int) - 1 = (m : Int) := by omega
            have hmm : ((m : Int) != (m : Int)) = false := by simp
            have HM := hid hm
            have HNO := hid hno
            have HXB := hid hxb
            have hx0 : x ≠ 0 := by omega
            clear hs hsQ hsid hx hxb hno hrl hm
            go_wp2_with fail
            refine (HWI.out _).mono ?_
            rintro e w4 ⟨rfl, rfl⟩
            go_wp2_with fail
            refine HDS.out.mono ?_
            rintro e w4 ⟨rfl, hW4, -, hK4⟩
            have HW4 := hid hW4
            have HK4 := hid (HKx.out.trans' hK4 (fun y hy => .inr (HO.out y hy)))
            clear hW4 hK4
            go_wp2_with fail
            refine (drop_none HW4.out HXB.out HNO.out).mono ?_
            rintro e w5 ⟨rfl, rfl⟩
            have HLE := hid (len_ok HW4.out)
            rw [HM.out] at HLE
            go_wp2_with fail
            refine HLE.out.mono ?_
            rintro e w5 ⟨rfl, rfl⟩
            go_wp2_with fail
            refine (where_none HW4.out HXB.out HNO.out).mono ?_
            rintro e w5 ⟨rfl, rfl⟩
            go_wp2_with fail
            refine (put_ok HW4.out x ag 1 hx0 HXB.out (by decide) HNO.out).mono ?_
            rintro e w5 ⟨sb, rfl, hsb, hW5, hK5⟩
            have HK5 := hid (HK4.out.trans' hK5 (fun y hy => .inr (HO.out y (rem_owned hy))))
            clear hW5 hK5
            go_wp2_with fail
            refine (awake_ok _).mono ?_
            rintro e w6 ⟨rfl, hK6⟩
            have HK6 := hid hK6
            clear hK6
            go_wp2_with fail
            go_ret
            exact ⟨rfl, HK5.out.trans HK6.out⟩

end Go.Proofs.YtenahekdhepnfaaDoor
