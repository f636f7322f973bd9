/- package waitq: first, Take, Move, Has, Where: contracts. -/
import Derived.Test.YtenahekdhepnfaaDoorWaitQ
import Derived.Deep.RegionHeld3
namespace Go.Proofs.YtenahekdhepnfaaDoor
open Go Go.RowKit

def fits (addr mask : Nat) (each : Bool) (s : Slp) : Bool := s.addr == addr && (each || decide (s.mask &&& mask ≠ 0))
theorem find_bks (Q : List Slp) (n addr mask : Nat) (each : Bool) : (bks Q n (bktN addr n)).find? (fits addr mask each) = Q.find? (fits addr mask each) := by
  unfold bks
  rw [List.find?_filter]
  apply congrArg (fun p => Q.find? p)
  funext t
  by_cases e : t.addr = addr
  · simp [fits, e]
  · simp [fits, e]
theorem find_at {l : List Slp} {p : Slp → Bool} {j : Nat} {t : Slp} (h : l[j]? = some t) (ht : p t = true) (hb : ∀ (i : Nat) (u : Slp), i < j → l[i]? = some u → p u = false) : l.find? p = some t := by
  rw [List.find?_eq_some_iff_getElem]
  obtain ⟨hj, e⟩ := List.getElem?_eq_some_iff.1 h
  refine ⟨ht, j, hj, e, fun i hi => ?_⟩
  have := hb i (l[i]'(by omega)) hi (List.getElem?_eq_getElem (by omega))
  simp [this]

/-- Where a link leads to in a list. -/
noncomputable def placeOf (l : List Slp) (v : Value) : Nat := Classical.epsilon fun j => j ≤ l.length ∧ v = lnk l[j]?
theorem placeOf_eq {l : List Slp} (hi : ∀ (i : Nat) (s : Slp) (j : Nat) (t : Slp), l[i]? = some s → l[j]? = some t → s.blk = t.blk → i = j) {j : Nat} (hj : j ≤ l.length) : placeOf l (lnk l[j]?) = j := by
  have he : ∃ k, k ≤ l.length ∧ lnk l[j]? = lnk l[k]? := ⟨j, hj, rfl⟩
  obtain ⟨h1, h2⟩ := Classical.epsilon_spec he
  show Classical.epsilon _ = j
  generalize Classical.epsilon (fun k => k ≤ l.length ∧ lnk l[j]? = lnk l[k]?) = k at h1 h2
  cases e1 : l[j]? with
  | none =>
    rw [e1] at h2
    cases e2 : l[k]? with
    | none =>
      rw [List.getElem?_eq_none_iff] at e1 e2
      omega
    | some t =>
      rw [e2] at h2
      simp [lnk] at h2
  | some s =>
    rw [e1] at h2
    cases e2 : l[k]? with
    | none =>
      rw [e2] at h2
      simp [lnk] at h2
    | some t =>
      rw [e2] at h2
      simp [lnk] at h2
      exact hi k t j s e2 e1 h2.symm

set_option maxRecDepth 100000 in
set_option maxHeartbeats 1000000 in
theorem first_ok {w : World} {qb lb mb n : Nat} {Q : List Slp} (h : WaitsAt w qb lb mb n Q) (addr mask : Nat) (each : Bool) (hm : mask < 18446744073709551616) :
    Calls Tryd.prog 43 #[.pointer (some ⟨qb, 0, none⟩), .int .u64 addr, .int .u64 mask, .bool each] w fun e w' => e = .returned (lnk (Q.find? (fits addr mask each))) ∧ ∃ m, w' = w.drewN m := by
  rw [← find_bks Q n addr mask each]
  have c0 := h.lists.head.cell (o := 0) rfl
  have hbn := bktN_lt addr h.lists.pos
  have HQ := hid (fun (W : World) (hW : Blk W qb [.slice (some ⟨lb, 0, none⟩) n n, .map (some mb)]) => qbucket_ok hW h.lists.pos h.lists.small addr)
  obtain ⟨b, hb⟩ : ∃ b, bktN addr n = b := ⟨_, rfl⟩
  rw [hb] at hbn HQ ⊢
  have r0 := (ends_get h.lists.rows hbn).1
  obtain ⟨l, hl⟩ : ∃ l, bks Q n b = l := ⟨_, rfl⟩
  rw [hl] at r0 ⊢
  have hb0 : (0 : Int) ≤ (b : Int) := by omega
  have hb1 : (b : Int) < (n : Int) := by omega
  have H := hid h
  have HL := hid hl
  clear h hb hl
  go_enter Tryd.func43, Tryd.ntmps43
  go_wp2_with fail
  go_quiet ((go_at_call 26; refine Calls.quiet_of_same ((HQ.out _ ?_).mono fun _ _ h => ⟨h.1, h.2.symm⟩); exact H.out.lists.head))
  rename_i nq
  have HE := hid (fun (j : Nat) (t : Slp) (ht : l[j]? = some t) => (show Blk (w.drewN nq) t.blk (cellsAt l j t) by
    have := H.out.lists.each b j t (by rw [HL.out]; exact ht)
    rw [HL.out] at this
    exact this))
  have HLT := hid (fun (j : Nat) (t : Slp) (ht : l[j]? = some t) => (H.out.lt t (bks_mem (show (bks Q n b)[j]? = some t by rw [HL.out]; exact ht)).1).2)
  clear c0 r0
  go_wp2_with fail
  have HINJ := hid (fun (i : Nat) (s : Slp) (j : Nat) (t : Slp) (h1 : l[i]? = some s) (h2 : l[j]? = some t) (e : s.blk = t.blk) => (H.out.lists.inj b i s b j t (by rw [HL.out]; exact h1) (by rw [HL.out]; exact h2) e).2)
  go_loop [9] (fun s9 => ∃ j : Nat, j ≤ l.length ∧ s9 = lnk l[j]? ∧ ∀ (i : Nat) (u : Slp), i < j → l[i]? = some u → fits addr mask each u = false) (fun s9 => l.length - placeOf l s9)
  case atStart => exact ⟨0, Nat.zero_le _, rfl, fun i u h => by omega⟩
  case round =>
    obtain ⟨j, hj, rfl, hbef⟩ := hrel
    have HBEF := hid hbef
    have hpl := hid (placeOf_eq HINJ.out hj)
    clear hbef
    cases ht : l[j]? with
    | none =>
      have hfin := hid (show l.find? (fits addr mask each) = none by
        rw [List.find?_eq_none]
        intro u hu
        obtain ⟨i, hi⟩ := List.getElem?_of_mem hu
        have h1 := (List.getElem?_eq_some_iff.1 hi).1
        rw [List.getElem?_eq_none_iff] at ht
        rw [HBEF.out i u (by omega) hi]
        simp)
      simp only [lnk.eq_1]
      clear ht
      go_wp2_with fail
      go_ret
      rw [hfin.out]
      exact ⟨rfl, _, rfl⟩
    | some t =>
      rw [ht] at hpl
      have hT := HE.out j t ht
      have hml := HLT.out j t ht
      have hjl := (List.getElem?_eq_some_iff.1 ht).1
      have hpn := hid (placeOf_eq HINJ.out (show j + 1 ≤ l.length from hjl))
      have d1 := hT.cell (o := 1) rfl
      have d2 := hT.cell (o := 2) rfl
      have d4 := hT.cell (o := 4) rfl
      have HTJ := hid ht
      have hstep := hid (fun (hf : fits addr mask each t = false) (i : Nat) (u : Slp) (hi : i < j + 1) (hu : l[i]? = some u) => (show fits addr mask each u = false by
        rcases Nat.lt_succ_iff_lt_or_eq.1 hi with h | h
        · exact HBEF.out i u h hu
        · subst h
          rw [HTJ.out] at hu
          cases hu
          exact hf))
      have hfound := hid (fun (hf : fits addr mask each t = true) => find_at HTJ.out hf HBEF.out)
      obtain ⟨nx, hnx⟩ : ∃ nx, lnk l[j + 1]? = nx := ⟨_, rfl⟩
      rw [hnx] at d4
      have HNX := hid hnx
      simp only [lnk.eq_2]
      clear hT ht hnx
      by_cases ha : t.addr = addr
      · have ha' : ((t.addr : Int) == (addr : Int)) = true := by simp; omega
        cases each with
        | true =>
          have hres := hid (hfound.out (by simp [fits, ha]))
          go_wp2_with fail
          go_ret
          rw [hres.out]
          exact ⟨rfl, _, rfl⟩
        | false =>
          have hmt := hid (meet_ok t.mask mask hml hm)
          by_cases hmm : t.mask &&& mask = 0
          · have hd := hid (show decide (t.mask &&& mask ≠ 0) = false by simp [hmm])
            have hno := hid (hstep.out (by simp [fits, hmm]))
            clear hmm
            go_wp2_with (go_at_call 53; refine (hmt.out _).mono ?_; rintro e w' ⟨rfl, rfl⟩; rw [hd.out])
            go_round
            case rel => exact ⟨j + 1, hjl, HNX.out.symm, hno.out⟩
            case measure =>
              rw [← HNX.out, hpn.out]
              have := hpl.out
              rw [lnk.eq_2] at this
              rw [this]
              omega
          · have hd := hid (show decide (t.mask &&& mask ≠ 0) = true by simp [hmm])
            have hres := hid (hfound.out (by simp [fits, ha, hmm]))
            clear hmm
            go_wp2_with (go_at_call 53; refine (hmt.out _).mono ?_; rintro e w' ⟨rfl, rfl⟩; rw [hd.out])
            go_ret
            rw [hres.out]
            exact ⟨rfl, _, rfl⟩
      · have ha' : ((t.addr : Int) == (addr : Int)) = false := by simp; omega
        have hno := hid (hstep.out (by simp [fits, ha]))
        clear ha
        go_wp2_with fail
        go_round
        case rel => exact ⟨j + 1, hjl, HNX.out.symm, hno.out⟩
        case measure =>
          rw [← HNX.out, hpn.out]
          have := hpl.out
          rw [lnk.eq_2] at this
          rw [this]
          omega

end Go.Proofs.YtenahekdhepnfaaDoor
