/- package waitq: unlink. -/
import Derived.Test.YtenahekdhepnfaaDoorWaitL
namespace Go.Proofs.YtenahekdhepnfaaDoor
open Go Go.RowKit

theorem prv_succ (l : List Slp) (j : Nat) : prv l (j + 1) = l[j]? := rfl
theorem ends0 (B : Nat → List Slp) (k : Nat) : ends B k 0 = lnk (B k)[0]? := rfl
theorem ends1 (B : Nat → List Slp) (k : Nat) : ends B k 1 = lnk (prv (B k) (B k).length) := rfl
theorem cells_prev {l : List Slp} {j : Nat} {t : Slp} : cellsAt (l.eraseIdx (j + 1)) j t = (cellsAt l j t).set 4 (lnk l[j + 2]?) := by
  unfold cellsAt
  rw [erase_prv (by omega), if_pos (by omega), erase_get, if_neg (by omega)]
  rfl
theorem cells_next {l : List Slp} {i : Nat} {u : Slp} : cellsAt (l.eraseIdx i) i u = (cellsAt l (i + 1) u).set 3 (lnk (prv l i)) := by
  unfold cellsAt
  rw [erase_prv_at, erase_get, if_neg (by omega)]
  rfl
theorem cells_rest {l : List Slp} {i j : Nat} {u : Slp} (h1 : j + 1 ≠ i) (h2 : j ≠ i) : cellsAt (l.eraseIdx i) j u = cellsAt l (if j < i then j else j + 1) u := by
  unfold cellsAt
  rw [erase_prv h2, erase_get]
  by_cases h : j < i
  · rw [if_pos h, if_pos (by omega)]
  · rw [if_neg h, if_neg (by omega)]
theorem ends_out {B : Nat → List Slp} {b i : Nat} {s : Slp} (hs : (B b)[i]? = some s) (p j : Nat) (hj : j < 2) :
    ends (outOf B b i) p j = if p = b ∧ j = 0 ∧ i = 0 then lnk (B b)[i + 1]? else if p = b ∧ j = 1 ∧ (B b)[i + 1]? = none then lnk (prv (B b) i) else ends B p j := by
  have hi := (List.getElem?_eq_some_iff.1 hs).1
  by_cases e : p = b
  · subst e
    rcases (show j = 0 ∨ j = 1 by omega) with rfl | rfl
    · rw [ends0, ends0, outOf_at, if_neg (show ¬ (p = p ∧ 0 = 1 ∧ (B p)[i + 1]? = none) from fun h => by have := h.2.1; omega)]
      by_cases h0 : i = 0
      · subst h0
        rw [if_pos ⟨rfl, rfl, rfl⟩, erase_get, if_neg (by omega)]
      · rw [if_neg (fun h => h0 h.2.2), erase_get, if_pos (by omega)]
    · rw [ends1, ends1, outOf_at, if_neg (show ¬ (p = p ∧ 1 = 0 ∧ i = 0) by omega), List.length_eraseIdx_of_lt hi]
      by_cases h0 : (B p)[i + 1]? = none
      · rw [if_pos ⟨rfl, rfl, h0⟩]
        have hle : (B p).length ≤ i + 1 := List.getElem?_eq_none_iff.1 h0
        rw [show (B p).length - 1 = i by omega, erase_prv_at]
      · rw [if_neg (fun h => h0 h.2.2)]
        have hlt : i + 1 < (B p).length := Nat.lt_of_not_le (fun h => h0 (List.getElem?_eq_none_iff.2 h))
        rw [erase_prv (by omega), if_neg (by omega), show (B p).length - 1 + 1 = (B p).length by omega]
  · rw [if_neg (fun h => e h.1), if_neg (fun h => e h.1)]
    unfold ends
    rw [outOf_ne i e]

theorem lists_out {w w' : World} {qb lb mb n : Nat} {B : Nat → List Slp} (h : Lists w qb lb mb n B) {b i : Nat} {s : Slp} (hs : (B b)[i]? = some s) {S : List Nat} (hk : Kept S w w')
    (hS : ∀ x, x ∈ S → x = lb ∨ (∃ t, prv (B b) i = some t ∧ x = t.blk) ∨ (∃ u, (B b)[i + 1]? = some u ∧ x = u.blk))
    (hrows : Blk w' lb (rowsOf 2 (ends (outOf B b i)) n))
    (hp : ∀ (j : Nat) (t : Slp), i = j + 1 → (B b)[j]? = some t → Blk w' t.blk ((cellsAt (B b) j t).set 4 (lnk (B b)[i + 1]?)))
    (hn : ∀ u, (B b)[i + 1]? = some u → Blk w' u.blk ((cellsAt (B b) (i + 1) u).set 3 (lnk (prv (B b) i)))) : Lists w' qb lb mb n (outOf B b i) ∧ SlpBlk w' s := by
  have hprv : ∀ t, prv (B b) i = some t → ∃ j, i = j + 1 ∧ (B b)[j]? = some t := by
    intro t ht
    cases i with
    | zero => cases ht
    | succ j => exact ⟨j, rfl, ht⟩
  have hfar : ∀ (k j : Nat) (t : Slp), (B k)[j]? = some t → ¬ (k = b ∧ (j + 1 = i ∨ j = i + 1)) → t.blk ∉ S := by
    intro k j t ht hne hm
    rcases hS _ hm with e | ⟨u, hu, e⟩ | ⟨u, hu, e⟩
    · exact (h.far k j t ht).2 e
    · obtain ⟨j', rfl, hj'⟩ := hprv u hu
      obtain ⟨rfl, rfl⟩ := h.inj k j t b j' u ht hj' e
      exact hne ⟨rfl, .inl rfl⟩
    · obtain ⟨rfl, rfl⟩ := h.inj k j t b (i + 1) u ht hu e
      exact hne ⟨rfl, .inr rfl⟩
  refine ⟨⟨h.head.kept hk (fun hm => ?_), hrows, ?_, outOf_inj h.inj, ?_, h.qlb, h.pos, h.small⟩, ?_⟩
  · rcases hS _ hm with e | ⟨u, hu, e⟩ | ⟨u, hu, e⟩
    · exact h.qlb e
    · obtain ⟨j', -, hj'⟩ := hprv u hu
      exact (h.far _ _ _ hj').1 e.symm
    · exact (h.far _ _ _ hu).1 e.symm
  · intro k j t ht
    have hw := outOf_get ht
    by_cases e : k = b
    · subst e
      rw [outOf_at]
      by_cases h1 : j + 1 = i
      · subst h1
        have e1 : was k (j + 1) k j = j := by unfold was; rw [if_neg (by omega)]
        rw [e1] at hw
        rw [cells_prev]
        exact hp j t rfl hw
      · by_cases h2 : j = i
        · subst h2
          have e1 : was k j k j = j + 1 := by unfold was; rw [if_pos (by omega)]
          rw [e1] at hw
          rw [cells_next]
          exact hn t hw
        · rw [cells_rest h1 h2]
          have e1 : was k i k j = if j < i then j else j + 1 := by
            unfold was
            by_cases h3 : j < i
            · rw [if_neg (by omega), if_pos h3]
            · rw [if_pos ⟨rfl, h3⟩, if_neg h3]
          rw [e1] at hw
          refine (h.each k _ t hw).kept hk (hfar k _ t hw ?_)
          rintro ⟨-, h4⟩
          split at h4 <;> omega
    · have e1 : was b i k j = j := by unfold was; rw [if_neg (fun h => e h.1)]
      rw [e1] at hw
      rw [outOf_ne i e]
      exact (h.each k j t hw).kept hk (hfar k j t hw (fun h => e h.1))
  · intro k j t ht
    exact h.far _ _ _ (outOf_get ht)
  · refine ⟨_, _, (h.each b i s hs).kept hk (hfar b i s hs (by omega))⟩

set_option maxRecDepth 100000 in
set_option maxHeartbeats 2000000 in
theorem unlink_ok {w : World} {qb lb mb n : Nat} {B : Nat → List Slp} (h : Lists w qb lb mb n B) (s : Slp) (b i : Nat) (hs : (B b)[i]? = some s) (hb : bktN s.addr n = b) (hbn : b < n) :
    Calls Tryd.prog 28 #[.pointer (some ⟨qb, 0, none⟩), .pointer (some ⟨s.blk, 0, none⟩)] w fun e w' => e = .returned (.tuple #[]) ∧ Lists w' qb lb mb n (outOf B b i) ∧ SlpBlk w' s ∧ Kept (lb :: (B b).map (·.blk)) w w' := by
  have hS := h.each b i s hs
  have c0 := h.head.cell (o := 0) rfl
  have HQ := hid (fun (W : World) (hW : Blk W qb [.slice (some ⟨lb, 0, none⟩) n n, .map (some mb)]) => qbucket_ok hW h.pos h.small s.addr)
  rw [hb] at HQ
  have s1 := hS.cell (o := 1) rfl
  have hb0 : (0 : Int) ≤ (b : Int) := by omega
  have hb1 : (b : Int) < (n : Int) := by omega
  have H0 := hid h
  have hbl : s.blk ∈ (B b).map (·.blk) := List.mem_map.2 ⟨s, List.mem_of_getElem? hs, rfl⟩
  obtain ⟨sb, hsb⟩ : ∃ sb, s.blk = sb := ⟨_, rfl⟩
  have HSB := hid hsb
  rw [hsb] at s1 ⊢
  have HG := hid hs
  clear h hS hb hs hsb
  go_enter Tryd.func28, Tryd.ntmps28
  go_wp2_with fail
  go_quiet ((go_at_call 26; refine Calls.quiet_of_same ((HQ.out _ ?_).mono fun _ _ h => ⟨h.1, h.2.symm⟩); exact H0.out.head))
  rename_i nq
  obtain ⟨wq, hwq⟩ : ∃ wq, w.drewN nq = wq := ⟨_, rfl⟩
  have hKq : Kept [] w wq := by rw [← hwq]; exact (Kept.refl [] w).drewN nq
  rw [hwq]
  have H := hid (H0.out.keptN hKq)
  have HKq := hid hKq
  clear hKq hwq s1 c0
  have hS := H.out.each b i s HG.out
  rw [HSB.out] at hS
  have s3 := hS.cell (o := 3) rfl
  have s4 := hS.cell (o := 4) rfl
  have g0 := H.out.rows.frozen (b * 2)
  have g1 := H.out.rows.frozen (b * 2 + 1)
  obtain ⟨z0, r0⟩ : ∃ z, wq.cell? ⟨lb, b * 2, none⟩ = some z := ⟨_, (ends_get H.out.rows hbn).1⟩
  obtain ⟨z1, r1⟩ : ∃ z, wq.cell? ⟨lb, b * 2 + 1, none⟩ = some z := ⟨_, (ends_get H.out.rows hbn).2⟩
  have HF := hid H.out.far
  have HI := hid H.out.inj
  have HS := hid hS
  have hsl : sb ≠ lb := by rw [← HSB.out]; exact (HF.out b i s HG.out).2
  clear hS
  cases hp : prv (B b) i with
  | none =>
    have hi0 : i = 0 := by
      cases i with
      | zero => rfl
      | succ j =>
        have := (List.getElem?_eq_some_iff.1 HG.out).1
        rw [prv_succ, List.getElem?_eq_none_iff] at hp
        omega
    rw [hp] at s3
    rw [lnk.eq_1] at s3
    have HP := hid hp
    clear hp
    cases hn : (B b)[i + 1]? with
    | none =>
      rw [hn] at s4
      rw [lnk.eq_1] at s4
      have HN := hid hn
      clear hn
      go_wp2_with fail
      go_end0
      have hK : Kept [lb] wq ((wq.setCell ⟨lb, b * 2, none⟩ (.pointer none)).setCell ⟨lb, b * 2 + 1, none⟩ (.pointer none)) := ((Kept.refl _ _).setCell (.inl (by simp)) _).setCell (.inl (by simp)) _
      obtain ⟨q1, q2⟩ := lists_out H.out HG.out hK (fun x hx => .inl (by simpa using hx)) (by
        refine Blk.eq ((H.out.rows.set _ _).set _ _) ?_
        rw [rowsOf_set0 _ _ hbn (by omega), rowsOf_set _ _ hbn (by omega)]
        apply rowsOf_congr
        intro p j hp hj
        rw [ends_out HG.out p j hj, HN.out, HP.out]
        by_cases e : p = b
        · rcases (show j = 0 ∨ j = 1 by omega) with rfl | rfl
          · simp [e, hi0, lnk]
          · simp [e, lnk]
        · simp [e]) (fun j t h _ => by omega) (fun u hu => by rw [HN.out] at hu; cases hu)
      exact ⟨rfl, q1, q2, (HKq.out.nil.trans hK).mono (by simp)⟩
    | some u =>
      rw [hn] at s4
      rw [lnk.eq_2] at s4
      have hU := H.out.each b (i + 1) u hn
      obtain ⟨ub, hub⟩ : ∃ ub, u.blk = ub := ⟨_, rfl⟩
      rw [hub] at s4 hU
      have u3 := hU.cell (o := 3) rfl
      have v3 := hU.frozen 3
      have hul : ub ≠ lb := by rw [← hub]; exact (HF.out b _ u hn).2
      have hubm : ub ∈ (B b).map (·.blk) := List.mem_map.2 ⟨u, List.mem_of_getElem? hn, hub⟩
      have hsu : sb ≠ ub := fun e => by
        have := (HI.out b i s b (i + 1) u HG.out hn (by rw [HSB.out, hub]; exact e)).2
        omega
      have HUB := hid hub
      have HU := hid hU
      have HN := hid hn
      clear hn hU hub
      go_wp2_with fail
      go_region
      go_wp2_with fail
      go_end0
      have hK : Kept [lb, ub] wq ((wq.setCell ⟨lb, b * 2, none⟩ (.pointer (some ⟨ub, 0, none⟩))).setCell ⟨ub, 3, none⟩ (.pointer none)) := ((Kept.refl _ _).setCell (.inl (by simp)) _).setCell (.inl (by simp)) _
      obtain ⟨q1, q2⟩ := lists_out H.out HG.out hK (fun x hx => by
        simp at hx
        rcases hx with rfl | rfl
        · exact .inl rfl
        · exact .inr (.inr ⟨u, HN.out, HUB.out.symm⟩)) (by
        refine Blk.eq ((H.out.rows.set _ _).set_ne _ _ _ hul.symm) ?_
        rw [rowsOf_set0 _ _ hbn (by omega)]
        apply rowsOf_congr
        intro p j hp hj
        rw [ends_out HG.out p j hj, HN.out, HP.out]
        by_cases e : p = b
        · rcases (show j = 0 ∨ j = 1 by omega) with rfl | rfl
          · simp [e, hi0, lnk, HUB.out]
          · simp [e]
        · simp [e]) (fun j t h _ => by omega) (fun v hv => by
        rw [HN.out] at hv
        cases hv
        rw [HUB.out, HP.out]
        exact (HU.out.set_ne _ _ _ hul).set 3 _)
      have hDr : ∀ W : World, Kept [] W W.drew := fun W => (Kept.refl [] W).drew
      refine ⟨rfl, by first | exact q1.keptN (hDr _) | exact (q1.keptN (hDr _)).keptN (hDr _), q2, ?_⟩
      have hfin := (HKq.out.nil.trans hK).mono (T := lb :: (B b).map (·.blk)) (fun z hz => by
        rw [List.mem_cons, List.mem_singleton] at hz
        rcases hz with rfl | rfl
        · simp
        · exact List.mem_cons_of_mem _ hubm)
      first | exact hfin.drew | exact hfin.drew.drew
  | some t =>
    rw [hp] at s3
    rw [lnk.eq_2] at s3
    obtain ⟨j, rfl, htj⟩ : ∃ j, i = j + 1 ∧ (B b)[j]? = some t := by
      cases i with
      | zero => cases hp
      | succ j => exact ⟨j, rfl, hp⟩
    have hT := H.out.each b j t htj
    obtain ⟨tb, htb⟩ : ∃ tb, t.blk = tb := ⟨_, rfl⟩
    rw [htb] at s3 hT
    have t4 := hT.cell (o := 4) rfl
    obtain ⟨zt, t4⟩ : ∃ z, wq.cell? ⟨tb, 4, none⟩ = some z := ⟨_, t4⟩
    have x4 := hT.frozen 4
    have htl : tb ≠ lb := by rw [← htb]; exact (HF.out b _ t htj).2
    have htbm : tb ∈ (B b).map (·.blk) := List.mem_map.2 ⟨t, List.mem_of_getElem? htj, htb⟩
    have hst : sb ≠ tb := fun e => by
      have := (HI.out b (j + 1) s b j t HG.out htj (by rw [HSB.out, htb]; exact e)).2
      omega
    have HTB := hid htb
    have HT := hid hT
    have HP := hid hp
    have HTJ := hid htj
    clear hp hT htb htj
    cases hn : (B b)[j + 1 + 1]? with
    | none =>
      rw [hn] at s4
      rw [lnk.eq_1] at s4
      have HN := hid hn
      clear hn
      go_wp2_with fail
      go_region
      go_wp2_with fail
      go_end0
      have hK : Kept [lb, tb] wq ((wq.setCell ⟨tb, 4, none⟩ (.pointer none)).setCell ⟨lb, b * 2 + 1, none⟩ (.pointer (some ⟨tb, 0, none⟩))) := ((Kept.refl _ _).setCell (.inl (by simp)) _).setCell (.inl (by simp)) _
      obtain ⟨q1, q2⟩ := lists_out H.out HG.out hK (fun x hx => by
        simp at hx
        rcases hx with rfl | rfl
        · exact .inl rfl
        · exact .inr (.inl ⟨t, HP.out, HTB.out.symm⟩)) (by
        refine Blk.eq ((H.out.rows.set_ne _ _ _ htl.symm).set _ _) ?_
        rw [rowsOf_set _ _ hbn (by omega)]
        apply rowsOf_congr
        intro p k hp hk
        rw [ends_out HG.out p k hk, HN.out, HP.out]
        by_cases e : p = b
        · rcases (show k = 0 ∨ k = 1 by omega) with rfl | rfl
          · simp [e]
          · simp [e, lnk, HTB.out]
        · simp [e]) (fun k v hk hv => by
        obtain rfl : k = j := by omega
        rw [HTJ.out] at hv
        cases hv
        rw [HTB.out, HN.out]
        exact (HT.out.set 4 _).set_ne _ _ _ htl) (fun v hv => by rw [HN.out] at hv; cases hv)
      have hDr : ∀ W : World, Kept [] W W.drew := fun W => (Kept.refl [] W).drew
      refine ⟨rfl, by first | exact q1.keptN (hDr _) | exact (q1.keptN (hDr _)).keptN (hDr _), q2, ?_⟩
      have hfin := (HKq.out.nil.trans hK).mono (T := lb :: (B b).map (·.blk)) (fun z hz => by
        rw [List.mem_cons, List.mem_singleton] at hz
        rcases hz with rfl | rfl
        · simp
        · exact List.mem_cons_of_mem _ htbm)
      first | exact hfin.drew | exact hfin.drew.drew
    | some u =>
      rw [hn] at s4
      rw [lnk.eq_2] at s4
      have hU := H.out.each b (j + 1 + 1) u hn
      obtain ⟨ub, hub⟩ : ∃ ub, u.blk = ub := ⟨_, rfl⟩
      rw [hub] at s4 hU
      obtain ⟨zu, u3⟩ : ∃ z, wq.cell? ⟨ub, 3, none⟩ = some z := ⟨_, hU.cell (o := 3) rfl⟩
      have v3 := hU.frozen 3
      have hul : ub ≠ lb := by rw [← hub]; exact (HF.out b _ u hn).2
      have hubm : ub ∈ (B b).map (·.blk) := List.mem_map.2 ⟨u, List.mem_of_getElem? hn, hub⟩
      have hsu : sb ≠ ub := fun e => by
        have := (HI.out b (j + 1) s b _ u HG.out hn (by rw [HSB.out, hub]; exact e)).2
        omega
      have htu : tb ≠ ub := fun e => by
        have := (HI.out b j t b _ u HTJ.out hn (by rw [HTB.out, hub]; exact e)).2
        omega
      have HUB := hid hub
      have HU := hid hU
      have HN := hid hn
      clear hn hU hub
      go_wp2_with fail
      go_region
      go_wp2_with fail
      go_region
      go_wp2_with fail
      go_end0
      have hK : Kept [tb, ub] wq ((wq.setCell ⟨tb, 4, none⟩ (.pointer (some ⟨ub, 0, none⟩))).setCell ⟨ub, 3, none⟩ (.pointer (some ⟨tb, 0, none⟩))) := ((Kept.refl _ _).setCell (.inl (by simp)) _).setCell (.inl (by simp)) _
      obtain ⟨q1, q2⟩ := lists_out H.out HG.out hK (fun x hx => by
        simp at hx
        rcases hx with rfl | rfl
        · exact .inr (.inl ⟨t, HP.out, HTB.out.symm⟩)
        · exact .inr (.inr ⟨u, HN.out, HUB.out.symm⟩)) (by
        refine Blk.eq ((H.out.rows.set_ne _ _ _ htl.symm).set_ne _ _ _ hul.symm) ?_
        apply rowsOf_congr
        intro p k hp hk
        rw [ends_out HG.out p k hk, HN.out, HP.out]
        simp) (fun k v hk hv => by
        obtain rfl : k = j := by omega
        rw [HTJ.out] at hv
        cases hv
        rw [HTB.out, HN.out]
        exact ((HT.out.set 4 _).set_ne _ _ _ htu).eq (by simp [lnk, HUB.out])) (fun v hv => by
        rw [HN.out] at hv
        cases hv
        rw [HUB.out, HP.out]
        exact ((HU.out.set_ne _ _ _ htu.symm).set 3 _).eq (by simp [lnk, HTB.out]))
      have hDr : ∀ W : World, Kept [] W W.drew := fun W => (Kept.refl [] W).drew
      refine ⟨rfl, by first | exact q1.keptN (hDr _) | exact (q1.keptN (hDr _)).keptN (hDr _), q2, ?_⟩
      have hfin := (HKq.out.nil.trans hK).mono (T := lb :: (B b).map (·.blk)) (fun z hz => by
        rw [List.mem_cons, List.mem_singleton] at hz
        rcases hz with rfl | rfl
        · exact List.mem_cons_of_mem _ htbm
        · exact List.mem_cons_of_mem _ hubm)
      first | exact hfin.drew | exact hfin.drew.drew

end Go.Proofs.YtenahekdhepnfaaDoor
