/- package waitq: the linked lists: bucket, link, unlink. -/
import Derived.Test.YtenahekdhepnfaaDoorBkt
import Derived.Test.YtenahekdhepnfaaDoorWaitM
import Derived.Deep.Quiet
import Derived.Deep.QuietTactic
import Derived.BigQuiet
namespace Go.Proofs.YtenahekdhepnfaaDoor
open Go Go.RowKit

/-- The queues' head at qb, the buckets' ends at lb, the map at mb; B k: who sleeps in bucket k, in order. -/
structure Lists (w : World) (qb lb mb n : Nat) (B : Nat → List Slp) : Prop where
  head : Blk w qb [.slice (some ⟨lb, 0, none⟩) n n, .map (some mb)]
  rows : Blk w lb (rowsOf 2 (ends B) n)
  each : ∀ (k i : Nat) (s : Slp), (B k)[i]? = some s → Blk w s.blk (cellsAt (B k) i s)
  inj : ∀ (k i : Nat) (s : Slp) (k' i' : Nat) (s' : Slp), (B k)[i]? = some s → (B k')[i']? = some s' → s.blk = s'.blk → k = k' ∧ i = i'
  far : ∀ (k i : Nat) (s : Slp), (B k)[i]? = some s → s.blk ≠ qb ∧ s.blk ≠ lb
  qlb : qb ≠ lb
  pos : 1 ≤ n
  small : n ≤ 64

theorem Lists.kept {S : List Nat} {w w' : World} {qb lb mb n : Nat} {B : Nat → List Slp} (h : Lists w qb lb mb n B) (k : Kept S w w') (h1 : qb ∉ S) (h2 : lb ∉ S) (h3 : ∀ (k i : Nat) (s : Slp), (B k)[i]? = some s → s.blk ∉ S) : Lists w' qb lb mb n B :=
  ⟨h.head.kept k h1, h.rows.kept k h2, fun a i s hs => (h.each a i s hs).kept k (h3 a i s hs), h.inj, h.far, h.qlb, h.pos, h.small⟩
theorem Lists.keptN {w w' : World} {qb lb mb n : Nat} {B : Nat → List Slp} (h : Lists w qb lb mb n B) (k : Kept [] w w') : Lists w' qb lb mb n B := h.kept k (by simp) (by simp) (fun _ _ _ _ => by simp)

theorem qbucket_ok {w : World} {qb lb n : Nat} {x : Value} (h : Blk w qb [.slice (some ⟨lb, 0, none⟩) n n, x]) (h1 : 1 ≤ n) (h2 : n ≤ 64) (a : Nat) :
    Calls Tryd.prog 26 #[.pointer (some ⟨qb, 0, none⟩), .int .u64 a] w fun e w' => e = .returned (.int .i64 (bktN a n)) ∧ w = w' := by
  have c0 := h.cell (o := 0) rfl
  have HB := hid (bucket_ok a n h1 (by omega))
  clear h
  go_enter Tryd.func26, Tryd.ntmps26
  go_wp2_with fail
  refine (HB.out _).mono ?_
  rintro e w' ⟨rfl, rfl⟩
  go_wp2_with fail
  go_ret
  exact ⟨rfl, rfl⟩

/-- A sleeper's block, its neighbours' whatever. -/
def SlpBlk (w : World) (s : Slp) : Prop := ∃ x y, Blk w s.blk [.int .u64 s.id, .int .u64 s.addr, .int .u64 s.mask, x, y]
def addTo (B : Nat → List Slp) (b : Nat) (s : Slp) : Nat → List Slp := fun k => if k = b then B k ++ [s] else B k
def outOf (B : Nat → List Slp) (b i : Nat) : Nat → List Slp := fun k => if k = b then (B k).eraseIdx i else B k

theorem addTo_get {B : Nat → List Slp} {b : Nat} {s : Slp} {k i : Nat} {t : Slp} (h : (addTo B b s k)[i]? = some t) : (B k)[i]? = some t ∨ (k = b ∧ i = (B b).length ∧ t = s) := by
  unfold addTo at h
  by_cases e : k = b
  · rw [if_pos e] at h
    subst e
    rw [List.getElem?_append] at h
    split at h
    · exact .inl h
    · rename_i hge
      have hj := (List.getElem?_eq_some_iff.1 h).1
      simp at hj
      have h0 : i - (B k).length = 0 := by omega
      rw [h0] at h
      simp at h
      exact .inr ⟨rfl, by omega, h.symm⟩
  · rw [if_neg e] at h
    exact .inl h
theorem addTo_at (B : Nat → List Slp) (b : Nat) (s : Slp) : addTo B b s b = B b ++ [s] := by simp [addTo]
theorem addTo_ne {B : Nat → List Slp} {b k : Nat} (s : Slp) (h : k ≠ b) : addTo B b s k = B k := by simp [addTo, h]
theorem outOf_at (B : Nat → List Slp) (b i : Nat) : outOf B b i b = (B b).eraseIdx i := by simp [outOf]
theorem outOf_ne {B : Nat → List Slp} {b k : Nat} (i : Nat) (h : k ≠ b) : outOf B b i k = B k := by simp [outOf, h]
/-- Where one that is left was. -/
def was (b i k j : Nat) : Nat := if k = b ∧ ¬ j < i then j + 1 else j
theorem outOf_get {B : Nat → List Slp} {b i k j : Nat} {t : Slp} (h : (outOf B b i k)[j]? = some t) : (B k)[was b i k j]? = some t := by
  unfold was
  by_cases e : k = b
  · subst e
    rw [outOf_at, erase_get] at h
    by_cases hj : j < i
    · rw [if_pos hj] at h
      rw [if_neg (by omega)]
      exact h
    · rw [if_neg hj] at h
      rw [if_pos ⟨rfl, hj⟩]
      exact h
  · rw [outOf_ne i e] at h
    rw [if_neg (fun h => e h.1)]
    exact h
theorem addTo_inj {B : Nat → List Slp} {b : Nat} {s : Slp} (h : ∀ (k i : Nat) (s : Slp) (k' i' : Nat) (s' : Slp), (B k)[i]? = some s → (B k')[i']? = some s' → s.blk = s'.blk → k = k' ∧ i = i') (hnew : ∀ (k i : Nat) (t : Slp), (B k)[i]? = some t → t.blk ≠ s.blk) :
    ∀ (k i : Nat) (t : Slp) (k' i' : Nat) (t' : Slp), (addTo B b s k)[i]? = some t → (addTo B b s k')[i']? = some t' → t.blk = t'.blk → k = k' ∧ i = i' := by
  intro k i t k' i' t' h1 h2 e
  rcases addTo_get h1 with h3 | ⟨a1, a2, a3⟩
  · rcases addTo_get h2 with h4 | ⟨b1, b2, b3⟩
    · exact h k i t k' i' t' h3 h4 e
    · exact absurd (e.trans (by rw [b3])) (hnew k i t h3)
  · rcases addTo_get h2 with h4 | ⟨b1, b2, b3⟩
    · exact absurd (e.symm.trans (by rw [a3])) (hnew k' i' t' h4)
    · exact ⟨a1.trans b1.symm, a2.trans b2.symm⟩
theorem outOf_inj {B : Nat → List Slp} {b i : Nat} (h : ∀ (k i : Nat) (s : Slp) (k' i' : Nat) (s' : Slp), (B k)[i]? = some s → (B k')[i']? = some s' → s.blk = s'.blk → k = k' ∧ i = i') :
    ∀ (k j : Nat) (t : Slp) (k' j' : Nat) (t' : Slp), (outOf B b i k)[j]? = some t → (outOf B b i k')[j']? = some t' → t.blk = t'.blk → k = k' ∧ j = j' := by
  intro k j t k' j' t' h1 h2 e
  obtain ⟨rfl, h4⟩ := h _ _ _ _ _ _ (outOf_get h1) (outOf_get h2) e
  refine ⟨rfl, ?_⟩
  unfold was at h4
  split at h4 <;> split at h4 <;> rename_i q1 q2
  · omega
  · have : j' < i := Classical.byContradiction fun h => q2 ⟨q1.1, h⟩
    omega
  · have : j < i := Classical.byContradiction fun h => q1 ⟨q2.1, h⟩
    omega
  · exact h4

theorem rowsOf_set0 {k : Nat} (f : Nat → Nat → Value) {n p : Nat} (v : Value) (hp : p < n) (hj : 0 < k) :
    (rowsOf k f n).set (p * k) v = rowsOf k (fun p' j' => if p' = p ∧ j' = 0 then v else f p' j') n := rowsOf_set f v hp hj

theorem ends_get {w : World} {lb n : Nat} {B : Nat → List Slp} (h : Blk w lb (rowsOf 2 (ends B) n)) {b : Nat} (hb : b < n) : w.cell? ⟨lb, b * 2, none⟩ = some (lnk (B b)[0]?) ∧ w.cell? ⟨lb, b * 2 + 1, none⟩ = some (lnk (prv (B b) (B b).length)) := by
  have h0 := h.cell (rowsOf_get (ends B) hb (show 0 < 2 by omega))
  have h1 := h.cell (rowsOf_get (ends B) hb (show 1 < 2 by omega))
  exact ⟨h0, h1⟩

set_option maxRecDepth 100000 in
set_option maxHeartbeats 1000000 in
theorem link_ok {w : World} {qb lb mb n : Nat} {B : Nat → List Slp} (h : Lists w qb lb mb n B) (s : Slp) (hs : SlpBlk w s) (hnew : ∀ (k i : Nat) (t : Slp), (B k)[i]? = some t → t.blk ≠ s.blk) (hq : s.blk ≠ qb) (hl : s.blk ≠ lb) (b : Nat) (hb : bktN s.addr n = b) (hbn : b < n) :
    Calls Tryd.prog 27 #[.pointer (some ⟨qb, 0, none⟩), .pointer (some ⟨s.blk, 0, none⟩)] w fun e w' => e = .returned (.tuple #[]) ∧ Lists w' qb lb mb n (addTo B b s) ∧ Kept (lb :: s.blk :: (B b).map (·.blk)) w w' := by
  obtain ⟨x, y, hs⟩ := hs
  have c0 := h.head.cell (o := 0) rfl
  have s1 := hs.cell (o := 1) rfl
  have s3 := hs.cell (o := 3) rfl
  have s4 := hs.cell (o := 4) rfl
  have f3 := hs.frozen 3
  have f4 := hs.frozen 4
  obtain ⟨r0, r1⟩ := ends_get h.rows hbn
  have g0 := h.rows.frozen (b * 2)
  have g1 := h.rows.frozen (b * 2 + 1)
  have HQ := hid (fun (W : World) (hW : Blk W qb [.slice (some ⟨lb, 0, none⟩) n n, .map (some mb)]) => qbucket_ok hW h.pos h.small s.addr)
  rw [hb] at HQ
  have H := hid h
  have HS := hid hs
  have hb0 : (0 : Int) ≤ (b : Int) := by omega
  have hb1 : (b : Int) < (n : Int) := by omega
  have hqlb := h.qlb
  obtain ⟨sb, hsb⟩ : ∃ sb, s.blk = sb := ⟨_, rfl⟩
  have HSB := hid hsb
  rw [hsb] at s1 s3 s4 f3 f4 hq hl hnew HS ⊢
  have HNEW := hid hnew
  clear h hs hnew hb hsb
  go_enter Tryd.func27, Tryd.ntmps27
  go_wp2_with fail
  go_quiet ((go_at_call 26; refine Calls.quiet_of_same ((HQ.out _ ?_).mono fun _ _ h => ⟨h.1, h.2.symm⟩); exact H.out.head))
  rename_i nq
  obtain ⟨wq, hwq⟩ : ∃ wq, w.drewN nq = wq := ⟨_, rfl⟩
  have hKq : Kept [] w wq := by rw [← hwq]; exact (Kept.refl [] w).drewN nq
  rw [hwq]
  have s3 := hKq.cellSome s3 (by simp)
  have s4 := hKq.cellSome s4 (by simp)
  have r0 := hKq.cellSome r0 (by simp)
  have r1 := hKq.cellSome r1 (by simp)
  have HS := hid (HS.out.keptN hKq)
  have H := hid (H.out.keptN hKq)
  have f3 := HS.out.frozen 3
  have f4 := HS.out.frozen 4
  have g0 := H.out.rows.frozen (b * 2)
  have g1 := H.out.rows.frozen (b * 2 + 1)
  have HKq := hid hKq
  clear hKq hwq s1 c0
  obtain ⟨l, hl'⟩ : ∃ l, B b = l := ⟨_, rfl⟩
  rw [hl'] at r0 r1
  have HL := hid hl'
  clear hl'
  have HF := hid H.out.far
  have HI := hid H.out.inj
  by_cases hm : l.length = 0
  · have hnil : l = [] := List.eq_nil_of_length_eq_zero hm
    subst hnil
    simp only [List.length_nil, prv, List.getElem?_nil, lnk] at r0 r1
    clear hm
    go_wp2_with fail
    go_end0
    have hK : Kept [lb, sb] wq ((((wq.setCell ⟨sb, 3, none⟩ (.pointer none)).setCell ⟨sb, 4, none⟩ (.pointer none)).setCell ⟨lb, b * 2, none⟩ (.pointer (some ⟨sb, 0, none⟩))).setCell ⟨lb, b * 2 + 1, none⟩ (.pointer (some ⟨sb, 0, none⟩))) :=
      ((((Kept.refl _ _).setCell (.inl (by simp)) _).setCell (.inl (by simp)) _).setCell (.inl (by simp)) _).setCell (.inl (by simp)) _
    refine ⟨rfl, ⟨H.out.head.kept hK (by simp; exact ⟨hqlb, fun e => hq e.symm⟩), ?_, ?_, addTo_inj HI.out (by rw [HSB.out]; exact HNEW.out), ?_, hqlb, H.out.pos, H.out.small⟩, ?_⟩
    · refine Blk.eq ((((H.out.rows.set_ne _ _ _ hl.symm).set_ne _ _ _ hl.symm).set _ _).set _ _) ?_
      rw [rowsOf_set0 _ _ hbn (by omega), rowsOf_set _ _ hbn (by omega)]
      apply rowsOf_congr
      intro p j hp hj
      by_cases e : p = b
      · subst e
        rcases (show j = 0 ∨ j = 1 by omega) with rfl | rfl
        · simp [ends, addTo_at, HL.out, lnk, HSB.out]
        · simp [ends, addTo_at, HL.out, lnk, prv, HSB.out]
      · simp [ends, addTo_ne s e, e]
    · intro k i t ht0
      rcases addTo_get ht0 with ht | ⟨rfl, rfl, rfl⟩
      · have hkb : k ≠ b := fun e => by
          rw [e, HL.out] at ht
          simp at ht
        rw [addTo_ne s hkb]
        exact (H.out.each k i t ht).kept hK (by simp; exact ⟨(HF.out k i t ht).2, HNEW.out k i t ht⟩)
      · rw [addTo_at, HL.out, HSB.out]
        exact (((HS.out.set 3 _).set 4 _).set_ne _ _ _ hl).set_ne _ _ _ hl
    · intro k i t ht0
      rcases addTo_get ht0 with ht | ⟨rfl, rfl, rfl⟩
      · exact HF.out k i t ht
      · rw [HSB.out]; exact ⟨hq, hl⟩
    · rw [HL.out]; exact (HKq.out.nil.trans hK).mono (by simp)
  · obtain ⟨m, hm'⟩ : ∃ m, l.length = m + 1 := ⟨l.length - 1, by omega⟩
    obtain ⟨t, ht⟩ : ∃ t, l[m]? = some t := ⟨_, List.getElem?_eq_getElem (by omega)⟩
    have htB : (B b)[m]? = some t := by rw [HL.out]; exact ht
    have htn : l[m + 1]? = none := List.getElem?_eq_none (by omega)
    rw [hm'] at r1
    simp only [prv] at r1
    rw [ht] at r1
    simp only [lnk] at r1
    have hT := H.out.each b m t htB
    rw [HL.out, cellsAt, htn] at hT
    simp only [lnk.eq_1] at hT
    obtain ⟨tb, htb⟩ : ∃ tb, t.blk = tb := ⟨_, rfl⟩
    rw [htb] at r1 hT
    have t4 := hT.cell (o := 4) rfl
    have u4 := hT.frozen 4
    have hts : tb ≠ sb := by rw [← htb]; exact HNEW.out b m t htB
    have htl : tb ≠ lb := by rw [← htb]; exact (HF.out b m t htB).2
    have htq : tb ≠ qb := by rw [← htb]; exact (HF.out b m t htB).1
    have HT := hid hT
    have HTB := hid htb
    have HTG := hid htB
    have HM := hid hm'
    have HTN := hid htn
    have HTL := hid ht
    clear hm hm' htB htn hT htb ht
    go_wp2_with fail
    go_end0
    have hK : Kept [lb, sb, tb] wq ((((wq.setCell ⟨sb, 3, none⟩ (.pointer (some ⟨tb, 0, none⟩))).setCell ⟨sb, 4, none⟩ (.pointer none)).setCell ⟨tb, 4, none⟩ (.pointer (some ⟨sb, 0, none⟩))).setCell ⟨lb, b * 2 + 1, none⟩ (.pointer (some ⟨sb, 0, none⟩))) :=
      ((((Kept.refl _ _).setCell (.inl (by simp)) _).setCell (.inl (by simp)) _).setCell (.inl (by simp)) _).setCell (.inl (by simp)) _
    refine ⟨rfl, ⟨H.out.head.kept hK (by simp; exact ⟨hqlb, fun e => hq e.symm, fun e => htq e.symm⟩), ?_, ?_, addTo_inj HI.out (by rw [HSB.out]; exact HNEW.out), ?_, hqlb, H.out.pos, H.out.small⟩, ?_⟩
    · refine Blk.eq ((((H.out.rows.set_ne _ _ _ hl.symm).set_ne _ _ _ hl.symm).set_ne _ _ _ htl.symm).set _ _) ?_
      rw [rowsOf_set _ _ hbn (by omega)]
      apply rowsOf_congr
      intro p j hp hj
      by_cases e : p = b
      · subst e
        rcases (show j = 0 ∨ j = 1 by omega) with rfl | rfl
        · rw [if_neg (by omega)]
          unfold ends
          rw [if_pos rfl, if_pos rfl, addTo_at, HL.out, List.getElem?_append_left (by have := HM.out; omega)]
        · simp [ends, addTo_at, HL.out, lnk, prv, HSB.out]
      · simp [ends, addTo_ne s e, e]
    · intro k i u hu0
      rcases addTo_get hu0 with hu | ⟨rfl, rfl, rfl⟩
      · by_cases hkb : k = b
        · subst hkb
          rw [addTo_at, HL.out]
          rw [HL.out] at hu
          have hil := (List.getElem?_eq_some_iff.1 hu).1
          by_cases him : i = m
          · subst him
            obtain rfl : u = t := Option.some.inj (hu.symm.trans HTL.out)
            rw [HTB.out]
            refine Blk.eq ((((HT.out.set_ne _ _ _ hts).set_ne _ _ _ hts).set 4 _).set_ne _ _ _ htl) ?_
            simp only [cellsAt, prv_append (show i ≤ l.length by omega)]
            rw [List.getElem?_append_right (by have := HM.out; omega), show i + 1 - l.length = 0 by have := HM.out; omega]
            simp [lnk, HSB.out]
          · have hb2 := H.out.each k i u (by rw [HL.out]; exact hu)
            rw [HL.out] at hb2
            have hne : u.blk ≠ tb := fun e => him ((HI.out k i u k m t (by rw [HL.out]; exact hu) HTG.out (e.trans HTB.out.symm)).2)
            refine Blk.eq (hb2.kept hK (by simp; exact ⟨(HF.out k i u (by rw [HL.out]; exact hu)).2, HNEW.out k i u (by rw [HL.out]; exact hu), hne⟩)) ?_
            simp only [cellsAt, prv_append (show i ≤ l.length by omega)]
            rw [List.getElem?_append_left (by have := HM.out; omega)]
        · rw [addTo_ne s hkb]
          have hne : u.blk ≠ tb := fun e => hkb ((HI.out k i u b m t hu HTG.out (e.trans HTB.out.symm)).1)
          exact (H.out.each k i u hu).kept hK (by simp; exact ⟨(HF.out k i u hu).2, HNEW.out k i u hu, hne⟩)
      · rw [addTo_at, HL.out, HSB.out]
        refine Blk.eq ((((HS.out.set 3 _).set 4 _).set_ne _ _ _ hts.symm).set_ne _ _ _ hl) ?_
        rw [HM.out]
        simp only [cellsAt, prv, List.getElem?_append_left (show m < l.length by have := HM.out; omega), HTL.out, lnk, HTB.out]
        rw [List.getElem?_eq_none (by have := HM.out; simp; omega)]
        rfl
    · intro k i u hu0
      rcases addTo_get hu0 with hu | ⟨rfl, rfl, rfl⟩
      · exact HF.out k i u hu
      · rw [HSB.out]; exact ⟨hq, hl⟩
    · refine (HKq.out.nil.trans hK).mono ?_
      intro z hz
      simp only [List.mem_cons, List.not_mem_nil, or_false] at hz
      rcases hz with rfl | rfl | rfl
      · simp
      · simp
      · rw [List.mem_cons, List.mem_cons, HL.out]
        exact .inr (.inr (List.mem_map.2 ⟨t, List.mem_of_getElem? HTL.out, HTB.out⟩))

end Go.Proofs.YtenahekdhepnfaaDoor
