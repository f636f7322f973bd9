/- The clock's map of who is armed, plain. -/
import Derived.Test.YtcaikpfdhdbioaaDoorHeapM
namespace Go.Proofs.YtcaikpfdhdbioaaDoor
open Go Go.RowKit

def armV (t : Th) : Value := .agg #[.int .i64 t.h, .int .u64 t.d]
def byOf (S : List Th) (y : Int) : Option Value := (S.find? fun t => (t.x : Int) == y).map armV

theorem by_none {S : List Th} {y : Int} (h : ∀ t, t ∈ S → (t.x : Int) ≠ y) : byOf S y = none := by
  unfold byOf
  rw [List.find?_eq_none.2]
  · rfl
  · intro t ht
    simpa using h t ht
theorem uniqX {S : List Th} (hn : (S.map (·.x)).Nodup) {s t : Th} (hs : s ∈ S) (ht : t ∈ S) (e : s.x = t.x) : s = t := by
  induction S with
  | nil => cases hs
  | cons u S ih =>
    rw [List.map_cons, List.nodup_cons] at hn
    rcases List.mem_cons.1 hs with h1 | h1
    · rcases List.mem_cons.1 ht with h2 | h2
      · exact h1.trans h2.symm
      · exact absurd (List.mem_map.2 ⟨t, h2, by rw [← e, h1]⟩) hn.1
    · rcases List.mem_cons.1 ht with h2 | h2
      · exact absurd (List.mem_map.2 ⟨s, h1, by rw [e, h2]⟩) hn.1
      · exact ih hn.2 h1 h2
theorem by_some {S : List Th} (hn : (S.map (·.x)).Nodup) {t : Th} (ht : t ∈ S) : byOf S (t.x : Int) = some (armV t) := by
  unfold byOf
  cases h : S.find? fun u => (u.x : Int) == (t.x : Int) with
  | none => simpa using List.find?_eq_none.1 h t ht
  | some u =>
    have h1 := List.find?_some h
    simp at h1
    rw [uniqX hn (List.mem_of_find?_eq_some h) ht (by omega)]
    rfl
theorem by_perm {S V : List Th} (h : S.Perm V) (hn : (S.map (·.x)).Nodup) (y : Int) : byOf S y = byOf V y := by
  have hnV := (h.map (·.x)).nodup_iff.1 hn
  by_cases e : ∃ t, t ∈ S ∧ (t.x : Int) = y
  · obtain ⟨t, ht, rfl⟩ := e
    rw [by_some hn ht, by_some hnV (h.mem_iff.1 ht)]
  · rw [by_none (fun t ht e2 => e ⟨t, ht, e2⟩), by_none (fun t ht e2 => e ⟨t, h.mem_iff.2 ht, e2⟩)]
theorem by_cons (t : Th) (S : List Th) (y : Int) : byOf (t :: S) y = if y = (t.x : Int) then some (armV t) else byOf S y := by
  unfold byOf
  by_cases e : y = (t.x : Int)
  · subst e
    rw [if_pos rfl, List.find?_cons_of_pos (by simp)]
    rfl
  · rw [if_neg e, List.find?_cons_of_neg (by simp; exact fun h => e h.symm)]
theorem by_ins {S : List Th} {t : Th} (hn : (S.map (·.x)).Nodup) (hno : ∀ s, s ∈ S → s.x ≠ t.x) (y : Int) : byOf (insT t S) y = if y = (t.x : Int) then some (armV t) else byOf S y := by
  have hn2 : ((t :: S).map (·.x)).Nodup := by
    rw [List.map_cons, List.nodup_cons]
    refine ⟨fun h => ?_, hn⟩
    obtain ⟨s, hs, e⟩ := List.mem_map.1 h
    exact hno s hs e
  rw [← by_cons, by_perm (insT_perm t S) (((insT_perm t S).map (·.x)).nodup_iff.2 hn2)]
theorem ins_ids {S : List Th} {t : Th} (hn : (S.map (·.x)).Nodup) (hno : ∀ s, s ∈ S → s.x ≠ t.x) : ((insT t S).map (·.x)).Nodup := by
  refine ((insT_perm t S).map (·.x)).nodup_iff.2 ?_
  rw [List.map_cons, List.nodup_cons]
  refine ⟨fun h => ?_, hn⟩
  obtain ⟨s, hs, e⟩ := List.mem_map.1 h
  exact hno s hs e
theorem by_tail {s : Th} {S : List Th} (hn : ((s :: S).map (·.x)).Nodup) (y : Int) : byOf S y = if y = (s.x : Int) then none else byOf (s :: S) y := by
  rw [by_cons]
  by_cases e : y = (s.x : Int)
  · rw [if_pos e]
    rw [List.map_cons, List.nodup_cons] at hn
    exact by_none fun t ht e2 => hn.1 (List.mem_map.2 ⟨t, ht, by omega⟩)
  · rw [if_neg e, if_neg e]
theorem by_out {S : List Th} {t : Th} (hn : (S.map (·.x)).Nodup) (hh : (S.map (·.h)).Nodup) (ht : t ∈ S) (y : Int) : byOf (outT t.h S) y = if y = (t.x : Int) then none else byOf S y := by
  have hm : ∀ s, s ∈ outT t.h S ↔ s ∈ S ∧ s ≠ t := by
    intro s
    unfold outT
    rw [List.mem_filter]
    constructor
    · rintro ⟨h1, h2⟩
      refine ⟨h1, fun e => ?_⟩
      subst e
      simp at h2
    · rintro ⟨h1, h2⟩
      refine ⟨h1, ?_⟩
      simp
      intro e
      apply h2
      clear h2
      induction S with
      | nil => cases h1
      | cons u S ih =>
        rw [List.map_cons, List.nodup_cons] at hh hn
        rcases List.mem_cons.1 h1 with h3 | h3
        · rcases List.mem_cons.1 ht with h4 | h4
          · exact h3.trans h4.symm
          · exact absurd (List.mem_map.2 ⟨t, h4, by rw [← e, h3]⟩) hh.1
        · rcases List.mem_cons.1 ht with h4 | h4
          · exact absurd (List.mem_map.2 ⟨s, h3, by rw [e, h4]⟩) hh.1
          · exact ih hn.2 hh.2 h4 h3
  have hno : ((outT t.h S).map (·.x)).Nodup := List.Nodup.sublist (List.filter_sublist.map _) hn
  by_cases e : y = (t.x : Int)
  · rw [if_pos e]
    refine by_none fun s hs e2 => ?_
    obtain ⟨h1, h2⟩ := (hm s).1 hs
    exact h2 (uniqX hn h1 ht (by omega))
  · rw [if_neg e]
    by_cases e2 : ∃ s, s ∈ S ∧ (s.x : Int) = y
    · obtain ⟨s, hs, rfl⟩ := e2
      have hst : s ≠ t := fun h => e (by rw [h])
      rw [by_some hn hs, by_some hno ((hm s).2 ⟨hs, hst⟩)]
    · rw [by_none (fun s hs h => e2 ⟨s, hs, h⟩), by_none (fun s hs h => e2 ⟨s, ((hm s).1 hs).1, h⟩)]
theorem out_length {S : List Th} {t : Th} (hh : (S.map (·.h)).Nodup) (ht : t ∈ S) : (outT t.h S).length + 1 = S.length := by
  obtain ⟨a, b, rfl⟩ := List.append_of_mem ht
  have h1 : (t :: (a ++ b)).Perm (a ++ t :: b) := List.perm_middle.symm
  have h := outT_perm (.refl (t :: (a ++ b))) h1 hh
  rw [← h.length_eq, ← h1.length_eq]
  rfl
theorem split_sorted (t : Nat) : ∀ {S : List Th}, S.Pairwise Ah → S = (S.filter fun s => decide (s.d ≤ t)) ++ S.filter fun s => decide (t < s.d)
  | [], _ => rfl
  | s :: S, h => by
    rw [List.pairwise_cons] at h
    by_cases e : s.d ≤ t
    · rw [List.filter_cons_of_pos (by simpa using e), List.filter_cons_of_neg (by simpa using e), List.cons_append, ← split_sorted t h.2]
    · have hall : ∀ u, u ∈ S → t < u.d := fun u hu => by
        have := h.1 u hu
        unfold Ah at this
        omega
      have e2 : (S.filter fun s => decide (s.d ≤ t)) = [] := by
        rw [List.filter_eq_nil_iff]
        intro u hu
        have := hall u hu
        simp
        omega
      have e3 : (S.filter fun s => decide (t < s.d)) = S := by
        rw [List.filter_eq_self]
        intro u hu
        simpa using hall u hu
      rw [List.filter_cons_of_neg (by simpa using e), List.filter_cons_of_pos (by simp; omega), e2, e3]
      rfl
def numV (t : Th) : Value := .int .u64 t.x
def sliceLen : Value → Nat
  | .slice _ n _ => n
  | _ => 0

end Go.Proofs.YtcaikpfdhdbioaaDoor
