/- Binary heaps of things with deadlines, as lists. No program in sight. -/
import Derived.Test.YtcaikpfdhdbioaaDoorLib
namespace Go.Proofs.YtcaikpfdhdbioaaDoor
open Go Go.RowKit

structure Th where
  d : Nat
  x : Nat
  h : Nat

def th0 : Th := ⟨0, 0, 0⟩
def tat (V : List Th) (i : Nat) : Th := V.getD i th0
theorem tat_get {V : List Th} {i : Nat} (h : i < V.length) : V[i]? = some (tat V i) := by
  unfold tat
  rw [List.getD_eq_getElem?_getD, List.getElem?_eq_getElem h]
  rfl
theorem tat_eq {V : List Th} {i : Nat} {t : Th} (h : V[i]? = some t) : tat V i = t := by
  unfold tat
  rw [List.getD_eq_getElem?_getD, h]
  rfl
theorem tat_mem {V : List Th} {i : Nat} (h : i < V.length) : tat V i ∈ V := List.mem_of_getElem? (tat_get h)
theorem tat_of {V : List Th} {t : Th} (h : t ∈ V) : ∃ i, i < V.length ∧ tat V i = t := by
  obtain ⟨i, hi⟩ := List.getElem?_of_mem h
  exact ⟨i, (List.getElem?_eq_some_iff.1 hi).1, tat_eq hi⟩
theorem tat_set (V : List Th) (i j : Nat) (t : Th) (h : i < V.length) : tat (V.set i t) j = if j = i then t else tat V j := by
  unfold tat
  rw [List.getD_eq_getElem?_getD, List.getD_eq_getElem?_getD, List.getElem?_set]
  by_cases e : i = j
  · subst e
    simp [h]
  · rw [if_neg e, if_neg (by omega)]
theorem set_self {V : List Th} {i : Nat} (h : i < V.length) : V.set i (tat V i) = V := by
  apply List.ext_getElem?
  intro j
  rw [List.getElem?_set]
  by_cases e : i = j
  · subst e
    rw [if_pos rfl, if_pos h, tat_get h]
  · rw [if_neg e]

def Ah (a b : Th) : Prop := a.d < b.d ∨ a.d = b.d ∧ a.h < b.h
def ahB (a b : Th) : Bool := decide (a.d < b.d) || (decide (a.d = b.d) && decide (a.h < b.h))
theorem ahB_iff (a b : Th) : ahB a b = true ↔ Ah a b := by simp [ahB, Ah]
theorem ahB_true {a b : Th} (h : Ah a b) : ahB a b = true := (ahB_iff a b).2 h
theorem ahB_false {a b : Th} (h : ¬ Ah a b) : ahB a b = false := by
  cases e : ahB a b with
  | false => rfl
  | true => exact absurd ((ahB_iff a b).1 e) h

/-- Two places change what they hold. -/
def swp (V : List Th) (i p : Nat) : List Th := (V.set i (tat V p)).set p (tat V i)
theorem swp_length (V : List Th) (i p : Nat) : (swp V i p).length = V.length := by simp [swp]
theorem tat_swp (V : List Th) (i p j : Nat) (hi : i < V.length) (hp : p < V.length) : tat (swp V i p) j = if j = p then tat V i else if j = i then tat V p else tat V j := by
  unfold swp
  rw [tat_set _ _ _ _ (by simpa using hp), tat_set _ _ _ _ hi]
theorem swp_perm (V : List Th) (i p : Nat) (hi : i < V.length) (hp : p < V.length) : (swp V i p).Perm V := by
  have h := List.set_set_perm (as := V) hi hp
  have e1 : V[i] = tat V i := by have := tat_get hi; rw [List.getElem?_eq_getElem hi] at this; exact Option.some.inj this
  have e2 : V[p] = tat V p := by have := tat_get hp; rw [List.getElem?_eq_getElem hp] at this; exact Option.some.inj this
  rw [e1, e2] at h
  exact h

/-! ### The order -/
def HeapL (V : List Th) : Prop := ∀ j, j < V.length → 0 < j → ¬ Ah (tat V j) (tat V ((j - 1) / 2))
def Grand (V : List Th) (i : Nat) : Prop := ∀ j, j < V.length → 0 < j → (j - 1) / 2 = i → 0 < i → ¬ Ah (tat V j) (tat V ((i - 1) / 2))
def Hole (V : List Th) (i : Nat) : Prop := (∀ j, j < V.length → 0 < j → j ≠ i → (j - 1) / 2 ≠ i → ¬ Ah (tat V j) (tat V ((j - 1) / 2))) ∧ Grand V i
def Kids (V : List Th) (i : Nat) : Prop := ∀ j, j < V.length → 0 < j → (j - 1) / 2 = i → ¬ Ah (tat V j) (tat V i)
def Dn (V : List Th) (i : Nat) : Prop := (∀ j, j < V.length → 0 < j → (j - 1) / 2 ≠ i → ¬ Ah (tat V j) (tat V ((j - 1) / 2))) ∧ Grand V i

theorem heap_of {V : List Th} {i : Nat} (h : Dn V i) (k : Kids V i) : HeapL V := by
  intro j hj h0
  by_cases e : (j - 1) / 2 = i
  · rw [e]; exact k j hj h0 e
  · exact h.1 j hj h0 e

theorem hole_up {V : List Th} {i : Nat} (hi : i < V.length) (h0 : 0 < i) (H : Hole V i) (ha : Ah (tat V i) (tat V ((i - 1) / 2))) :
    Hole (swp V i ((i - 1) / 2)) ((i - 1) / 2) ∧ Kids (swp V i ((i - 1) / 2)) ((i - 1) / 2) := by
  obtain ⟨p, hp⟩ : ∃ p, (i - 1) / 2 = p := ⟨_, rfl⟩
  rw [hp] at ha ⊢
  have hpi : p < i := by omega
  have hpl : p < V.length := by omega
  obtain ⟨H1, H2⟩ := H
  refine ⟨⟨fun j hj hj0 e1 e2 => ?_, fun j hj hj0 e1 hp0 => ?_⟩, fun j hj hj0 e1 => ?_⟩
  · rw [swp_length] at hj
    have e3 : j ≠ i := fun e => e2 (by rw [e]; exact hp)
    rw [tat_swp _ _ _ _ hi hpl, tat_swp _ _ _ _ hi hpl, if_neg e1, if_neg e3, if_neg e2]
    by_cases e4 : (j - 1) / 2 = i
    · rw [if_pos e4]
      have := H2 j hj hj0 e4 h0
      rw [hp] at this
      exact this
    · rw [if_neg e4]
      exact H1 j hj hj0 e3 e4
  · rw [swp_length] at hj
    have hpp := H1 p hpl hp0 (by omega) (by omega)
    rw [tat_swp _ _ _ _ hi hpl, tat_swp _ _ _ _ hi hpl, if_neg (show ¬ j = p by omega), if_neg (show ¬ (p - 1) / 2 = p by omega), if_neg (show ¬ (p - 1) / 2 = i by omega)]
    by_cases e3 : j = i
    · rw [if_pos e3]; exact hpp
    · rw [if_neg e3]
      have h3 := H1 j hj hj0 e3 (by omega)
      rw [e1] at h3
      unfold Ah at *
      omega
  · rw [swp_length] at hj
    rw [tat_swp _ _ _ _ hi hpl, tat_swp _ _ _ _ hi hpl, if_neg (show ¬ j = p by omega), if_pos rfl]
    by_cases e3 : j = i
    · rw [if_pos e3]
      unfold Ah at *
      omega
    · rw [if_neg e3]
      have h3 := H1 j hj hj0 e3 (by omega)
      rw [e1] at h3
      unfold Ah at *
      omega

theorem hole_stop {V : List Th} {i : Nat} (H : Hole V i) (hs : i = 0 ∨ ¬ Ah (tat V i) (tat V ((i - 1) / 2))) : Dn V i := by
  refine ⟨fun j hj hj0 e => ?_, H.2⟩
  by_cases e1 : j = i
  · subst e1
    rcases hs with h | h
    · omega
    · exact h
  · exact H.1 j hj hj0 e1 e

theorem dn_down {V : List Th} {i k : Nat} (hk : k < V.length) (hk0 : 0 < k) (hki : (k - 1) / 2 = i) (H : Dn V i) (hb : ∀ j, j < V.length → 0 < j → (j - 1) / 2 = i → ¬ Ah (tat V j) (tat V k)) (ha : Ah (tat V k) (tat V i)) : Dn (swp V i k) k := by
  have hik : i < k := by omega
  have hi : i < V.length := by omega
  obtain ⟨H1, H2⟩ := H
  refine ⟨fun j hj hj0 e => ?_, fun j hj hj0 e _ => ?_⟩
  · rw [swp_length] at hj
    rw [tat_swp _ _ _ _ hi hk, tat_swp _ _ _ _ hi hk, if_neg e]
    by_cases e1 : j = k
    · subst e1
      rw [if_pos rfl, if_pos hki]
      unfold Ah at *
      omega
    · rw [if_neg e1]
      by_cases e2 : (j - 1) / 2 = i
      · rw [if_neg (show ¬ j = i by omega), if_pos e2]
        exact hb j hj hj0 e2
      · rw [if_neg e2]
        by_cases e3 : j = i
        · rw [if_pos e3]
          subst e3
          exact H2 k hk hk0 hki hj0
        · rw [if_neg e3]
          exact H1 j hj hj0 e2
  · rw [swp_length] at hj
    rw [tat_swp _ _ _ _ hi hk, tat_swp _ _ _ _ hi hk, if_neg (show ¬ j = k by omega), if_neg (show ¬ j = i by omega), hki, if_neg (show ¬ i = k by omega), if_pos rfl]
    have := H1 j hj hj0 (by omega)
    rw [e] at this
    exact this

theorem kids_none {V : List Th} {i : Nat} (h : V.length ≤ 2 * i + 1) : Kids V i := fun j hj hj0 e => by omega
theorem kids_stop {V : List Th} {i k : Nat} (hb : ∀ j, j < V.length → 0 < j → (j - 1) / 2 = i → ¬ Ah (tat V j) (tat V k)) (ha : ¬ Ah (tat V k) (tat V i)) : Kids V i := fun j hj hj0 e => by
  have := hb j hj hj0 e
  unfold Ah at *
  omega

theorem heap_min {V : List Th} (H : HeapL V) : ∀ j, j < V.length → ¬ Ah (tat V j) (tat V 0) := by
  intro j
  induction j using Nat.strongRecOn with
  | _ j ih =>
    intro hj
    by_cases e : j = 0
    · subst e
      unfold Ah
      omega
    · have h1 := H j hj (by omega)
      have h2 := ih ((j - 1) / 2) (by omega) (by omega)
      unfold Ah at *
      omega

/-! ### The places by their handles -/
def Inj (V : List Th) : Prop := ∀ j k, j < V.length → k < V.length → (tat V j).h = (tat V k).h → j = k
theorem inj_of {V : List Th} (h : (V.map (·.h)).Nodup) : Inj V := by
  intro j k hj hk e
  rcases Nat.lt_trichotomy j k with h1 | h1 | h1
  · exfalso
    have hp := List.pairwise_iff_getElem.1 h j k (by simpa using hj) (by simpa using hk) h1
    have a1 := tat_get hj
    have a2 := tat_get hk
    rw [List.getElem?_eq_getElem hj] at a1
    rw [List.getElem?_eq_getElem hk] at a2
    simp only [List.getElem_map, Option.some.inj a1, Option.some.inj a2] at hp
    exact hp e
  · exact h1
  · exfalso
    have hp := List.pairwise_iff_getElem.1 h k j (by simpa using hk) (by simpa using hj) h1
    have a1 := tat_get hj
    have a2 := tat_get hk
    rw [List.getElem?_eq_getElem hj] at a1
    rw [List.getElem?_eq_getElem hk] at a2
    simp only [List.getElem_map, Option.some.inj a1, Option.some.inj a2] at hp
    exact hp e.symm

def NoneIn (f : Int → Option Value) (V : List Th) : Prop := ∀ y : Int, (∀ j, j < V.length → y ≠ ((tat V j).h : Int)) → f y = none
def MapHole (f : Int → Option Value) (V : List Th) (i : Nat) : Prop := (∀ j, j < V.length → j ≠ i → f ((tat V j).h : Int) = some (.int .i64 (j : Int))) ∧ NoneIn f V
def MapAll (f : Int → Option Value) (V : List Th) : Prop := (∀ j, j < V.length → f ((tat V j).h : Int) = some (.int .i64 (j : Int))) ∧ NoneIn f V
/-- The map, a key laid. -/
def upd (f : Int → Option Value) (k : Nat) (i : Nat) : Int → Option Value := fun y => if y = (k : Int) then some (.int .i64 (i : Int)) else f y

theorem map_swp {f : Int → Option Value} {V : List Th} {i p : Nat} (h : MapHole f V i) (hn : Inj V) (hi : i < V.length) (hp : p < V.length) (hip : p ≠ i) : MapHole (upd f (tat V p).h i) (swp V i p) p := by
  refine ⟨fun j hj e => ?_, fun y hy => ?_⟩
  · rw [swp_length] at hj
    rw [tat_swp _ _ _ _ hi hp, if_neg e]
    unfold upd
    by_cases e1 : j = i
    · rw [if_pos e1, if_pos rfl, e1]
    · rw [if_neg e1, if_neg (fun e2 => e (hn j p hj hp (by omega)))]
      exact h.1 j hj e1
  · have h1 := hy i (by rw [swp_length]; exact hi)
    rw [tat_swp _ _ _ _ hi hp, if_neg (fun e => hip e.symm), if_pos rfl] at h1
    unfold upd
    rw [if_neg h1]
    refine h.2 y fun j hj => ?_
    by_cases e1 : j = i
    · have h2 := hy p (by rw [swp_length]; exact hp)
      rw [tat_swp _ _ _ _ hi hp, if_pos rfl] at h2
      rw [e1]; exact h2
    · by_cases e2 : j = p
      · rw [e2]; exact h1
      · have h2 := hy j (by rw [swp_length]; exact hj)
        rw [tat_swp _ _ _ _ hi hp, if_neg e2, if_neg e1] at h2
        exact h2
theorem map_end {f : Int → Option Value} {V : List Th} {i : Nat} (h : MapHole f V i) (hn : Inj V) (hi : i < V.length) : MapAll (upd f (tat V i).h i) V := by
  refine ⟨fun j hj => ?_, fun y hy => ?_⟩
  · unfold upd
    by_cases e : j = i
    · rw [if_pos (by rw [e]), e]
    · rw [if_neg (fun e2 => e (hn j i hj hi (by omega)))]
      exact h.1 j hj e
  · unfold upd
    rw [if_neg (hy i hi)]
    exact h.2 y hy
theorem MapAll.hole {f : Int → Option Value} {V : List Th} (h : MapAll f V) (i : Nat) : MapHole f V i := ⟨fun j hj _ => h.1 j hj, h.2⟩

/-! ### In order -/
def insT (t : Th) : List Th → List Th
  | [] => [t]
  | s :: S => if ahB t s then t :: s :: S else s :: insT t S
theorem insT_perm (t : Th) : ∀ S, (insT t S).Perm (t :: S)
  | [] => .refl _
  | s :: S => by
    unfold insT
    split
    · exact .refl _
    · exact ((insT_perm t S).cons s).trans (.swap _ _ _)
theorem insT_sorted (t : Th) : ∀ S : List Th, S.Pairwise Ah → (∀ s, s ∈ S → s.h ≠ t.h) → (insT t S).Pairwise Ah
  | [], _, _ => by simp [insT]
  | s :: S, h, hn => by
    rw [List.pairwise_cons] at h
    unfold insT
    split
    · rename_i e
      have e := (ahB_iff t s).1 e
      rw [List.pairwise_cons, List.pairwise_cons]
      refine ⟨fun u hu => ?_, h⟩
      rcases List.mem_cons.1 hu with rfl | hu
      · exact e
      · have := h.1 u hu
        unfold Ah at *
        omega
    · rename_i e
      have e : ¬ Ah t s := fun h => e ((ahB_iff t s).2 h)
      rw [List.pairwise_cons]
      refine ⟨fun u hu => ?_, insT_sorted t S h.2 (fun u hu => hn u (List.mem_cons_of_mem _ hu))⟩
      rcases List.mem_cons.1 ((insT_perm t S).mem_iff.1 hu) with rfl | hu
      · have := hn s (List.mem_cons_self ..)
        unfold Ah at *
        omega
      · exact h.1 u hu
def outT (h : Nat) (S : List Th) : List Th := S.filter fun t => t.h != h
theorem outT_perm {L V S : List Th} {t : Th} (h1 : L.Perm (t :: V)) (h2 : L.Perm S) (hn : (S.map (·.h)).Nodup) : V.Perm (outT t.h S) := by
  have h3 : S.Perm (t :: V) := h2.symm.trans h1
  have h4 : ((t :: V).map (·.h)).Nodup := (h3.map _).nodup_iff.1 hn
  have h5 := h3.filter (fun u => u.h != t.h)
  have h6 : (t :: V).filter (fun u => u.h != t.h) = V := by
    rw [List.filter_cons_of_neg (by simp)]
    rw [List.filter_eq_self]
    intro u hu
    rw [List.map_cons, List.nodup_cons] at h4
    have : u.h ≠ t.h := fun e => h4.1 (List.mem_map.2 ⟨u, hu, e⟩)
    simpa using this
  rw [h6] at h5
  exact h5.symm
theorem top_eq {L S : List Th} {s : Th} (hH : HeapL L) (hp : L.Perm (s :: S)) (hs : (s :: S).Pairwise Ah) : tat L 0 = s := by
  have hl : 0 < L.length := by rw [hp.length_eq]; simp
  obtain ⟨j, hj, e⟩ := tat_of (hp.mem_iff.2 (List.mem_cons_self ..))
  have h1 := heap_min hH j hj
  rw [e] at h1
  rcases List.mem_cons.1 (hp.mem_iff.1 (tat_mem hl)) with h2 | h2
  · exact h2
  · exact absurd ((List.pairwise_cons.1 hs).1 _ h2) h1

/-- What is left where one was taken out by the last one. -/
theorem out_last {L : List Th} {i n : Nat} (hn : L.length = n + 1) (hi : i < n) : L.Perm (tat L i :: (L.take n).set i (tat L n)) := by
  have h1 := swp_perm L i n (by omega) (by omega)
  have h2 : swp L i n = (L.take n).set i (tat L n) ++ [tat L i] := by
    apply List.ext_getElem?
    intro j
    have hlen : ((L.take n).set i (tat L n)).length = n := by simp; omega
    rcases Nat.lt_trichotomy j n with h | h | h
    · rw [List.getElem?_append_left (by omega), tat_get (by rw [swp_length]; omega), tat_swp _ _ _ _ (by omega) (by omega), if_neg (by omega), tat_get (by omega), tat_set _ _ _ _ (by simp; omega)]
      by_cases e : j = i
      · rw [if_pos e, if_pos e]
      · rw [if_neg e, if_neg e]
        congr 1
        unfold tat
        rw [List.getD_eq_getElem?_getD, List.getD_eq_getElem?_getD, List.getElem?_take, if_pos h]
    · subst h
      rw [tat_get (by rw [swp_length]; omega), tat_swp _ _ _ _ (by omega) (by omega), if_pos rfl, List.getElem?_append_right (by omega), hlen]
      simp
    · rw [List.getElem?_eq_none (by rw [swp_length]; omega), List.getElem?_eq_none (by rw [List.length_append, hlen]; simp; omega)]
  rw [h2] at h1
  exact (h1.symm.trans List.perm_append_comm).trans (.refl _)
theorem tat_take {L : List Th} {n j : Nat} (h : j < n) : tat (L.take n) j = tat L j := by
  unfold tat
  rw [List.getD_eq_getElem?_getD, List.getD_eq_getElem?_getD, List.getElem?_take, if_pos h]
theorem take_last {L : List Th} {n : Nat} (hn : L.length = n + 1) : L.Perm (tat L n :: L.take n) := by
  have h : L = L.take n ++ [tat L n] := by
    apply List.ext_getElem?
    intro j
    have hlen : (L.take n).length = n := by simp; omega
    rcases Nat.lt_trichotomy j n with h | h | h
    · rw [List.getElem?_append_left (by omega), List.getElem?_take, if_pos h]
    · subst h
      rw [List.getElem?_append_right (by omega), hlen, tat_get (by omega)]
      simp
    · rw [List.getElem?_eq_none (by omega), List.getElem?_eq_none (by rw [List.length_append, hlen]; simp; omega)]
  have h2 : (L.take n ++ [tat L n]).Perm ([tat L n] ++ L.take n) := List.perm_append_comm
  rw [← h] at h2
  exact h2
/-- The hole where the last one is laid in place of another. -/
theorem hole_last {L : List Th} {i n : Nat} (hn : L.length = n + 1) (hi : i < n) (H : HeapL L) (t : Th) : Hole ((L.take n).set i t) i := by
  have hl : ((L.take n).set i t).length = n := by simp; omega
  have hl2 : i < (L.take n).length := by simp; omega
  have ht : ∀ j, j < n → j ≠ i → tat ((L.take n).set i t) j = tat L j := fun j hj e => by rw [tat_set _ _ _ _ hl2, if_neg e, tat_take hj]
  refine ⟨fun j hj hj0 e1 e2 => ?_, fun j hj hj0 e1 hi0 => ?_⟩
  · rw [hl] at hj
    rw [ht j hj e1, ht _ (by omega) e2]
    exact H j (by omega) hj0
  · rw [hl] at hj
    rw [ht j hj (by omega), ht _ (by omega) (by omega)]
    have h1 := H j (by omega) hj0
    rw [e1] at h1
    have h2 := H i (by omega) hi0
    unfold Ah at *
    omega
theorem heap_take {L : List Th} {n : Nat} (hn : L.length = n + 1) (H : HeapL L) : HeapL (L.take n) := by
  intro j hj hj0
  have hj' : j < n := by simp at hj; omega
  rw [tat_take hj', tat_take (by omega)]
  exact H j (by omega) hj0
/-- The hole at the end. -/
theorem hole_put {L : List Th} (H : HeapL L) (t : Th) : Hole (L ++ [t]) L.length ∧ Kids (L ++ [t]) L.length := by
  have ht : ∀ j, j < L.length → tat (L ++ [t]) j = tat L j := fun j hj => by
    unfold tat
    rw [List.getD_eq_getElem?_getD, List.getD_eq_getElem?_getD, List.getElem?_append_left hj]
  have hl : (L ++ [t]).length = L.length + 1 := by simp
  refine ⟨⟨fun j hj hj0 e1 e2 => ?_, fun j hj hj0 e1 hi0 => by omega⟩, kids_none (by omega)⟩
  rw [ht j (by omega), ht _ (by omega)]
  exact H j (by omega) hj0
theorem tat_put (L : List Th) (t : Th) : tat (L ++ [t]) L.length = t := by
  unfold tat
  rw [List.getD_eq_getElem?_getD, List.getElem?_append_right (Nat.le_refl _)]
  simp
theorem tat_put' {L : List Th} {t : Th} {j : Nat} (hj : j < L.length) : tat (L ++ [t]) j = tat L j := by
  unfold tat
  rw [List.getD_eq_getElem?_getD, List.getD_eq_getElem?_getD, List.getElem?_append_left hj]

/-! ### The cells -/
def thV (t : Th) : List Value := [.int .u64 t.d, .int .u64 t.x, .int .i64 t.h]
def thA (t : Th) : Value := .agg #[.int .u64 t.d, .int .u64 t.x, .int .i64 t.h]
def TV : List Th → List Value
  | [] => []
  | t :: L => .int .u64 t.d :: .int .u64 t.x :: .int .i64 t.h :: TV L
theorem TV_length : ∀ L, (TV L).length = L.length * 3
  | [] => rfl
  | t :: L => by simp [TV, TV_length L]; omega
theorem TV_append : ∀ L M, TV (L ++ M) = TV L ++ TV M
  | [], M => rfl
  | t :: L, M => by simp [TV, TV_append L M]
theorem TV_snoc (L : List Th) (t : Th) : TV (L ++ [t]) = TV L ++ thV t := by rw [TV_append]; rfl
theorem TV_take : ∀ (L : List Th) (n : Nat), TV (L.take n) = (TV L).take (n * 3)
  | [], n => by simp [TV]
  | t :: L, 0 => by simp [TV]
  | t :: L, n + 1 => by
    rw [List.take_succ_cons, TV, TV_take L n, show (n + 1) * 3 = n * 3 + 1 + 1 + 1 by omega, TV, List.take_succ_cons, List.take_succ_cons, List.take_succ_cons]
theorem TV_get0 : ∀ {L : List Th} {i : Nat} {t : Th}, L[i]? = some t → (TV L)[i * 3]? = some (.int .u64 t.d) ∧ (TV L)[i * 3 + 1]? = some (.int .u64 t.x) ∧ (TV L)[i * 3 + 2]? = some (.int .i64 t.h)
  | [], i, t, h => by simp at h
  | s :: L, 0, t, h => by
    obtain rfl : s = t := by simpa using h
    exact ⟨rfl, rfl, rfl⟩
  | s :: L, i + 1, t, h => by
    have := TV_get0 (L := L) (i := i) (t := t) (by simpa using h)
    rw [show (i + 1) * 3 = i * 3 + 1 + 1 + 1 by omega]
    simpa [TV] using this
theorem TV_set : ∀ (L : List Th) (i : Nat) (t : Th), i < L.length → (((TV L).set (i * 3) (.int .u64 t.d)).set (i * 3 + 1) (.int .u64 t.x)).set (i * 3 + 2) (.int .i64 t.h) = TV (L.set i t)
  | [], i, t, h => by simp at h
  | s :: L, 0, t, h => by simp [TV]
  | s :: L, i + 1, t, h => by
    have := TV_set L i t (by simpa using h)
    rw [show (i + 1) * 3 = i * 3 + 1 + 1 + 1 by omega]
    simp only [TV, List.set_cons_succ]
    rw [this]

end Go.Proofs.YtcaikpfdhdbioaaDoor
