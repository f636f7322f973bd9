/- package waitq: the law WaitqMoves. -/
import Derived.Test.YtenahekdhepnfaaWaitP
import Derived.Test.YtenahekdhepnfaaWaitV
namespace Go.Proofs.Ytenahekdhepnfaa
open Go Go.RowKit

def GVx (l : List Int) : List Value := l.map (.int .u64)
theorem GVx_snoc (l : List Int) (x : Int) : GVx (l ++ [x]) = GVx l ++ [.int .u64 x] := by simp [GVx]
theorem GVx_get {l : List Int} {i : Nat} {x : Int} (h : l[i]? = some x) : (GVx l)[i]? = some (.int .u64 x) := by simp [GVx, h]
theorem GVx_length (l : List Int) : (GVx l).length = l.length := by simp [GVx]
/-- The ids of those on an address, in order. -/
def idsW (l : List Slp) (x : Nat) : List Int := (l.filter fun s => s.addr == x).map fun s => (s.id : Int)
theorem idsW_append (l m : List Slp) (x : Nat) : idsW (l ++ m) x = idsW l x ++ idsW m x := by simp [idsW]
theorem idsW_length (l : List Slp) (x : Nat) : (idsW l x).length ≤ l.length := by
  unfold idsW
  rw [List.length_map]
  exact List.length_filter_le _ _
theorem idsW_take {Q : List Slp} {i : Nat} {s : Slp} (hs : Q[i]? = some s) (x : Nat) : idsW (Q.take (i + 1)) x = if s.addr = x then idsW (Q.take i) x ++ [(s.id : Int)] else idsW (Q.take i) x := by
  obtain ⟨h1, h2⟩ := List.getElem?_eq_some_iff.1 hs
  rw [List.take_succ_eq_append_getElem h1, idsW_append, h2]
  by_cases e : s.addr = x
  · rw [if_pos e]; simp [idsW, e]
  · rw [if_neg e]; simp [idsW, e]
theorem first_of {l : List Slp} {p : Slp → Bool} {s : Slp} (hn : (l.map (·.id)).Nodup) (h : l.find? p = some s) : l.filter p = s :: (rem l s.id).filter p := by
  have hh : (l.filter p).head? = some s := by rw [List.head?_filter, h]
  have hsub : ((l.filter p).map (·.id)).Nodup := List.Nodup.sublist (List.filter_sublist.map _) hn
  cases hF : l.filter p with
  | nil => rw [hF] at hh; simp at hh
  | cons t tl =>
    rw [hF] at hh
    simp at hh
    subst hh
    have h1 := erase_filter (l.filter p) 0 t (by rw [hF]; rfl) hsub
    rw [hF, List.eraseIdx_zero, List.tail_cons] at h1
    congr 1
    rw [← h1]
    unfold rem
    rw [List.filter_filter, ← hF, List.filter_filter]
    congr 1
    funext u
    rw [Bool.and_comm]
theorem idsW_first {l : List Slp} {x : Nat} {s : Slp} (hn : (l.map (·.id)).Nodup) (h : l.find? (fun t => t.addr == x) = some s) : idsW l x = (s.id : Int) :: idsW (rem l s.id) x := by
  unfold idsW
  rw [first_of hn h]
  rfl
theorem idsW_other {l : List Slp} {x : Nat} {s : Slp} (hn : (l.map (·.id)).Nodup) (hs : s ∈ l) (h : s.addr ≠ x) : idsW (rem l s.id) x = idsW l x := by
  unfold idsW rem
  rw [List.filter_filter]
  congr 1
  apply List.filter_congr
  intro t ht
  by_cases e : t.id = s.id
  · obtain rfl := uniq hn ht hs e
    simp [h]
  · have : (t.id != s.id) = true := by simpa using e
    rw [this, Bool.and_true]
theorem filter_lt {l : List Nat} {p q : Nat → Bool} (h : ∀ x, x ∈ l → p x = true → q x = true) {y : Nat} (hy : y ∈ l) (h1 : q y = true) (h2 : p y = false) : (l.filter p).length < (l.filter q).length := by
  have hle : ∀ m : List Nat, (∀ x, x ∈ m → p x = true → q x = true) → (m.filter p).length ≤ (m.filter q).length := by
    intro m hm
    induction m with
    | nil => simp
    | cons z m ih =>
      have h3 := ih (fun x hx => hm x (by simp [hx]))
      by_cases e : p z = true
      · rw [List.filter_cons_of_pos e, List.filter_cons_of_pos (hm z (by simp) e)]
        simp
        exact h3
      · rw [List.filter_cons_of_neg e]
        by_cases e2 : q z = true
        · rw [List.filter_cons_of_pos e2]
          simp
          omega
        · rw [List.filter_cons_of_neg e2]
          exact h3
  induction l with
  | nil => cases hy
  | cons z l ih =>
    rcases List.mem_cons.1 hy with e | hy'
    · subst e
      rw [List.filter_cons_of_neg (by simp [h2]), List.filter_cons_of_pos h1]
      have := hle l (fun x hx => h x (by simp [hx]))
      simp
      omega
    · have h3 := ih (fun x hx => h x (by simp [hx])) hy'
      by_cases e : p z = true
      · rw [List.filter_cons_of_pos e, List.filter_cons_of_pos (h z (by simp) e)]
        simp
        exact h3
      · rw [List.filter_cons_of_neg e]
        by_cases e2 : q z = true
        · rw [List.filter_cons_of_pos e2]
          simp
          omega
        · rw [List.filter_cons_of_neg e2]
          exact h3
/-- How many of these blocks are sleepers on the address. -/
noncomputable def cntOn (blks : List Nat) (a : Nat) (w : World) : Nat := (blks.filter fun x => @decide (w.cell? ⟨x, 1, none⟩ = some (.int .u64 a)) (Classical.propDecidable _)).length
theorem SlpBlk.c1 {w : World} {s : Slp} (h : SlpBlk w s) : w.cell? ⟨s.blk, 1, none⟩ = some (.int .u64 s.addr) := by
  obtain ⟨x, y, h⟩ := h
  exact h.cell rfl
theorem cnt_move {blks : List Nat} {a b : Nat} {w w' : World} {qb lb mb n : Nat} {Q : List Slp} {s : Slp} (h : WaitsAt w qb lb mb n Q) (h' : WaitsAt w' qb lb mb n (rem Q s.id ++ [{ s with addr := b }])) (hs : s ∈ Q) (ha : s.addr = a) (hab : a ≠ b)
    (hb : ∀ x, x ∈ blks → ∃ t, t ∈ Q ∧ t.blk = x) (hsb : s.blk ∈ blks) : cntOn blks a w' < cntOn blks a w := by
  unfold cntOn
  refine filter_lt (y := s.blk) ?_ hsb ?_ ?_
  · intro x hx hp
    obtain ⟨t, ht, rfl⟩ := hb x hx
    have hp' := @of_decide_eq_true _ (Classical.propDecidable _) hp
    apply @decide_eq_true _ (Classical.propDecidable _)
    by_cases e : t.id = s.id
    · obtain rfl := uniq h.ids ht hs e
      have h1 : w'.cell? ⟨t.blk, 1, none⟩ = some (.int .u64 b) := (h'.slp (s := { t with addr := b }) (by simp)).c1
      rw [h1] at hp'
      simp at hp'
      omega
    · have hm : t ∈ rem Q s.id ++ [{ s with addr := b }] := List.mem_append.2 (.inl (List.mem_filter.2 ⟨ht, by simpa using e⟩))
      have h1 := (h'.slp hm).c1
      rw [h1] at hp'
      rw [(h.slp ht).c1]
      exact hp'
  · apply @decide_eq_true _ (Classical.propDecidable _)
    rw [(h.slp hs).c1, ha]
  · apply @decide_eq_false _ (Classical.propDecidable _)
    have h1 : w'.cell? ⟨s.blk, 1, none⟩ = some (.int .u64 b) := (h'.slp (s := { s with addr := b }) (by simp)).c1
    rw [h1]
    simp
    omega

theorem move_none' {w : World} {qb lb mb n : Nat} {Q : List Slp} (h : WaitsAt w qb lb mb n Q) (a b : Nat) (hq : Q.find? (fun t => t.addr == a) = none) :
    Calls Try.prog 11 #[.pointer (some ⟨qb, 0, none⟩), .int .u64 a, .int .u64 b] w fun e w' => e = .returned (.tuple #[.int .u64 0, .bool false]) ∧ Kept [] w w' :=
  move_none h a b (by rw [← hq]; congr 1; funext t; simp [fits])
theorem move_some' {w : World} {qb lb mb n : Nat} {Q : List Slp} (h : WaitsAt w qb lb mb n Q) (a b : Nat) {s : Slp} (hq : Q.find? (fun t => t.addr == a) = some s) :
    Calls Try.prog 11 #[.pointer (some ⟨qb, 0, none⟩), .int .u64 a, .int .u64 b] w fun e w' => e = .returned (.tuple #[.int .u64 s.id, .bool true]) ∧ WaitsAt w' qb lb mb n (rem Q s.id ++ [{ s with addr := b }]) ∧ Kept (owned lb mb Q) w w' :=
  move_some h a b (by rw [← hq]; congr 1; funext t; simp [fits])
theorem fits_one {Q : List Slp} (hm : ∀ s, s ∈ Q → s.mask = 1) (a : Nat) : Q.find? (fits a 1 false) = Q.find? (fun t => t.addr == a) := by
  induction Q with
  | nil => rfl
  | cons x Q ih =>
    have h1 := hm x (by simp)
    have h2 : fits a 1 false x = (x.addr == a) := by simp [fits, h1]
    rw [List.find?_cons, List.find?_cons, h2, ih (fun s hs => hm s (by simp [hs]))]

end Go.Proofs.Ytenahekdhepnfaa
