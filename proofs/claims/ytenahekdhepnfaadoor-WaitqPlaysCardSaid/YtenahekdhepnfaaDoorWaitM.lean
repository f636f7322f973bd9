/- Sleepers in lists: what a queue's memory holds, as plain lists. -/
import Derived.Test.YtenahekdhepnfaaDoorLib
namespace Go.Proofs.YtenahekdhepnfaaDoor
open Go Go.RowKit

/-- One that sleeps, and the block where it lies. -/
structure Slp where
  id : Nat
  addr : Nat
  mask : Nat
  blk : Nat

def lnk : Option Slp → Value
  | none => .pointer none
  | some s => .pointer (some ⟨s.blk, 0, none⟩)
def prv (l : List Slp) : Nat → Option Slp
  | 0 => none
  | i + 1 => l[i]?
def cellsAt (l : List Slp) (i : Nat) (s : Slp) : List Value := [.int .u64 s.id, .int .u64 s.addr, .int .u64 s.mask, lnk (prv l i), lnk l[i + 1]?]
def ends (B : Nat → List Slp) (k j : Nat) : Value := if j = 0 then lnk (B k)[0]? else lnk (prv (B k) (B k).length)

theorem prv_append {l m : List Slp} {i : Nat} (h : i ≤ l.length) : prv (l ++ m) i = prv l i := by
  cases i with
  | zero => rfl
  | succ i => simp only [prv]; rw [List.getElem?_append_left (by omega)]

/-- One goes. -/
theorem erase_get {l : List Slp} {i j : Nat} : (l.eraseIdx i)[j]? = if j < i then l[j]? else l[j + 1]? := by
  rw [List.getElem?_eraseIdx]
theorem erase_prv {l : List Slp} {i j : Nat} (hj : j ≠ i) : prv (l.eraseIdx i) j = prv l (if j < i then j else j + 1) := by
  cases j with
  | zero =>
    rw [if_pos (by omega)]
    rfl
  | succ j =>
    by_cases h : j + 1 < i
    · rw [if_pos h]
      simp only [prv]
      rw [erase_get, if_pos (by omega)]
    · rw [if_neg h]
      simp only [prv]
      rw [erase_get, if_neg (by omega)]
theorem erase_prv_at {l : List Slp} {i : Nat} : prv (l.eraseIdx i) i = prv l i := by
  cases i with
  | zero => rfl
  | succ i =>
    simp only [prv]
    rw [erase_get, if_pos (by omega)]
theorem erase_filter : ∀ (l : List Slp) (i : Nat) (s : Slp), l[i]? = some s → (l.map (·.id)).Nodup → l.filter (fun t => t.id != s.id) = l.eraseIdx i
  | [], i, s, h, _ => by simp at h
  | x :: l, 0, s, h, hn => by
    simp at h
    subst h
    rw [List.map_cons, List.nodup_cons] at hn
    rw [List.filter_cons_of_neg (by simp), List.eraseIdx_zero, List.tail_cons]
    apply List.filter_eq_self.2
    intro y hy
    have : y.id ≠ x.id := fun e => hn.1 (List.mem_map.2 ⟨y, hy, e⟩)
    simpa using this
  | x :: l, i + 1, s, h, hn => by
    rw [List.map_cons, List.nodup_cons] at hn
    simp at h
    have hx : x.id ≠ s.id := fun e => hn.1 (List.mem_map.2 ⟨s, List.mem_of_getElem? h, e.symm⟩)
    rw [List.filter_cons_of_pos (by simpa using hx), List.eraseIdx_cons_succ, erase_filter l i s h hn.2]

end Go.Proofs.YtenahekdhepnfaaDoor
