/- package heap: Pop. -/
import Derived.Test.YtcaikpfdhdbioaaDoorHeapO
namespace Go.Proofs.YtcaikpfdhdbioaaDoor
open Go Go.RowKit

theorem outT_head {s : Th} {S : List Th} (hn : ((s :: S).map (·.h)).Nodup) : outT s.h (s :: S) = S := by
  unfold outT
  rw [List.map_cons, List.nodup_cons] at hn
  rw [List.filter_cons_of_neg (by simp), List.filter_eq_self]
  intro t ht
  have : t.h ≠ s.h := fun e => hn.1 (List.mem_map.2 ⟨t, ht, e⟩)
  simpa using this

/-- The head of the heap's row. -/
theorem HeapAt.front {w : World} {hb mb base : Nat} {v : Value} {s : Th} {S : List Th} {last : Nat} (h : HeapAt w hb mb base v (s :: S) last) :
    ∃ g n cap, v = .slice (some ⟨g, 0, none⟩) (n + 1) cap ∧ w.cell? ⟨g, 0, none⟩ = some (.int .u64 s.d) ∧ w.cell? ⟨g, 2, none⟩ = some (.int .i64 s.h) ∧ n + 1 = (s :: S).length := by
  obtain ⟨L, f, hr, hH, hM, hp⟩ := h.ex
  have hl : L.length = (s :: S).length := hp.length_eq
  obtain ⟨g, cap, rfl⟩ := hr.form (by rw [hl]; simp)
  obtain ⟨d0, d1, d2⟩ := hr.cells rfl (j := 0) (by rw [hl]; simp)
  rw [top_eq hH hp h.sorted] at d0 d2
  exact ⟨g, S.length, cap, by rw [hl]; rfl, by simpa using d0, by simpa using d2, rfl⟩
theorem HeapAt.head {w : World} {hb mb base : Nat} {v : Value} {S : List Th} {last : Nat} (h : HeapAt w hb mb base v S last) : Blk w hb [v, .map (some mb), .int .i64 last] := by
  obtain ⟨L, f, hr, r⟩ := h.ex
  exact hr.head
theorem HeapAt.form {w : World} {hb mb base : Nat} {v : Value} {S : List Th} {last : Nat} (h : HeapAt w hb mb base v S last) : ∃ a cap, v = .slice a S.length cap := by
  obtain ⟨L, f, hr, hH, hM, hp⟩ := h.ex
  rw [← hp.length_eq]
  exact own_form' hr.rows

set_option maxRecDepth 100000 in
set_option maxHeartbeats 1000000 in
theorem pop_none {w : World} {hb mb base : Nat} {v : Value} {S : List Th} {last : Nat} (h : HeapAt w hb mb base v S last) (hS : S.length ≤ 100000) (now : Nat) (hnow : ∀ s, s ∈ S → now < s.d) :
    Calls Tryd.prog 26 #[.pointer (some ⟨hb, 0, none⟩), .int .u64 now] w fun e w' => e = .returned (.tuple #[.int .u64 0, .bool false]) ∧ w = w' := by
  have c0 := h.head.cell (o := 0) rfl
  cases S with
  | nil =>
    obtain ⟨a, cap, rfl⟩ := h.form
    clear h
    simp only [List.length_nil] at c0
    go_enter Tryd.func26, Tryd.ntmps26
    go_wp2_with fail
    go_ret2
    exact ⟨rfl, rfl⟩
  | cons s S =>
    obtain ⟨g, n, cap, rfl, d0, d2, hn⟩ := h.front
    have hnS : n + 1 ≤ 100000 := by rw [hn]; exact hS
    have h1 := hnow s (List.mem_cons_self ..)
    have hgt : (now : Int) < (s.d : Int) := by omega
    have hne : ((n : Int) + 1 == 0) = false := by simp; omega
    clear h hn hnow h1 hS
    go_enter Tryd.func26, Tryd.ntmps26
    go_wp2_with fail
    go_ret2
    exact ⟨rfl, rfl⟩

set_option maxRecDepth 100000 in
set_option maxHeartbeats 1000000 in
theorem pop_some {w : World} {hb mb base : Nat} {v : Value} {s : Th} {S : List Th} {last : Nat} (h : HeapAt w hb mb base v (s :: S) last) (hS : (s :: S).length ≤ 100000) (hla : last ≤ 1000001) (now : Nat) (hnow : s.d ≤ now) :
    Calls Tryd.prog 26 #[.pointer (some ⟨hb, 0, none⟩), .int .u64 now] w fun e w' => e = .returned (.tuple #[.int .u64 s.x, .bool true]) ∧ ∃ v', HeapAt w' hb mb base v' S last ∧ (∀ b, b ∈ v'.ownBlock.toList → b ∈ v.ownBlock.toList) ∧ Kept (hown hb mb v) w w' := by
  have c0 := h.head.cell (o := 0) rfl
  have HD := hid (drop_ok h hS hla (t := s) (List.mem_cons_self ..))
  rw [outT_head h.nodup] at HD
  obtain ⟨g, n, cap, rfl, d0, d2, hn⟩ := h.front
  have hnS : n + 1 ≤ 100000 := by rw [hn]; exact hS
  have hgt : ¬ (now : Int) < (s.d : Int) := by omega
  have hne : ((n : Int) + 1 == 0) = false := by simp; omega
  clear h hn hS
  go_enter Tryd.func26, Tryd.ntmps26
  go_wp2_with fail
  refine HD.out.mono ?_
  rintro e w1 ⟨rfl, r⟩
  have R := hid r
  clear r
  go_wp2_with fail
  go_ret2
  exact ⟨rfl, R.out⟩

end Go.Proofs.YtcaikpfdhdbioaaDoor
