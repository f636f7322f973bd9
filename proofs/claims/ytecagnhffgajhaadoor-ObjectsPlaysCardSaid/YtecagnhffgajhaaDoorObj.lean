/- The contracts of package objects. -/
import Derived.Test.YtecagnhffgajhaaDoorProg
import Derived.Test.YtecagnhffgajhaaDoorLib
namespace Go.Proofs.YtecagnhffgajhaaDoor
open Go Go.RowKit

structure Row where
  times : Int
  handle : Int
  kind : Int
  addr : Int
def Row.v (r : Row) : Nat → Value
  | 0 => .int .u64 r.times
  | 1 => .int .u64 r.handle
  | 2 => .int .i64 r.kind
  | _ => .int .u64 r.addr

/-- The places of an Objects at block bo: n rows in block bl. -/
structure Objs (w : World) (bo bl n : Nat) (f : Nat → Row) : Prop where
  head : Blk w bo [.slice (some ⟨bl, 0, none⟩) n n]
  rows : Blk w bl (rowsOf 4 (fun p => (f p).v) n)
  small : n ≤ 64
  ne : bo ≠ bl

theorem Objs.kept {S : List Nat} {w w' : World} {bo bl n : Nat} {f : Nat → Row} (h : Objs w bo bl n f) (k : Kept S w w') (h1 : bo ∉ S) (h2 : bl ∉ S) : Objs w' bo bl n f :=
  ⟨h.head.kept k h1, h.rows.kept k h2, h.small, h.ne⟩
theorem Objs.keptN {w w' : World} {bo bl n : Nat} {f : Nat → Row} (h : Objs w bo bl n f) (k : Kept [] w w') : Objs w' bo bl n f := h.kept k (by simp) (by simp)
theorem Objs.c0 {w : World} {bo bl n : Nat} {f : Nat → Row} (h : Objs w bo bl n f) : w.cell? ⟨bo, 0, none⟩ = some (.slice (some ⟨bl, 0, none⟩) n n) := h.head.cell rfl
theorem Objs.cell {w : World} {bo bl n : Nat} {f : Nat → Row} (h : Objs w bo bl n f) {p : Nat} (hp : p < n) (j : Nat) (hj : j < 4) : w.cell? ⟨bl, p * 4 + j, none⟩ = some ((f p).v j) :=
  h.rows.cell (rowsOf_get _ hp hj)

/-- The place of a handle. -/
def placeOf (f : Nat → Row) (n : Nat) (h : Int) : Option Nat :=
  if h = 0 then none else if ((h - 1) % 64).toNat < n ∧ (f ((h - 1) % 64).toNat).handle = h then some ((h - 1) % 64).toNat else none

theorem of_ok {w : World} {bo bl n : Nat} {f : Nat → Row} (hO : Objs w bo bl n f) (h : Int) (h0 : 0 ≤ h) (hh : h < 18446744073709551616) :
    Calls Tryd.prog 29 #[.pointer (some ⟨bo, 0, none⟩), .int .u64 h] w fun e w' => e = .returned (.pointer ((placeOf f n h).map fun p => ⟨bl, p * 4, none⟩)) ∧ w = w' := by
  have c0 := hO.c0
  have hn := hO.small
  by_cases e0 : h = 0
  · subst e0
    go_enter Tryd.func29, Tryd.ntmps29
    go_wp2
    go_ret
    exact ⟨rfl, rfl⟩
  · by_cases e1 : (h - 1) % 64 < n
    · have c1 := hO.cell (p := ((h - 1) % 64).toNat) (by omega) 1 (by omega)
      simp only [Row.v] at c1
      by_cases e2 : (f ((h - 1) % 64).toNat).handle = h
      · have r : placeOf f n h = some ((h - 1) % 64).toNat := by unfold placeOf; rw [if_neg e0, if_pos ⟨by omega, e2⟩]
        rw [r]
        clear r
        rw [e2] at c1
        clear e2
        go_enter Tryd.func29, Tryd.ntmps29
        go_wp2
        go_ret
        exact ⟨rfl, rfl⟩
      · have r : placeOf f n h = none := by unfold placeOf; rw [if_neg e0, if_neg (fun x => e2 x.2)]
        rw [r]
        clear r
        generalize (f ((h - 1) % 64).toNat).handle = g at *
        have e3 : (g != h) = true := by simpa using e2
        go_enter Tryd.func29, Tryd.ntmps29
        go_wp2
        go_ret
        exact ⟨rfl, rfl⟩
    · have r : placeOf f n h = none := by unfold placeOf; rw [if_neg e0, if_neg (fun x => e1 (by omega))]
      rw [r]
      clear r
      go_enter Tryd.func29, Tryd.ntmps29
      go_wp2
      go_ret
      exact ⟨rfl, rfl⟩


def sObjects : ByteArray := ⟨#[111, 98, 106, 101, 99, 116, 115]⟩

theorem fail_ok (k : Int) (w : World) :
    Calls Tryd.prog 25 #[.iface 30 (.int .i64 k)] w fun e w' => ∃ v, e = .returned v ∧ ErrOut sObjects 0 k w v w' := by
  go_enter Tryd.func25, Tryd.ntmps25
  go_wp2
  go_ret
  exact ⟨_, rfl, _, rfl, Nat.le_refl _, Blk.newA _ _ rfl, (Kept.refl _ _).alloc _⟩

/-- No place is taken. -/
def row0 : Row := ⟨0, 0, 0, 0⟩

theorem info_row : (Tryd.prog.info? 79).map (fun i => (i.zero, i.size, i.bytes)) = some (some (.agg #[.int .u64 0, .int .u64 0, .int .i64 0, .int .u64 0]), 4, 32) := by kernel_rfl

theorem new_ok (n : Nat) (h1 : 1 ≤ n) (h2 : n ≤ 64) (w : World) :
    Calls Tryd.prog 7 #[.int .i64 n] w fun e w' => ∃ bo bl, e = .returned (.tuple #[.pointer (some ⟨bo, 0, none⟩), .nilIface]) ∧ w.heap.size ≤ bo ∧ w.heap.size ≤ bl ∧ Objs w' bo bl n (fun _ => row0) ∧ Kept [] w w' := by
  have hmk := mk_rows Tryd.underlying65 info_row row0.v rfl n (by omega) (by omega)
  go_enter Tryd.func7, Tryd.ntmps7
  go_wp2
  go_ret2
  exact ⟨w.heap.size + 1, w.heap.size, rfl, by omega, by omega, ⟨Blk.newA _ _ (by simp), (Blk.new _ _ _).alloc _, h2, by omega⟩, ((Kept.refl _ _).alloc _).alloc _⟩

theorem new_bad (n : Int) (h : n < 1 ∨ 64 < n) (w : World) :
    Calls Tryd.prog 7 #[.int .i64 n] w fun e w' => ∃ v, e = .returned (.tuple #[.pointer none, v]) ∧ ErrOut sObjects 0 1 w v w' := by
  rcases h with h | h
  all_goals
    go_enter Tryd.func7, Tryd.ntmps7
    go_wp2_with (go_at_call 25; refine (fail_ok _ _).mono ?_; rintro e w' ⟨v, rfl, hv⟩)
    go_ret2
    exact ⟨v, rfl, hv⟩

/-- The first place that nobody has. -/
def freeOf (f : Nat → Row) (n : Nat) : Option Nat := (List.range n).find? fun p => (f p).handle == 0

theorem freeOf_some {f : Nat → Row} {n p : Nat} (hp : p < n) (h0 : (f p).handle = 0) (hb : ∀ q, q < p → (f q).handle ≠ 0) : freeOf f n = some p := by
  unfold freeOf
  rw [List.find?_eq_some_iff_getElem]
  refine ⟨by simpa using h0, p, by simpa using hp, by simp, fun j hj => by simpa using hb j hj⟩
theorem freeOf_none {f : Nat → Row} {n : Nat} (hb : ∀ q, q < n → (f q).handle ≠ 0) : freeOf f n = none := by
  unfold freeOf
  rw [List.find?_eq_none]
  intro x hx
  simpa using hb x (by simpa using hx)

/-- A place is given. -/
def givenRow (p : Nat) (r : Row) (kind addr : Int) : Row := ⟨r.times + 1, p + 1 + 64 * r.times, kind, addr⟩

theorem make_bad (bo : Nat) (kind addr : Int) (h : kind < 1 ∨ 6 < kind) (w : World) :
    Calls Tryd.prog 11 #[.pointer (some ⟨bo, 0, none⟩), .int .i64 kind, .int .u64 addr] w fun e w' => ∃ v, e = .returned (.tuple #[.int .u64 0, v]) ∧ ErrOut sObjects 0 1 w v w' := by
  rcases h with h | h
  all_goals
    go_enter Tryd.func11, Tryd.ntmps11
    go_wp2_with (go_at_call 25; refine (fail_ok _ _).mono ?_; rintro e w' ⟨v, rfl, hv⟩)
    go_ret2
    exact ⟨v, rfl, hv⟩

def MakeOut (bo bl n : Nat) (f : Nat → Row) (kind addr : Int) (w : World) (v : Value) (w' : World) : Prop :=
  match freeOf f n with
  | some p => v = .tuple #[.int .u64 (p + 1 + 64 * (f p).times), .nilIface] ∧ Objs w' bo bl n (fun q => if q = p then givenRow p (f p) kind addr else f q) ∧ Kept [bl] w w'
  | none => ∃ x, v = .tuple #[.int .u64 0, x] ∧ ErrOut sObjects 0 3 w x w'

set_option maxRecDepth 100000 in
set_option maxHeartbeats 1000000 in
theorem make_ok {w : World} {bo bl n : Nat} {f : Nat → Row} (hO : Objs w bo bl n f) (kind addr : Int) (h1 : 1 ≤ kind) (h6 : kind ≤ 6) (hs : ∀ p, p < n → 0 ≤ (f p).times ∧ (f p).times ≤ 1000000) :
    Calls Tryd.prog 11 #[.pointer (some ⟨bo, 0, none⟩), .int .i64 kind, .int .u64 addr] w fun e w' => ∃ v, e = .returned v ∧ MakeOut bo bl n f kind addr w v w' := by
  have c0 := hO.c0
  have hn := hO.small
  have hH : Hid (Objs w bo bl n f) := hO
  have HS : Hid (∀ p, p < n → 0 ≤ (f p).times ∧ (f p).times ≤ 1000000) := hs
  clear hO hs
  go_enter Tryd.func11, Tryd.ntmps11
  go_wp2
  go_loop [23] (fun i => ∃ k : Nat, k ≤ n ∧ i = .int .i64 k ∧ ∀ q, q < k → (f q).handle ≠ 0) (fun i => n - (intOf i).toNat)
  case atStart => exact ⟨0, Nat.zero_le _, rfl, fun q h => by omega⟩
  case round =>
    obtain ⟨k, hk, rfl, hb⟩ := hrel
    have HB : Hid (∀ q, q < k → (f q).handle ≠ 0) := hb
    clear hb
    by_cases hlt : k < n
    · have c1 := hH.out.cell hlt 1 (by omega)
      have c2 := hH.out.cell hlt 0 (by omega)
      have c3 := hH.out.cell hlt 2 (by omega)
      have c4 := hH.out.cell hlt 3 (by omega)
      have z0 := hH.out.rows.frozen (k * 4 + 0)
      have z1 := hH.out.rows.frozen (k * 4 + 1)
      have z2 := hH.out.rows.frozen (k * 4 + 2)
      have z3 := hH.out.rows.frozen (k * 4 + 3)
      simp only [Row.v, Nat.add_zero] at c1 c2 c3 c4 z0
      obtain ⟨t0, t1⟩ := HS.out k hlt
      by_cases e : (f k).handle = 0
      · have hfree : Hid (freeOf f n = some k) := freeOf_some hlt e HB.out
        generalize hr : f k = r at *
        rw [e] at c1
        have HE : Hid (r.handle = 0) := e
        have HR : Hid (f k = r) := hr
        clear e hr
        go_wp2
        go_ret2
        refine ⟨_, rfl, ?_⟩
        unfold MakeOut
        rw [hfree.out]
        obtain rfl := HR.out
        refine ⟨rfl, ⟨?_, ?_, hn, hH.out.ne⟩, ?_⟩
        · exact ((((hH.out.head.set_ne _ _ _ hH.out.ne).set_ne _ _ _ hH.out.ne).set_ne _ _ _ hH.out.ne).set_ne _ _ _ hH.out.ne)
        · refine Blk.eq ((((hH.out.rows.set _ _).set _ _).set _ _).set _ _) ?_
          rw [rowsOf_set _ _ hlt (by omega), rowsOf_set _ _ hlt (by omega), rowsOf_set _ _ hlt (by omega), show k * 4 = k * 4 + 0 from rfl, rowsOf_set _ _ hlt (by omega)]
          apply rowsOf_congr
          intro p j hp hj
          by_cases e : p = k
          · subst e
            match j, hj with
            | 0, _ => simp [givenRow, Row.v]
            | 1, _ => simp [givenRow, Row.v]
            | 2, _ => simp [givenRow, Row.v]
            | 3, _ => simp [givenRow, Row.v]
          · simp [e]
        · exact ((((Kept.refl _ _).setCell (.inl (by simp)) _).setCell (.inl (by simp)) _).setCell (.inl (by simp)) _).setCell (.inl (by simp)) _
      · have e' : ((f k).handle != 0) = true := by simpa using e
        go_wp2
        go_round
        case rel => exact ⟨k + 1, by omega, by go_num, fun q hq => by
          rcases Nat.lt_succ_iff_lt_or_eq.1 hq with h | h
          · exact HB.out q h
          · subst h; exact e⟩
        case measure => simp [intOf]; omega
    · go_wp2_with (go_at_call 25; refine (fail_ok _ _).mono ?_; rintro e w' ⟨v, rfl, hv⟩)
      go_ret2
      refine ⟨_, rfl, ?_⟩
      unfold MakeOut
      rw [freeOf_none (fun q hq => HB.out q (by omega))]
      exact ⟨_, rfl, hv⟩

def goneRow (r : Row) : Row := ⟨r.times, 0, 0, 0⟩

def GoneOut (bo bl n : Nat) (f : Nat → Row) (h : Int) (w : World) (v : Value) (w' : World) : Prop :=
  match placeOf f n h with
  | some p => v = .nilIface ∧ Objs w' bo bl n (fun q => if q = p then goneRow (f p) else f q) ∧ Kept [bl] w w'
  | none => ErrOut sObjects 0 7 w v w'

theorem placeOf_lt {f : Nat → Row} {n p : Nat} {h : Int} (e : placeOf f n h = some p) : p < n ∧ (f p).handle = h := by
  unfold placeOf at e
  split at e
  · cases e
  · split at e
    · rename_i hh
      cases e
      exact hh
    · cases e

set_option maxRecDepth 100000 in
set_option maxHeartbeats 1000000 in
theorem gone_ok {w : World} {bo bl n : Nat} {f : Nat → Row} (hO : Objs w bo bl n f) (h : Int) (h0 : 0 ≤ h) (hh : h < 18446744073709551616) :
    Calls Tryd.prog 18 #[.pointer (some ⟨bo, 0, none⟩), .int .u64 h] w fun e w' => ∃ v, e = .returned v ∧ GoneOut bo bl n f h w v w' := by
  have hn := hO.small
  cases hp : placeOf f n h with
  | none =>
    have HP := hid hp
    have hof := of_ok hO h h0 hh
    rw [hp] at hof
    have HF := hid hof
    clear hp hof hO
    go_enter Tryd.func18, Tryd.ntmps18
    go_wp2_with (first | (go_at_call 29; refine HF.out.mono ?_; rintro e w' ⟨rfl, rfl⟩) | (go_at_call 25; refine (fail_ok _ _).mono ?_; rintro e w' ⟨v, rfl, hv⟩))
    go_ret
    refine ⟨_, rfl, ?_⟩
    unfold GoneOut
    rw [HP.out]
    exact hv
  | some k =>
    obtain ⟨hlt, -⟩ := placeOf_lt hp
    have c1 := hO.cell hlt 1 (by omega)
    have c3 := hO.cell hlt 2 (by omega)
    have c4 := hO.cell hlt 3 (by omega)
    have z1 := hO.rows.frozen (k * 4 + 1)
    have z2 := hO.rows.frozen (k * 4 + 2)
    have z3 := hO.rows.frozen (k * 4 + 3)
    simp only [Row.v] at c1 c3 c4
    have HP := hid hp
    have hof := of_ok hO h h0 hh
    rw [hp] at hof
    have HF := hid hof
    have hH := hid hO
    clear hp hof hO
    go_enter Tryd.func18, Tryd.ntmps18
    go_wp2_with (first | (go_at_call 29; refine HF.out.mono ?_; rintro e w' ⟨rfl, rfl⟩))
    go_ret
    refine ⟨_, rfl, ?_⟩
    unfold GoneOut
    rw [HP.out]
    refine ⟨rfl, ⟨?_, ?_, hn, hH.out.ne⟩, ?_⟩
    · exact (((hH.out.head.set_ne _ _ _ hH.out.ne).set_ne _ _ _ hH.out.ne).set_ne _ _ _ hH.out.ne)
    · refine Blk.eq (((hH.out.rows.set _ _).set _ _).set _ _) ?_
      rw [rowsOf_set _ _ hlt (by omega), rowsOf_set _ _ hlt (by omega), rowsOf_set _ _ hlt (by omega)]
      apply rowsOf_congr
      intro p j hp hj
      by_cases e : p = k
      · subst e
        match j, hj with
        | 0, _ => simp [goneRow, Row.v]
        | 1, _ => simp [goneRow, Row.v]
        | 2, _ => simp [goneRow, Row.v]
        | 3, _ => simp [goneRow, Row.v]
      · simp [e]
    · exact (((Kept.refl _ _).setCell (.inl (by simp)) _).setCell (.inl (by simp)) _).setCell (.inl (by simp)) _

theorem within_ok (v n : Int) (h1 : 1 ≤ n) (hv0 : -9223372036854775808 ≤ v) (hv1 : v ≤ 9223372036854775807) (hn : n ≤ 1000000) (w : World) :
    Calls Tryd.prog 13 #[.int .i64 v, .int .i64 n] w fun e w' => e = .returned (.int .i64 (v % n)) ∧ w = w' := by
  have hp0 := Int.emod_nonneg v (show n ≠ 0 by omega)
  have hp1 := Int.emod_lt_of_pos v (show 0 < n by omega)
  by_cases hv : 0 ≤ v
  · go_enter Tryd.func13, Tryd.ntmps13
    go_wp2
    go_ret
    exact ⟨rfl, rfl⟩
  · have e1 : v.tmod n = -((-v) % n) := by
      rw [show v = -(-v) by omega, Int.neg_tmod, Int.tmod_eq_emod_of_nonneg (by omega)]
      simp
    have hq0 := Int.emod_nonneg (-v) (show n ≠ 0 by omega)
    have hq1 := Int.emod_lt_of_pos (-v) (show 0 < n by omega)
    have e2 : v % n = if (-v) % n = 0 then 0 else n - (-v) % n := by
      have := Int.emod_add_mul_ediv (-v) n
      split
      · rename_i h
        rw [h] at this
        rw [show v = n * (-((-v) / n)) by rw [Int.mul_neg]; omega]
        exact Int.mul_emod_right _ _
      · rename_i h
        rw [show v = (n - (-v) % n) + n * (-((-v) / n) - 1) by rw [Int.mul_sub, Int.mul_neg]; omega, Int.add_mul_emod_self_left, Int.emod_eq_of_lt (by omega) (by omega)]
        rw [show (n - (-v) % n) + n * (-((-v) / n) - 1) = v by rw [Int.mul_sub, Int.mul_neg]; omega]
    rw [e2]
    generalize (-v) % n = r at *
    have e1' := hid e1
    clear e2 hp0 hp1
    by_cases hr : r = 0
    · rw [if_pos hr]
      subst hr
      have e3 : v.tmod n = 0 := e1
      clear e1
      go_enter Tryd.func13, Tryd.ntmps13
      go_wp2
      go_ret
      exact ⟨rfl, rfl⟩
    · rw [if_neg hr]
      go_enter Tryd.func13, Tryd.ntmps13
      go_wp2
      go_ret
      exact ⟨ret_int (by omega), rfl⟩

end Go.Proofs.YtecagnhffgajhaaDoor
