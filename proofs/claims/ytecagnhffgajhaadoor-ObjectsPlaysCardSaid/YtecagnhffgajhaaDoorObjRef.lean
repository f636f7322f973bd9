/- The document's Objects (distaffref09): contracts. -/
import Derived.Test.YtecagnhffgajhaaDoorObjD
import Derived.RegionTactic
import Derived.BigRegion
namespace Go.Proofs.YtecagnhffgajhaaDoor
open Go Go.RowKit

def Row.o (r : Row) : Nat → Value
  | 0 => .int .u64 r.handle
  | 1 => .int .u64 r.addr
  | _ => .int .i64 r.kind
def Row.t (r : Row) : Nat → Value := fun _ => .int .i64 r.times

structure RObjs (w : World) (ro rl rt n : Nat) (f : Nat → Row) : Prop where
  head : Blk w ro [.slice (some ⟨rl, 0, none⟩) n n, .slice (some ⟨rt, 0, none⟩) n n]
  rows : Blk w rl (rowsOf 3 (fun p => (f p).o) n)
  taken : Blk w rt (rowsOf 1 (fun p => (f p).t) n)
  small : n ≤ 64
  ne1 : ro ≠ rl
  ne2 : ro ≠ rt
  ne3 : rl ≠ rt

theorem RObjs.kept {S : List Nat} {w w' : World} {ro rl rt n : Nat} {f : Nat → Row} (h : RObjs w ro rl rt n f) (k : Kept S w w') (h1 : ro ∉ S) (h2 : rl ∉ S) (h3 : rt ∉ S) : RObjs w' ro rl rt n f :=
  ⟨h.head.kept k h1, h.rows.kept k h2, h.taken.kept k h3, h.small, h.ne1, h.ne2, h.ne3⟩
theorem RObjs.keptN {w w' : World} {ro rl rt n : Nat} {f : Nat → Row} (h : RObjs w ro rl rt n f) (k : Kept [] w w') : RObjs w' ro rl rt n f := h.kept k (by simp) (by simp) (by simp)
theorem RObjs.c0 {w : World} {ro rl rt n : Nat} {f : Nat → Row} (h : RObjs w ro rl rt n f) : w.cell? ⟨ro, 0, none⟩ = some (.slice (some ⟨rl, 0, none⟩) n n) := h.head.cell rfl
theorem RObjs.c1 {w : World} {ro rl rt n : Nat} {f : Nat → Row} (h : RObjs w ro rl rt n f) : w.cell? ⟨ro, 1, none⟩ = some (.slice (some ⟨rt, 0, none⟩) n n) := h.head.cell rfl
theorem RObjs.cell {w : World} {ro rl rt n : Nat} {f : Nat → Row} (h : RObjs w ro rl rt n f) {p : Nat} (hp : p < n) (j : Nat) (hj : j < 3) : w.cell? ⟨rl, p * 3 + j, none⟩ = some ((f p).o j) :=
  h.rows.cell (rowsOf_get _ hp hj)
theorem RObjs.tcell {w : World} {ro rl rt n : Nat} {f : Nat → Row} (h : RObjs w ro rl rt n f) {p : Nat} (hp : p < n) : w.cell? ⟨rt, p, none⟩ = some (.int .i64 (f p).times) := by
  have := h.taken.cell (rowsOf_get (fun p => (f p).t) hp (show 0 < 1 by omega))
  simpa [Row.t] using this

/-- Each handle tells its place. -/
def GoodF (f : Nat → Row) (n : Nat) : Prop := ∀ p, p < n → 0 ≤ (f p).handle ∧ ((f p).handle ≠ 0 → ((f p).handle - 1) % 64 = (p : Int))

theorem info_object : (Tryd.prog.info? 47).map (fun i => (i.zero, i.size, i.bytes)) = some (some (.agg #[.int .u64 0, .int .u64 0, .int .i64 0]), 3, 24) := by kernel_rfl
theorem info_int : (Tryd.prog.info? 3).map (fun i => (i.zero, i.size, i.bytes)) = some (some (.int .i64 0), 1, 8) := by kernel_rfl

set_option maxRecDepth 100000 in
set_option maxHeartbeats 1000000 in
theorem rnew_ok (n : Nat) (h1 : 1 ≤ n) (h2 : n ≤ 64) (w : World) :
    Calls Tryd.prog 14 #[.int .i64 n] w fun e w' => ∃ ro rl rt, e = .returned (.tuple #[.pointer (some ⟨ro, 0, none⟩), .pointer none]) ∧ w.heap.size ≤ ro ∧ w.heap.size ≤ rl ∧ w.heap.size ≤ rt ∧ RObjs w' ro rl rt n (fun _ => row0) ∧ Kept [] w w' := by
  have hmk1 := mk_rows Tryd.underlying44 info_object row0.o rfl n (by omega) (by omega)
  have hmk2 := mk_rows Tryd.underlying59 info_int row0.t rfl n (by omega) (by omega)
  go_enter Tryd.func14, Tryd.ntmps14
  go_wp2_with fail
  go_region
  · go_wp2_with fail
    go_ret2
    exact ⟨w.heap.size + 2, w.heap.size, w.heap.size + 1, rfl, by omega, by omega, by omega, ⟨Blk.newA _ _ (by simp), ((Blk.new _ _ _).alloc _).alloc _, (Blk.newA _ _ (by simp)).alloc _, h2, by omega, by omega, by omega⟩, ((((Kept.refl _ _).alloc _).alloc _).alloc _).drew⟩
  · go_wp2_with fail
    go_ret2
    exact ⟨w.heap.size + 2, w.heap.size + 1, w.heap.size, rfl, by omega, by omega, by omega, ⟨Blk.newA _ _ (by simp), (Blk.newA _ _ (by simp)).alloc _, ((Blk.new _ _ _).alloc _).alloc _, h2, by omega, by omega, by omega⟩, ((((Kept.refl _ _).alloc _).alloc _).alloc _).drew⟩

/-- The place of a handle; -1: none. -/
def placeI (f : Nat → Row) (n : Nat) (h : Int) : Int := match placeOf f n h with | some p => p | none => -1
theorem placeI_some {f : Nat → Row} {n p : Nat} {h : Int} (e : placeOf f n h = some p) : placeI f n h = p := by unfold placeI; rw [e]
theorem placeI_none {f : Nat → Row} {n : Nat} {h : Int} (e : placeOf f n h = none) : placeI f n h = -1 := by unfold placeI; rw [e]

set_option maxRecDepth 100000 in
set_option maxHeartbeats 1000000 in
theorem place_ok {w : World} {ro rl rt n : Nat} {f : Nat → Row} (hO : RObjs w ro rl rt n f) (hG : GoodF f n) (h : Int) (h0 : 0 ≤ h) (hh : h < 18446744073709551616) :
    Calls Tryd.prog 30 #[.pointer (some ⟨ro, 0, none⟩), .int .u64 h] w fun e w' => e = .returned (.int .i64 (placeI f n h)) ∧ w = w' := by
  have c0 := hO.c0
  have hn := hO.small
  have HO := hid hO
  have HG := hid hG
  clear hO hG
  by_cases e0 : h = 0
  · subst e0
    rw [placeI_none (show placeOf f n 0 = none from rfl)]
    go_enter Tryd.func30, Tryd.ntmps30
    go_wp2_with fail
    go_loop [5] (fun i => i = .int .i64 0) (fun _ => 0)
    case atStart => rfl
    case round =>
      subst hrel
      by_cases hz : 0 < n
      · go_wp2_with fail
        go_ret
        exact ⟨rfl, rfl⟩
      · go_wp2_with fail
        go_ret
        exact ⟨rfl, rfl⟩
  · have e0' : (h != 0) = true := by simpa using e0
    have HE0 := hid e0
    clear e0
    go_enter Tryd.func30, Tryd.ntmps30
    go_wp2_with fail
    go_loop [5] (fun i => ∃ k : Nat, k ≤ n ∧ i = .int .i64 k ∧ ∀ q, q < k → (f q).handle ≠ h) (fun i => n - (intOf i).toNat)
    case atStart => exact ⟨0, Nat.zero_le _, rfl, fun q hq => by omega⟩
    case round =>
      obtain ⟨k, hk, rfl, hb⟩ := hrel
      have HB := hid hb
      clear hb
      by_cases hlt : k < n
      · have c1 := HO.out.cell hlt 0 (by omega)
        simp only [Row.o, Nat.add_zero] at c1
        by_cases e : (f k).handle = h
        · have hp : placeOf f n h = some k := by
            have hg := (HG.out k hlt).2 (by rw [e]; exact HE0.out)
            rw [e] at hg
            unfold placeOf
            rw [if_neg HE0.out, show ((h - 1) % 64).toNat = k by omega, if_pos ⟨hlt, e⟩]
          rw [e] at c1
          have HP := hid hp
          clear hp e
          go_wp2_with fail
          go_ret
          exact ⟨ret_int (placeI_some HP.out).symm, rfl⟩
        · have e' : ((f k).handle == h) = false := by simpa using e
          go_wp2_with fail
          go_round
          case rel => exact ⟨k + 1, by omega, by go_num, fun q hq => by
            rcases Nat.lt_succ_iff_lt_or_eq.1 hq with hq | hq
            · exact HB.out q hq
            · subst hq; exact e⟩
          case measure => simp [intOf]; omega
      · have hp : placeOf f n h = none := by
          unfold placeOf
          rw [if_neg HE0.out, if_neg]
          rintro ⟨x1, x2⟩
          exact HB.out _ (by omega) x2
        have HP := hid hp
        clear hp
        go_wp2_with fail
        go_ret
        exact ⟨ret_int (placeI_none HP.out).symm, rfl⟩

end Go.Proofs.YtecagnhffgajhaaDoor
