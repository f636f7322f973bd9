/- package objects: Find, Kind; the document's Objects (distaffref09): its places. -/
import Derived.Test.YtecagnhffgajhaaDoorObjLen
import Derived.Test.YtecagnhffgajhaaDoorSame
namespace Go.Proofs.YtecagnhffgajhaaDoor
open Go Go.RowKit

def FindOut (n : Nat) (f : Nat → Row) (h kind : Int) (w : World) (v : Value) (w' : World) : Prop :=
  match placeOf f n h with
  | some p => if (f p).kind = kind then v = .tuple #[.int .u64 (f p).addr, .nilIface] ∧ w = w' else ∃ x, v = .tuple #[.int .u64 0, x] ∧ ErrOut sObjects 0 1 w x w'
  | none => ∃ x, v = .tuple #[.int .u64 0, x] ∧ ErrOut sObjects 0 7 w x w'

set_option maxRecDepth 100000 in
set_option maxHeartbeats 1000000 in
theorem find_ok {w : World} {bo bl n : Nat} {f : Nat → Row} (hO : Objs w bo bl n f) (h kind : Int) (h0 : 0 ≤ h) (hh : h < 18446744073709551616) :
    Calls Tryd.prog 16 #[.pointer (some ⟨bo, 0, none⟩), .int .u64 h, .int .i64 kind] w fun e w' => ∃ v, e = .returned v ∧ FindOut n f h kind w v w' := by
  cases hp : placeOf f n h with
  | none =>
    have HP := hid hp
    have hof := of_ok hO h h0 hh
    rw [hp] at hof
    have HF := hid hof
    clear hp hof hO
    go_enter Tryd.func16, Tryd.ntmps16
    go_wp2_with (first | (go_at_call 29; refine HF.out.mono ?_; rintro e w' ⟨rfl, rfl⟩) | (go_at_call 25; refine (fail_ok _ _).mono ?_; rintro e w' ⟨v, rfl, hv⟩))
    go_ret2
    refine ⟨_, rfl, ?_⟩
    unfold FindOut
    rw [HP.out]
    exact ⟨_, rfl, hv⟩
  | some k =>
    obtain ⟨hlt, -⟩ := placeOf_lt hp
    have c3 := hO.cell hlt 2 (by omega)
    have c4 := hO.cell hlt 3 (by omega)
    simp only [Row.v] at c3 c4
    have HP := hid hp
    have hof := of_ok hO h h0 hh
    rw [hp] at hof
    have HF := hid hof
    clear hp hof hO
    by_cases e : (f k).kind = kind
    · have e' : ((f k).kind != kind) = false := by simpa using e
      have HE := hid e
      clear e
      go_enter Tryd.func16, Tryd.ntmps16
      go_wp2_with (first | (go_at_call 29; refine HF.out.mono ?_; rintro e w' ⟨rfl, rfl⟩))
      go_ret2
      refine ⟨_, rfl, ?_⟩
      unfold FindOut
      rw [HP.out]
      show if (f k).kind = kind then _ else _
      rw [if_pos HE.out]
      exact ⟨rfl, rfl⟩
    · have e' : ((f k).kind != kind) = true := by simpa using e
      have HE := hid e
      clear e
      go_enter Tryd.func16, Tryd.ntmps16
      go_wp2_with (first | (go_at_call 29; refine HF.out.mono ?_; rintro e w' ⟨rfl, rfl⟩) | (go_at_call 25; refine (fail_ok _ _).mono ?_; rintro e w' ⟨v, rfl, hv⟩))
      go_ret2
      refine ⟨_, rfl, ?_⟩
      unfold FindOut
      rw [HP.out]
      show if (f k).kind = kind then _ else _
      rw [if_neg HE.out]
      exact ⟨_, rfl, hv⟩

def kindOf (f : Nat → Row) (n : Nat) (h : Int) : Int := match placeOf f n h with | some p => (f p).kind | none => 0

theorem kind_ok {w : World} {bo bl n : Nat} {f : Nat → Row} (hO : Objs w bo bl n f) (h : Int) (h0 : 0 ≤ h) (hh : h < 18446744073709551616) :
    Calls Tryd.prog 20 #[.pointer (some ⟨bo, 0, none⟩), .int .u64 h] w fun e w' => e = .returned (.int .i64 (kindOf f n h)) ∧ w = w' := by
  unfold kindOf
  cases hp : placeOf f n h with
  | none =>
    have hof := of_ok hO h h0 hh
    rw [hp] at hof
    have HF := hid hof
    clear hp hof hO
    go_enter Tryd.func20, Tryd.ntmps20
    go_wp2_with (first | (go_at_call 29; refine HF.out.mono ?_; rintro e w' ⟨rfl, rfl⟩))
    go_ret
    exact ⟨rfl, rfl⟩
  | some k =>
    obtain ⟨hlt, -⟩ := placeOf_lt hp
    have c3 := hO.cell hlt 2 (by omega)
    simp only [Row.v] at c3
    have hof := of_ok hO h h0 hh
    rw [hp] at hof
    have HF := hid hof
    clear hp hof hO
    go_enter Tryd.func20, Tryd.ntmps20
    go_wp2_with (first | (go_at_call 29; refine HF.out.mono ?_; rintro e w' ⟨rfl, rfl⟩))
    go_ret
    exact ⟨rfl, rfl⟩

end Go.Proofs.YtecagnhffgajhaaDoor
